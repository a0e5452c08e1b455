/- The whole: a file found on the simulated disk; The whole: a step of the simulated disk, where no fall is set; The whole: a change of the simulated disk done on a map of files; The whole: a new simulated disk. -/
import Derived.Test.YtbhfbdcmamodcaaGreatDoorL13
import Derived.Test.YtbhfbdcmamodcaaGreatDoorL04
import Derived.Maps.Own
import Derived.Maps.OwnSet
import Derived.StringKeys
set_option linter.unusedVariables false
set_option linter.unusedSimpArgs false
namespace Go.Proofs.YtbhfbdcmamodcaaGreatDoor
open Go.RowKit Go.Maps
def fileR (v : Value) : Option (DataW Unit × List MemPlace) :=
  match v with
  | .pointer (some ⟨b, 0, none⟩) => some (.lit (.int .i64 (b : Nat)), [])
  | .pointer none => some (.lit (.int .i64 (-1)), [])
  | _ => none
def keyF (s : ByteArray) : Lit := .string s.data.toList
theorem fileR_at {v : Value} {b : Nat} {ps : List MemPlace} (h : fileR v = some (.lit (.int .i64 (b : Nat)), ps)) : v = .pointer (some ⟨b, 0, none⟩) := by
  unfold fileR at h
  split at h
  · rename_i b'
    simp at h
    obtain ⟨h1, _⟩ := h
    have : b' = b := by omega
    subst this
    rfl
  · simp at h
  · cases h
set_option maxHeartbeats 1000000 in
set_option maxRecDepth 100000 in
theorem sFind (p m n : Nat) (D : DataW Unit) (s : ByteArray) (w : World) (c6 : w.cell? ⟨p, 6, none⟩ = some (.bool false)) (c2 : w.cell? ⟨p, 2, none⟩ = some (.map (some m))) (hD : w.ownsMap Tryz.prog 9 fileR m n D) (hs : s.size ≤ maxLen) :
    Calls Tryz.prog 45 #[.pointer (some ⟨p, 0, none⟩), .string s] w fun e w' => w' = w ∧ ((Maps.has D (keyF s) = true ∧ ∃ v ps, e = .returned (.tuple #[v, .int .i64 0]) ∧ fileR v = some (D.atKey (keyF s) (.lit (.int .i64 (-1))), ps)) ∨ (Maps.has D (keyF s) = false ∧ e = .returned (.tuple #[.pointer none, .int .i64 6]))) := by
  have hk : keyOf Tryz.prog 9 (.string s) = some (keyF s) := WideMaps.keyOf_string_mk (P := Tryz.prog) Tryz.underlying9 hs
  obtain ⟨v, ps, hrun, hv⟩ := hD.look_ok (string_keyed Tryz.underlying9) Tryz.underlying70 (z := .pointer none) rfl (zd := .lit (.int .i64 (-1))) rfl hk
  obtain ⟨r, hr⟩ : ∃ r, Maps.has D (keyF s) = r := ⟨_, rfl⟩
  rw [hr] at hrun ⊢
  have HV := Lib.hid hv
  clear hv hr hD hk
  cases r with
  | true =>
    go_enter Tryz.func45, Tryz.ntmps45
    go_wp2
    exact bodyPost_ret (v := .tuple #[v, .int .i64 0]) (by simp [results, Tryz.results45, go_sem]) rfl ⟨rfl, .inl ⟨trivial, v, ps, rfl, HV.out⟩⟩
  | false =>
    go_enter Tryz.func45, Tryz.ntmps45
    go_wp2
    exact bodyPost_ret (v := .tuple #[.pointer none, .int .i64 6]) (by simp [results, Tryz.results45, go_sem]) rfl ⟨rfl, .inr ⟨trivial, rfl⟩⟩
end Go.Proofs.YtbhfbdcmamodcaaGreatDoor
namespace Go.Proofs.YtbhfbdcmamodcaaGreatDoor
open Go.RowKit Go.Maps
theorem sOff (p : Nat) (w : World) (c6 : w.cell? ⟨p, 6, none⟩ = some (.bool false)) : Calls Tryz.prog 67 #[.pointer (some ⟨p, 0, none⟩)] w fun e w' => e = .returned (.bool false) ∧ w' = w := by
  go_enter Tryz.func67, Tryz.ntmps67
  go_wp2
  go_ret
  exact ⟨rfl, rfl⟩
set_option maxHeartbeats 1000000 in
set_option maxRecDepth 100000 in
theorem sStepCreate (p : Nat) (caps : Array Value) (w : World) (c5 : w.cell? ⟨p, 5, none⟩ = some (.int .i64 0)) (R : World → Prop) (h : Calls Tryz.prog 56 caps w fun e w' => e = .returned (.tuple #[]) ∧ R w') :
    Calls Tryz.prog 55 #[.pointer (some ⟨p, 0, none⟩), .func (.func 56) #[] caps] w fun e w' => e = .returned (.int .i64 0) ∧ R w' := by
  have H := Lib.hid h
  clear h
  go_enter Tryz.func55, Tryz.ntmps55
  go_wp2_with (go_at_call 56; (with_reducible refine H.out.mono ?_); rintro e w2 ⟨rfl, hr⟩; have HR := Lib.hid hr; clear hr)
  go_ret
  exact ⟨rfl, HR.out⟩
set_option maxHeartbeats 1000000 in
set_option maxRecDepth 100000 in
theorem sStepAppend (p : Nat) (caps : Array Value) (w : World) (c5 : w.cell? ⟨p, 5, none⟩ = some (.int .i64 0)) (R : World → Prop) (h : Calls Tryz.prog 140 caps w fun e w' => e = .returned (.tuple #[]) ∧ R w') :
    Calls Tryz.prog 55 #[.pointer (some ⟨p, 0, none⟩), .func (.func 140) #[] caps] w fun e w' => e = .returned (.int .i64 0) ∧ R w' := by
  have H := Lib.hid h
  clear h
  go_enter Tryz.func55, Tryz.ntmps55
  go_wp2_with (go_at_call 140; (with_reducible refine H.out.mono ?_); rintro e w2 ⟨rfl, hr⟩; have HR := Lib.hid hr; clear hr)
  go_ret
  exact ⟨rfl, HR.out⟩
set_option maxHeartbeats 1000000 in
set_option maxRecDepth 100000 in
theorem sStepSync (p : Nat) (caps : Array Value) (w : World) (c5 : w.cell? ⟨p, 5, none⟩ = some (.int .i64 0)) (R : World → Prop) (h : Calls Tryz.prog 130 caps w fun e w' => e = .returned (.tuple #[]) ∧ R w') :
    Calls Tryz.prog 55 #[.pointer (some ⟨p, 0, none⟩), .func (.func 130) #[] caps] w fun e w' => e = .returned (.int .i64 0) ∧ R w' := by
  have H := Lib.hid h
  clear h
  go_enter Tryz.func55, Tryz.ntmps55
  go_wp2_with (go_at_call 130; (with_reducible refine H.out.mono ?_); rintro e w2 ⟨rfl, hr⟩; have HR := Lib.hid hr; clear hr)
  go_ret
  exact ⟨rfl, HR.out⟩
set_option maxHeartbeats 1000000 in
set_option maxRecDepth 100000 in
theorem sStepSyncNames (p : Nat) (caps : Array Value) (w : World) (c5 : w.cell? ⟨p, 5, none⟩ = some (.int .i64 0)) (R : World → Prop) (h : Calls Tryz.prog 58 caps w fun e w' => e = .returned (.tuple #[]) ∧ R w') :
    Calls Tryz.prog 55 #[.pointer (some ⟨p, 0, none⟩), .func (.func 58) #[] caps] w fun e w' => e = .returned (.int .i64 0) ∧ R w' := by
  have H := Lib.hid h
  clear h
  go_enter Tryz.func55, Tryz.ntmps55
  go_wp2_with (go_at_call 58; (with_reducible refine H.out.mono ?_); rintro e w2 ⟨rfl, hr⟩; have HR := Lib.hid hr; clear hr)
  go_ret
  exact ⟨rfl, HR.out⟩
set_option maxHeartbeats 1000000 in
set_option maxRecDepth 100000 in
theorem sStepRename (p : Nat) (caps : Array Value) (w : World) (c5 : w.cell? ⟨p, 5, none⟩ = some (.int .i64 0)) (R : World → Prop) (h : Calls Tryz.prog 205 caps w fun e w' => e = .returned (.tuple #[]) ∧ R w') :
    Calls Tryz.prog 55 #[.pointer (some ⟨p, 0, none⟩), .func (.func 205) #[] caps] w fun e w' => e = .returned (.int .i64 0) ∧ R w' := by
  have H := Lib.hid h
  clear h
  go_enter Tryz.func55, Tryz.ntmps55
  go_wp2_with (go_at_call 205; (with_reducible refine H.out.mono ?_); rintro e w2 ⟨rfl, hr⟩; have HR := Lib.hid hr; clear hr)
  go_ret
  exact ⟨rfl, HR.out⟩
set_option maxHeartbeats 1000000 in
set_option maxRecDepth 100000 in
theorem sStepRemove (p : Nat) (caps : Array Value) (w : World) (c5 : w.cell? ⟨p, 5, none⟩ = some (.int .i64 0)) (R : World → Prop) (h : Calls Tryz.prog 157 caps w fun e w' => e = .returned (.tuple #[]) ∧ R w') :
    Calls Tryz.prog 55 #[.pointer (some ⟨p, 0, none⟩), .func (.func 157) #[] caps] w fun e w' => e = .returned (.int .i64 0) ∧ R w' := by
  have H := Lib.hid h
  clear h
  go_enter Tryz.func55, Tryz.ntmps55
  go_wp2_with (go_at_call 157; (with_reducible refine H.out.mono ?_); rintro e w2 ⟨rfl, hr⟩; have HR := Lib.hid hr; clear hr)
  go_ret
  exact ⟨rfl, HR.out⟩
end Go.Proofs.YtbhfbdcmamodcaaGreatDoor
namespace Go.Proofs.YtbhfbdcmamodcaaGreatDoor
open Go.RowKit Go.Maps
theorem turned_upd {w x : World} {b : Nat} (h : w.mapTurned x b) : Upd (· = b) w x := by
  exact (Upd.refl (fun k => k = b) w).grown h.grown (fun g e => .inl (by cases e; rfl))
set_option maxHeartbeats 1000000 in
set_option maxRecDepth 100000 in
/-- A change that brings a file in, or gives it another name. -/
theorem sDo (from_ to_ : ByteArray) (f m n : Nat) (D : DataW Unit) (w : World) (hf : from_.size ≤ maxLen) (ht : to_.size ≤ maxLen) (hn : n < maxLen) (hD : w.ownsMap Tryz.prog 9 fileR m n D) :
    Calls Tryz.prog 122 #[.agg #[.string from_, .string to_, .pointer (some ⟨f, 0, none⟩)], .map (some m)] w fun e w' => e = .returned (.tuple #[]) ∧ w'.ownsMap Tryz.prog 9 fileR m (n + 1) ((D.del (keyF from_)).put (keyF to_) (.lit (.int .i64 (f : Nat)))) ∧ Upd (· = m) w w' := by
  have k1 : keyOf Tryz.prog 9 (.string from_) = some (keyF from_) := WideMaps.keyOf_string_mk (P := Tryz.prog) Tryz.underlying9 hf
  have k2 : keyOf Tryz.prog 9 (.string to_) = some (keyF to_) := WideMaps.keyOf_string_mk (P := Tryz.prog) Tryz.underlying9 ht
  obtain ⟨o, ho⟩ : ∃ o, Obj.cells #[.string from_, .string to_, .pointer (some ⟨f, 0, none⟩)] 135 = o := ⟨_, rfl⟩
  obtain ⟨W1, hW1⟩ : ∃ W1, w.alloc o = W1 := ⟨_, rfl⟩
  have hD1 : W1.ownsMap Tryz.prog 9 fileR m n D := by rw [← hW1]; exact hD.alloc o
  obtain ⟨W2, r2, hD2, t2⟩ := hD1.drop (string_keyed Tryz.underlying9) Tryz.underlying70 k1 0
  obtain ⟨W3, r3, hD3, t3⟩ := hD2.store (string_keyed Tryz.underlying9) Tryz.underlying70 hn k2 (val := .pointer (some ⟨f, 0, none⟩)) (d := .lit (.int .i64 (f : Nat))) (ps := []) rfl
  have HU := Lib.hid (show Upd (· = m) w W3 from ((hW1 ▸ (Upd.refl (fun k => k = m) w).alloc o).trans (turned_upd t2) (fun i e => .inl e)).trans (turned_upd t3) (fun i e => .inl e))
  have HD3 := Lib.hid hD3
  have hb1 : W1.heap[w.heap.size]? = some o := by rw [← hW1]; exact heap_alloc_new w o
  have hm : m < w.heap.size := hD.lt
  have hz1 : W1.heap.size = w.heap.size + 1 := by rw [← hW1]; simp
  have hb2 : W2.heap[w.heap.size]? = some o := by rw [(turned_upd t2).block _ (by omega) (by show ¬ (w.heap.size = m); omega)]; exact hb1
  subst ho
  have e0 : W1.cell? ⟨w.heap.size, 0, none⟩ = some (.string from_) := by rw [cell_of_row _ _ _ _ _ _ hb1]; rfl
  have e1 : W2.cell? ⟨w.heap.size, 1, none⟩ = some (.string to_) := by rw [cell_of_row _ _ _ _ _ _ hb2]; rfl
  have e2 : W2.cell? ⟨w.heap.size, 2, none⟩ = some (.pointer (some ⟨f, 0, none⟩)) := by rw [cell_of_row _ _ _ _ _ _ hb2]; rfl
  clear hb1 hb2 hz1 hD hD1 hD2 hD3 t2 t3 k1 k2
  go_enter Tryz.func122, Tryz.ntmps122
  go_wp2
  exact bodyPost_end (v := .tuple #[]) (by simp [results, Tryz.results122, go_sem]) rfl ⟨rfl, HD3.out, HU.out⟩
set_option maxHeartbeats 1000000 in
set_option maxRecDepth 100000 in
/-- A change that takes a name away. -/
theorem sDoNil (from_ to_ : ByteArray) (m n : Nat) (D : DataW Unit) (w : World) (hf : from_.size ≤ maxLen) (hD : w.ownsMap Tryz.prog 9 fileR m n D) :
    Calls Tryz.prog 122 #[.agg #[.string from_, .string to_, .pointer none], .map (some m)] w fun e w' => e = .returned (.tuple #[]) ∧ w'.ownsMap Tryz.prog 9 fileR m n (D.del (keyF from_)) ∧ Upd (· = m) w w' := by
  have k1 : keyOf Tryz.prog 9 (.string from_) = some (keyF from_) := WideMaps.keyOf_string_mk (P := Tryz.prog) Tryz.underlying9 hf
  obtain ⟨o, ho⟩ : ∃ o, Obj.cells #[.string from_, .string to_, .pointer none] 135 = o := ⟨_, rfl⟩
  obtain ⟨W1, hW1⟩ : ∃ W1, w.alloc o = W1 := ⟨_, rfl⟩
  have hD1 : W1.ownsMap Tryz.prog 9 fileR m n D := by rw [← hW1]; exact hD.alloc o
  obtain ⟨W2, r2, hD2, t2⟩ := hD1.drop (string_keyed Tryz.underlying9) Tryz.underlying70 k1 0
  have HU := Lib.hid (show Upd (· = m) w W2 from ((hW1 ▸ (Upd.refl (fun k => k = m) w).alloc o).trans (turned_upd t2) (fun i e => .inl e)))
  have HD2 := Lib.hid hD2
  have hb1 : W1.heap[w.heap.size]? = some o := by rw [← hW1]; exact heap_alloc_new w o
  have hm : m < w.heap.size := hD.lt
  have hz1 : W1.heap.size = w.heap.size + 1 := by rw [← hW1]; simp
  have hb2 : W2.heap[w.heap.size]? = some o := by rw [(turned_upd t2).block _ (by omega) (by show ¬ (w.heap.size = m); omega)]; exact hb1
  subst ho
  have e0 : W1.cell? ⟨w.heap.size, 0, none⟩ = some (.string from_) := by rw [cell_of_row _ _ _ _ _ _ hb1]; rfl
  have e2 : W2.cell? ⟨w.heap.size, 2, none⟩ = some (.pointer none) := by rw [cell_of_row _ _ _ _ _ _ hb2]; rfl
  clear hb1 hb2 hz1 hD hD1 hD2 t2 k1
  go_enter Tryz.func122, Tryz.ntmps122
  go_wp2
  exact bodyPost_end (v := .tuple #[]) (by simp [results, Tryz.results122, go_sem]) rfl ⟨rfl, HD2.out, HU.out⟩
end Go.Proofs.YtbhfbdcmamodcaaGreatDoor
namespace Go.Proofs.YtbhfbdcmamodcaaGreatDoor
open Go.RowKit Go.Maps
set_option maxHeartbeats 1000000 in
set_option maxRecDepth 100000 in
theorem sNew (q : Nat) (h : q ≤ 16777216) (w : World) : Calls Tryz.prog 5 #[.int .i64 q] w fun e w' => e = .returned (.tuple #[.pointer (some ⟨w.heap.size + 2, 0, none⟩), .int .i64 0]) ∧ w' = ((w.alloc (.map #[] 0)).alloc (.map #[] 0)).alloc (.cells #[.int .i64 q, .int .i64 0, .map (some w.heap.size), .map (some (w.heap.size + 1)), .slice none 0 0, .int .i64 0, .bool false] 73) := by
  have d1 : decide (((q : Nat) : Int) < 0) = false := by simp
  have hmk : ∀ W : World, (Instr.makeMap 70 none).run Tryz.prog W = .ok (.map (some W.heap.size)) (W.alloc (.map #[] 0)) := fun W => by kernel_rfl
  have d2 : decide (((q : Nat) : Int) > 16777216) = false := by simp; omega
  go_enter Tryz.func5, Tryz.ntmps5
  go_wp2
  exact bodyPost_ret (v := .tuple #[.pointer (some ⟨w.heap.size + 2, 0, none⟩), .int .i64 0]) (by simp [results, Tryz.results5, go_sem]) rfl ⟨rfl, rfl⟩
end Go.Proofs.YtbhfbdcmamodcaaGreatDoor
