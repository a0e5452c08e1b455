/- Walk of the law PackLays. -/
import Derived.Test.YtbbcgafkpobndaaPackL5
import Derived.Test.YtbbcgafkpobndaaPackB
set_option linter.unusedVariables false
set_option linter.unusedSimpArgs false
namespace Go.Proofs.Ytbbcgafkpobndaa
open Go.RowKit PackMath

/-- A cell above all of a writer is kept by what it does. -/
theorem kept_cell {B p : Nat} {w0 w w1 : World} {v v1 : Value} {bs : List UInt8} (h : IsWr B w0 p v bs) (hm : Moved w w1 p v v1) {b i : Nat} {x : Value} (hb : w0.heap.size ≤ b) (hc : w.cell? ⟨b, i, none⟩ = some x) : w1.cell? ⟨b, i, none⟩ = some x :=
  (World.cell?_of_block (a := ⟨b, i, none⟩) (hm.block b (World.block_lt_of_cell? w ⟨b, i, none⟩ hc) (by have := (Array.getElem?_eq_some_iff.1 h.cell).1; omega) (fun e => by have := own_lt h.own _ e.symm; omega))).trans hc

theorem len_is (B p : Nat) (w : World) (v : Value) (bs : List UInt8) (S : ByteArray) (h : IsWr B w p v bs) (hS : S.data.toList = bs) :
    Calls Try.prog 12 #[.pointer (some ⟨p, 0, none⟩)] w fun e w' => e = .returned (.int .i64 (S.size : Nat)) ∧ w = w' := by
  subst hS
  have := len_any B p w v _ h
  simpa using this
theorem bytes_is (B p : Nat) (w : World) (v : Value) (bs : List UInt8) (S : ByteArray) (h : IsWr B w p v bs) (hS : S.data.toList = bs) :
    Calls Try.prog 13 #[.pointer (some ⟨p, 0, none⟩)] w fun e w' => e = .returned (.string S) ∧ w = w' := by
  subst hS
  exact bytes_any B p w v _ h
set_option maxHeartbeats 1600000 in
set_option maxRecDepth 100000 in
theorem packLays_any (ad : Option Addr) (cap : Nat) (l : List OpD) (w : World) (hl : l.length ≤ maxLen) (hz : ∀ d ∈ l, d.s.size ≤ 140737488355328) (h : OpsAt w ad l) :
    Calls Try.prog 3 #[.slice ad l.length cap] w fun e w' => e = .returned (.bool true) ∧ Below w.heap.size w w' := by
  unfold maxLen at hl
  have HO := Lib.hid h
  have HZ := Lib.hid hz
  clear h hz
  go_enter Try.func3, Try.ntmps3
  go_wp2_with (go_at_call 9; refine (lays_any w).mono ?_; rintro e w1 ⟨rfl, hb1⟩; have HB1 := Lib.hid hb1; clear hb1)
  go_wp2_with (go_at_call 10; refine (new_any w1).mono ?_; rintro e w2 ⟨rfl, rfl⟩)
  have H0 := Lib.hid (duet_new w1)
  have HB2 := Lib.hid (bl_alloc (bl_alloc (Below.refl w1.heap.size w1) (.cells #[.slice none 0 0] 28)) (.cells #[.slice none 0 0] 28))
  have HP1 := Lib.hid HB1.out.size
  go_loopw [5, 16] (fun sv i wr => ∃ (k : Nat) (S : ByteArray) (v u : Value), k ≤ l.length ∧ sv = .string S ∧ i = .int .i64 k ∧ S.data.toList = layAll (l.take k) ∧ S.size ≤ 1048576 ∧ Duet w1.heap.size wr w1.heap.size v (layAll (l.take k)) (w1.heap.size + 1) u (layAll (l.take k)) ∧ Below w1.heap.size w1 wr) (fun _ i _ => l.length - (intOf i).toNat)
  case atStart => exact ⟨0, ⟨#[]⟩, _, _, Nat.zero_le _, rfl, rfl, rfl, Nat.zero_le _, H0.out, HB2.out⟩
  case round =>
    obtain ⟨k, S, v, u, hk, rfl, rfl, hS, hS20, hd, hbb⟩ := hrel
    have HS := Lib.hid hS; have HD := Lib.hid hd; have HBB := Lib.hid hbb
    clear hS hd hbb
    have HSL := Lib.hid (show S.size = (layAll (l.take k)).length from by rw [← HS.out]; simp)
    by_cases hkl : k < l.length
    · obtain ⟨x1, x2, b0, off, rfl, x4, x5, x6, x7⟩ := HO.out.below (HB1.out.trans (HBB.out.mono HP1.out)) k hkl
      have hz := HZ.out l[k] (List.getElem_mem hkl)
      have HSN := Lib.hid (layAll_snoc l k hkl)
      generalize l[k] = o at x1 x2 x5 x6 x7 hz HSN
      have hln := layB_len o.k o.n o.s x2 (by omega)
      have hbl : (layAll (l.take k)).length ≤ 1048576 := by have := HSL.out; omega
      generalize layAll (l.take k) = L at *
      have HBX := Lib.hid (bl_alloc (Below.refl _ wr) (.cells #[.int .u8 o.k, .int .u64 o.n, .string o.s] 31))
      have HPX := Lib.hid (Nat.le_trans HBB.out.size HBX.out.size)
      have HDX := Lib.hid (HD.out.below HBX.out)
      have HC0 := Lib.hid (show ∀ i x, #[Value.int .u8 o.k, .int .u64 o.n, .string o.s][i]? = some x → (wr.alloc (.cells #[.int .u8 o.k, .int .u64 o.n, .string o.s] 31)).cell? ⟨wr.heap.size, i, none⟩ = some x from fun i x hx => by rw [World.cell?_alloc_mark]; exact hx)
      have C1 := Lib.hid (lay_at w1.heap.size w1.heap.size _ v L _ _ o.k o.n rfl rfl o.s x1 x2 (by omega) HDX.out.fst HPX.out (by omega))
      go_wp2_with (go_at_call 11; (with_reducible refine C1.out.mono ?_); rintro r wa ⟨S1, v1, rfl, hS1, hw, hm⟩; have HDA := Lib.hid (HDX.out.step hw hm); have HBA := Lib.hid (HBB.out.trans ((HBX.out.mono HBB.out.size).trans (Moved.below hm HDX.out.fst HPX.out))); have HPA := Lib.hid HBA.out.size; have a0 := kept_cell HD.out.fst hm (Nat.le_refl _) (HC0.out 0 _ rfl); have a1 := kept_cell HD.out.fst hm (Nat.le_refl _) (HC0.out 1 _ rfl); have a2 := kept_cell HD.out.fst hm (Nat.le_refl _) (HC0.out 2 _ rfl); have hz1 : S1.size ≤ o.s.size + 20 := (by have e : S1.size = S1.data.toList.length := (by simp); rw [e, hS1]; exact hln); have hq : ¬ (9223372036854775807 < S.size + S1.size) := (by omega); have HS1 := Lib.hid hS1; clear hw hm hS1)
      go_wp2_with fail
      generalize hT : S ++ S1 = T
      have HT := Lib.hid hT
      clear hT
      have HTS := Lib.hid (show T.size = S.size + S1.size from by rw [← HT.out, ByteArray.size_append])
      have C2 := Lib.hid (lay_at w1.heap.size (w1.heap.size + 1) _ u L _ _ o.k o.n rfl rfl o.s x1 x2 (by omega) HDA.out.snd HPA.out (by omega))
      have HTL := Lib.hid (show T.data.toList = L ++ layB o.k o.n o.s from by rw [← HT.out, ByteArray.data_append, Array.toList_append, HS.out, HS1.out])
      by_cases hbig : 1048576 < T.size
      · have hd : decide ((1048576 : Int) < (T.size : Int)) = true := by simp; omega
        go_wp2_with (go_at_call 11; (with_reducible refine C2.out.mono ?_); rintro r wb ⟨S2, u1, rfl, _, hw, hm⟩; have HDB := Lib.hid (HDA.out.swap.step hw hm).swap; have HBB2 := Lib.hid (HBA.out.trans (Moved.below hm HDA.out.snd HPA.out)); have HPB := Lib.hid HBB2.out.size; have b0c := kept_cell HD.out.snd hm (Nat.le_refl _) a0; have b1c := kept_cell HD.out.snd hm (Nat.le_refl _) a1; have b2c := kept_cell HD.out.snd hm (Nat.le_refl _) a2; clear hw hm a0 a1 a2)
        go_wp2_with (go_at_call 11; (with_reducible refine (layN_any _ o.k o.n o.s x1 x2 hz).mono ?_); rintro r wc ⟨S3, rfl, _, hb⟩; have HDC := Lib.hid (HDB.out.below hb); have HBC := Lib.hid (HBB2.out.trans (hb.mono HPB.out)); clear hb)
        go_ret
        exact ⟨rfl, HB1.out.trans (HBC.out.mono HP1.out)⟩
      · have hd : decide ((1048576 : Int) < (T.size : Int)) = false := by simp; omega
        go_wp2_with (go_at_call 11; (with_reducible refine C2.out.mono ?_); rintro r wb ⟨S2, u1, rfl, _, hw, hm⟩; have HDB := Lib.hid (HDA.out.swap.step hw hm).swap; have HBB2 := Lib.hid (HBA.out.trans (Moved.below hm HDA.out.snd HPA.out)); have HPB := Lib.hid HBB2.out.size; have b0c := kept_cell HD.out.snd hm (Nat.le_refl _) a0; have b1c := kept_cell HD.out.snd hm (Nat.le_refl _) a1; have b2c := kept_cell HD.out.snd hm (Nat.le_refl _) a2; clear hw hm a0 a1 a2)
        go_wp2_with (go_at_call 11; (with_reducible refine (layN_any _ o.k o.n o.s x1 x2 hz).mono ?_); rintro r wc ⟨S3, rfl, _, hb⟩; have HDC := Lib.hid (HDB.out.below hb); have HBC := Lib.hid (HBB2.out.trans (hb.mono HPB.out)); clear hb)
        have C3 := Lib.hid (len_is _ _ _ _ _ T HDC.out.fst HTL.out)
        go_wp2_with (first
          | (go_at_call 12; (with_reducible refine C3.out.mono ?_); rintro r w7 ⟨rfl, rfl⟩)
          | (go_at_call 12; (with_reducible refine (len_nil _).mono ?_); rintro r w8 ⟨rfl, rfl⟩)
          | (go_at_call 13; (with_reducible refine (bytes_nil _).mono ?_); rintro r w9 ⟨rfl, rfl⟩))
        go_roundw
        case rel => exact ⟨k + 1, T, v1, u1, by omega, rfl, by go_num, by rw [HSN.out, HTL.out], by omega, by rw [HSN.out]; exact HDC.out, HBC.out⟩
        case measure => simp [intOf]; omega
    · have hke : l.take k = l := List.take_of_length_le (by omega)
      rw [hke] at HS HD
      have C4 := Lib.hid (bytes_is _ _ _ _ _ S HD.out.fst HS.out)
      have C5 := Lib.hid (bytes_is _ _ _ _ _ S HD.out.snd HS.out)
      clear hke HSL
      go_wp2_with (first
        | (go_at_call 13; (with_reducible refine C4.out.mono ?_); rintro r w9 ⟨rfl, rfl⟩)
        | (go_at_call 13; (with_reducible refine C5.out.mono ?_); rintro r w9 ⟨rfl, rfl⟩))
      go_ret
      exact ⟨rfl, HB1.out.trans (HBB.out.mono HP1.out)⟩
end Go.Proofs.Ytbbcgafkpobndaa
