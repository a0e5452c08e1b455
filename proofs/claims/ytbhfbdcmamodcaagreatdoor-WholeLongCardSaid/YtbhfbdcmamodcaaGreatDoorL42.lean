/- The whole: the store as it stands; The whole: a record is written into the log; The whole: a tree is added; The whole: AddTree; The whole: are a commit's tree and parents there?; The whole: what the adding of a commit leaves; The whole: AddCommit; The whole: Commits, Commit, Tree; The whole: Tree, and a store on a new disk; The whole: the tree of a commit, asked of the store. -/
import Derived.Test.YtbhfbdcmamodcaaGreatDoorL21
import Derived.Test.YtbhfbdcmamodcaaGreatDoorL32
import Derived.Test.YtbhfbdcmamodcaaGreatDoorL41
import Derived.Test.YtbhfbdcmamodcaaGreatDoorL16
import Derived.BigRegion
set_option linter.unusedVariables false
set_option linter.unusedSimpArgs false
namespace Go.Proofs.YtbhfbdcmamodcaaGreatDoor
open Go.RowKit Go.Maps TrMath
abbrev ComP := List Nat × Nat
def treeC (x : Value × Ents) : List Value := [x.1]
theorem treeCW : Wide treeC 1 := fun _ => rfl
def comC (x : Value × ComP) : List Value := [x.1, .int .i64 (x.2.2 : Nat)]
theorem comCW : Wide comC 2 := fun _ => rfl
structure StoreS where
  disk : Nat
  tv : Value
  cv : Value
  trees : List (Value × Ents)
  commits : List (Value × ComP)
def rowsB1 {α : Type} (l : List (Value × α)) : List Nat := l.flatMap fun x => x.1.ownBlock.toList
def StoreS.own (s : Nat) (S : StoreS) : List Nat := s :: (S.tv.ownBlock.toList ++ (S.cv.ownBlock.toList ++ (rowsB1 S.trees ++ rowsB1 S.commits)))
structure StoreAt (w : World) (s : Nat) (S : StoreS) : Prop where
  box : w.heap[s]? = some (.cells #[.pointer (some ⟨S.disk, 0, none⟩), S.tv, S.cv, .bool false] 77 (0, 0))
  tv : OwnX 34 1 treeC w 0 S.tv S.trees
  cv : OwnX 45 2 comC w 0 S.cv S.commits
  trees : ∀ x ∈ S.trees, Own w 0 x.1 x.2
  commits : ∀ x ∈ S.commits, OwnX 3 1 natV w 0 x.1 x.2.1
  apart : (S.own s).Nodup
section
variable {w x : World} {s : Nat} {S : StoreS}
theorem sown_s : s ∈ S.own s := by simp [StoreS.own]
theorem sown_tv {g : Nat} (h : S.tv.ownBlock = some g) : g ∈ S.own s := by simp [StoreS.own, h]
theorem sown_cv {g : Nat} (h : S.cv.ownBlock = some g) : g ∈ S.own s := by simp [StoreS.own, h]
theorem sown_tree {y : Value × Ents} (h : y ∈ S.trees) {g : Nat} (e : y.1.ownBlock = some g) : g ∈ S.own s := by
  unfold StoreS.own
  refine List.mem_cons_of_mem _ (List.mem_append_right _ (List.mem_append_right _ (List.mem_append_left _ (List.mem_flatMap.2 ⟨y, h, by simp [e]⟩))))
theorem sown_com {y : Value × ComP} (h : y ∈ S.commits) {g : Nat} (e : y.1.ownBlock = some g) : g ∈ S.own s := by
  unfold StoreS.own
  refine List.mem_cons_of_mem _ (List.mem_append_right _ (List.mem_append_right _ (List.mem_append_right _ (List.mem_flatMap.2 ⟨y, h, by simp [e]⟩))))
theorem StoreAt.lt (h : StoreAt w s S) : ∀ k ∈ S.own s, k < w.heap.size := by
  intro k hk
  unfold StoreS.own at hk
  rcases List.mem_cons.1 hk with rfl | hk
  · exact (Array.getElem?_eq_some_iff.1 h.box).1
  rcases List.mem_append.1 hk with hk | hk
  · exact (h.tv.lt k (by simpa using hk)).2
  rcases List.mem_append.1 hk with hk | hk
  · exact (h.cv.lt k (by simpa using hk)).2
  rcases List.mem_append.1 hk with hk | hk
  · obtain ⟨y, hy, hk⟩ := List.mem_flatMap.1 hk
    exact ((h.trees y hy).lt k (by simpa using hk)).2
  · obtain ⟨y, hy, hk⟩ := List.mem_flatMap.1 hk
    exact ((h.commits y hy).lt k (by simpa using hk)).2
theorem StoreAt.stays (h : StoreAt w s S) (hs : Stays (· ∈ S.own s) w x) : StoreAt x s S :=
  ⟨(hs.1 s sown_s).trans h.box, h.tv.stays fun g e => hs.1 g (sown_tv e), h.cv.stays fun g e => hs.1 g (sown_cv e), fun y hy => (h.trees y hy).keep fun g e => hs.1 g (sown_tree hy e), fun y hy => (h.commits y hy).stays fun g e => hs.1 g (sown_com hy e), h.apart⟩
theorem StoreAt.below (h : StoreAt w s S) (hb : Below w.heap.size w x) : StoreAt x s S := h.stays (Stays.of hb h.lt)
theorem StoreAt.alive (h : StoreAt w s S) : StoreAt (w.setCell ⟨s, 3, none⟩ (.bool false)) s S := by
  have hst : ∀ k, (w.setCell ⟨s, 3, none⟩ (.bool false)).heap[k]? = w.heap[k]? := fun k => by
    by_cases e : k = s
    · rw [e, heap_setCell_same w s 3 _ _ _ h.box, h.box]
      rfl
    · exact heap_setCell_other _ _ _ _ e
  exact h.stays ⟨fun k _ => hst k, by simp [World.setCell]⟩
end
def Store (w : World) (s p : Nat) (G : Foot) (ts : List Ents) (cs : List ComP) : Prop := ∃ S, StoreAt w s S ∧ S.disk = p ∧ G = (fun k => k ∈ S.own s) ∧ ts = S.trees.map Prod.snd ∧ cs = S.commits.map Prod.snd
theorem Store.lt {w : World} {s p : Nat} {G : Foot} {ts : List Ents} {cs : List ComP} (h : Store w s p G ts cs) : ∀ k, G k → k < w.heap.size := by
  obtain ⟨S, h1, _, rfl, _⟩ := h
  exact h1.lt
theorem Store.stays {w x : World} {s p : Nat} {G : Foot} {ts : List Ents} {cs : List ComP} (h : Store w s p G ts cs) (hs : Stays G w x) : Store x s p G ts cs := by
  obtain ⟨S, h1, h2, rfl, h3⟩ := h
  exact ⟨S, h1.stays hs, h2, rfl, h3⟩
theorem Store.below {w x : World} {s p : Nat} {G : Foot} {ts : List Ents} {cs : List ComP} (h : Store w s p G ts cs) (hb : Below w.heap.size w x) : Store x s p G ts cs := h.stays (Stays.of hb h.lt)
def Foot.or (F G : Foot) : Foot := fun k => F k ∨ G k
theorem Grew.left {F F' G : Foot} {w x : World} (h : Grew F F' w x) (hG : ∀ k, G k → k < w.heap.size) : Grew (F.or G) (F'.or G) w x :=
  ⟨h.upd.mono fun _ e => .inl e, fun k hk => by
    rcases hk with hk | hk
    · exact (h.sub k hk).imp .inl id
    · exact .inl (.inr hk), fun k hk => by
    rcases hk with hk | hk
    · exact h.lt k hk
    · exact Nat.lt_of_lt_of_le (hG k hk) h.upd.size⟩
theorem Grew.right {F G G' : Foot} {w x : World} (h : Grew G G' w x) (hF : ∀ k, F k → k < w.heap.size) : Grew (F.or G) (F.or G') w x :=
  ⟨h.upd.mono fun _ e => .inr e, fun k hk => by
    rcases hk with hk | hk
    · exact .inl (.inl hk)
    · exact (h.sub k hk).imp .inr id, fun k hk => by
    rcases hk with hk | hk
    · exact Nat.lt_of_lt_of_le (hF k hk) h.upd.size
    · exact h.lt k hk⟩
theorem Grew.below {F G : Foot} {w x y : World} (h : Grew F G w x) (hb : Below x.heap.size x y) : Grew F G w y := h.thenB hb
end Go.Proofs.YtbhfbdcmamodcaaGreatDoor
namespace Go.Proofs.YtbhfbdcmamodcaaGreatDoor
open Go.RowKit Go.Maps TrMath FrMath
abbrev logN : ByteArray := ⟨#[108, 111, 103]⟩
set_option maxHeartbeats 1000000 in
set_option maxRecDepth 100000 in
theorem sWrite1 (A B s p : Nat) (text : ByteArray) (w : World) (R : World → Prop) (cA : w.cell? ⟨A, 0, none⟩ = some (.pointer (some ⟨s, 0, none⟩))) (cS : w.cell? ⟨s, 0, none⟩ = some (.pointer (some ⟨p, 0, none⟩))) (cB : w.cell? ⟨B, 0, none⟩ = some (.string text))
    (hk : ∀ x, R x → x.cell? ⟨A, 0, none⟩ = some (.pointer (some ⟨s, 0, none⟩)) ∧ x.cell? ⟨s, 0, none⟩ = some (.pointer (some ⟨p, 0, none⟩)) ∧ x.cell? ⟨B, 0, none⟩ = some (.string text))
    (h : Calls Tryz.prog 80 #[.pointer (some ⟨p, 0, none⟩), .string logN, .string text] w.drew fun e w' => e = .returned (.int .i64 0) ∧ R w') :
    Calls Tryz.prog 79 #[.pointer (some ⟨A, 0, none⟩), .pointer (some ⟨B, 0, none⟩)] w fun e w' => e = .returned (.int .i64 0) ∧ R w' := by
  have H := Lib.hid h; have HK := Lib.hid hk
  clear h hk
  have Q := Lib.hid (show w.cell? ⟨A, 0, none⟩ = some (.pointer (some ⟨s, 0, none⟩)) ∧ w.cell? ⟨s, 0, none⟩ = some (.pointer (some ⟨p, 0, none⟩)) ∧ w.cell? ⟨B, 0, none⟩ = some (.string text) from ⟨cA, cS, cB⟩)
  go_enter Tryz.func79, Tryz.ntmps79
  go_wp2_with fail
  go_region_held3 (fun w' => w'.cell? ⟨A, 0, none⟩ = some (.pointer (some ⟨s, 0, none⟩)) ∧ w'.cell? ⟨s, 0, none⟩ = some (.pointer (some ⟨p, 0, none⟩)) ∧ w'.cell? ⟨B, 0, none⟩ = some (.string text)) (first | exact HK.out _ HR.out | exact Q.out)
    (first
      | (go_at_call 80; (with_reducible refine H.out.mono ?_); rintro e w2 ⟨rfl, hr⟩; have HR := Lib.hid hr; clear hr))
  all_goals
    go_wp2
    go_ret
    exact ⟨rfl, HR.out⟩
set_option maxHeartbeats 1000000 in
set_option maxRecDepth 100000 in
theorem sWrite2 (A s p : Nat) (w : World) (R : World → Prop) (cA : w.cell? ⟨A, 0, none⟩ = some (.pointer (some ⟨s, 0, none⟩))) (cS : w.cell? ⟨s, 0, none⟩ = some (.pointer (some ⟨p, 0, none⟩)))
    (h : Calls Tryz.prog 66 #[.pointer (some ⟨p, 0, none⟩), .string logN] w fun e w' => e = .returned (.int .i64 0) ∧ R w') :
    Calls Tryz.prog 81 #[.pointer (some ⟨A, 0, none⟩)] w fun e w' => e = .returned (.int .i64 0) ∧ R w' := by
  have H := Lib.hid h
  clear h
  go_enter Tryz.func81, Tryz.ntmps81
  go_wp2_with (go_at_call 66; (with_reducible refine H.out.mono ?_); rintro e w2 ⟨rfl, hr⟩; have HR := Lib.hid hr; clear hr)
  go_ret
  exact ⟨rfl, HR.out⟩
def recB (k : Nat) (body : List UInt8) : List UInt8 := (frS (k : Int) ⟨body.toArray⟩).data.toList
def Logged (s p : Nat) (F : Foot) (S : StoreS) (v : View) (q : Nat) (w w' : World) : Prop :=
  ∃ F', Disk w' p F' v q ∧ StoreAt w' s S ∧ Grew (F.or fun k => k ∈ S.own s) (F'.or fun k => k ∈ S.own s) w w' ∧ Apart F' (fun k => k ∈ S.own s)
theorem logged_of {s p q : Nat} {F : Foot} {S : StoreS} {v v' : View} {w W4 W5 : World} (hD : Disk w p F v q) (hS : StoreAt w s S) (hap : Apart F (fun k => k ∈ S.own s)) (hb : Below w.heap.size w W4) (h : ∃ F2, Disk W5 p F2 v' q ∧ Grew F F2 W4 W5) :
    Logged s p F S v' q w (W5.setCell ⟨s, 3, none⟩ (.bool false)) := by
  obtain ⟨F2, h1, h2⟩ := h
  have hg := Grew.after hb h2
  have h3 : Apart F2 (fun k => k ∈ S.own s) := hap.step hg hS.lt
  have h4 : StoreAt W5 s S := hS.stays (hg.upd.stays hap hS.lt)
  refine ⟨F2, h1.stays ⟨fun k hk => heap_setCell_other _ _ _ _ (fun e => h3 k hk (e ▸ sown_s)), by simp [World.setCell]⟩, h4.alive, ?_, h3⟩
  exact (hg.left hS.lt).set s 3 _ (.inr sown_s)
theorem drew_disk {w : World} {p q : Nat} {F : Foot} {v : View} (h : Disk w p F v q) : Disk w.drew p F v q := h.below (bl_drew (Below.refl _ w))
theorem Grew.undrew {F G : Foot} {w x : World} (h : Grew F G w.drew x) : Grew F G w x := ⟨h.upd.undrew, h.sub, h.lt⟩
set_option maxHeartbeats 4000000 in
set_option maxRecDepth 100000 in
theorem sWrite (s p q K : Nat) (F : Foot) (S : StoreS) (vpre vpost : View) (L : List UInt8) (body : ByteArray) (w : World) (hD : Disk w p F (vpre ++ (logN, L) :: vpost) q) (hS : StoreAt w s S) (hp : S.disk = p) (hap : Apart F (fun k => k ∈ S.own s))
    (hM : ∀ x ∈ vpre ++ (logN, L) :: vpost, x.2.length ≤ 524288) (hl : (vpre ++ (logN, L) :: vpost).length ≤ 16) (hK : 1 ≤ K ∧ K ≤ 255) (hb : body.size ≤ 1048576) :
    Calls Tryz.prog 34 #[.pointer (some ⟨s, 0, none⟩), .int .i64 K, .string body] w fun e w' => e = .returned (.int .i64 0) ∧ Logged s p F S (vpre ++ (logN, L ++ recB K body.data.toList) :: vpost) q w w' := by
  subst hp
  obtain ⟨fr1, fr2⟩ := fr_fine (k := (K : Int)) (body := body) (by omega) (by omega)
  obtain ⟨text, htx⟩ : ∃ text, frS (K : Int) body = text := ⟨_, rfl⟩
  have hrec : recB K body.data.toList = text.data.toList := by unfold recB; rw [show (⟨body.data.toList.toArray⟩ : ByteArray) = body from by cases body; simp, htx]
  have htl : text.size = body.size + 9 := by
    have : text.data.toList.length = (encF (K : Int).toNat body).length := by rw [← htx, fr2]
    rw [sizeL, encF_len] at this; exact this
  obtain ⟨W1, hW1⟩ : ∃ W1, w.alloc (.cells #[.pointer (some ⟨s, 0, none⟩)] 29) = W1 := ⟨_, rfl⟩
  have hb1 : Below w.heap.size w W1 := by rw [← hW1]; exact bl_alloc (Below.refl _ w) _
  have hz1 : W1.heap.size = w.heap.size + 1 := by rw [← hW1]; simp
  have cA1 : W1.cell? ⟨w.heap.size, 0, none⟩ = some (.pointer (some ⟨s, 0, none⟩)) := by rw [← hW1]; exact allocL_cells _ rfl rfl
  have HE := Lib.hid (fEncode W1 (K : Int) body)
  rw [htx, fr1] at HE
  have hFl := hD.lt
  have cS0 : w.cell? ⟨s, 0, none⟩ = some (.pointer (some ⟨S.disk, 0, none⟩)) := by rw [cell_of_row _ _ _ _ _ _ hS.box]; rfl
  have hsF : ¬ F s := fun e => hap s e sown_s
  -- behind the two texts are made
  have HG := Lib.hid (show ∀ W4 b B, Below W1.heap.size W1 W4 → W1.heap.size ≤ b → W1.heap.size ≤ B →
      W4.cell? ⟨b, 0, none⟩ = some (.func (.func 79) #[] #[.pointer (some ⟨w.heap.size, 0, none⟩), .pointer (some ⟨B, 0, none⟩)]) →
      W4.cell? ⟨b, 1, none⟩ = some (.func (.func 81) #[] #[.pointer (some ⟨w.heap.size, 0, none⟩)]) → W4.cell? ⟨B, 0, none⟩ = some (.string text) →
      Calls Tryz.prog 26 #[.slice (some ⟨b, 0, none⟩) 2 2] W4 fun e w' => e = .returned (.int .i64 0) ∧ ∃ F2, Disk w' S.disk F2 (vpre ++ (logN, L ++ text.data.toList) :: vpost) q ∧ Grew F F2 W4 w' from by
    intro W4 b B hb4 hbz hBz k0 k1 kB
    have hbw := bl_trans hb1 hb4
    have hst : ∀ x F1, Grew F F1 W4 x → ∀ X o v, ¬ F X → W4.cell? ⟨X, o, none⟩ = some v → x.cell? ⟨X, o, none⟩ = some v := fun x F1 hg X o v hX hv => by
      rw [World.cell?_of_block (hg.upd.block X (World.block_lt_of_cell? W4 _ hv) hX)]
      exact hv
    have hD4 := hD.below hbw
    have nF : ∀ X, w.heap.size ≤ X → ¬ F X := fun X hX e => by have := hFl X e; omega
    refine sFirstWrite w.heap.size B b W4 (fun x => ∃ F1, Disk x S.disk F1 (vpre ++ (logN, L ++ text.data.toList) :: vpost) q ∧ Grew F F1 W4 x) _ k0 (fun x ⟨F1, _, hg⟩ => hst x F1 hg b 1 _ (nF b (by omega)) k1) ?_ ?_
    · refine sWrite1 w.heap.size B s S.disk text W4 _ (bl_cell hb4 cA1) (bl_cell hbw cS0) kB (fun x ⟨F1, _, hg⟩ => ⟨hst x F1 hg _ 0 _ (nF _ (Nat.le_refl _)) (bl_cell hb4 cA1), hst x F1 hg s 0 _ hsF (bl_cell hbw cS0), hst x F1 hg B 0 _ (nF B (by omega)) kB⟩) ?_
      exact (dAppend S.disk q F vpre vpost logN L text W4.drew (drew_disk hD4) (by decide) (by omega) (by omega) hM hl).mono fun e w' ⟨h1, F', h2, h3⟩ => ⟨h1, F', h2, h3.undrew⟩
    · rintro x ⟨F1, hx1, hx2⟩
      refine sWrite2 w.heap.size s S.disk x _ (hst x F1 hx2 _ 0 _ (nF _ (Nat.le_refl _)) (bl_cell hb4 cA1)) (hst x F1 hx2 s 0 _ hsF (bl_cell hbw cS0)) ?_
      exact (dSync S.disk q F1 _ logN x hx1 (by decide) (by simp)).mono fun e w' ⟨h1, F', h2, h3⟩ => ⟨h1, F', h2, hx2.trans h3⟩)
  have HX := Lib.hid (show ∀ W4 W5, Below W1.heap.size W1 W4 → (∃ F2, Disk W5 S.disk F2 (vpre ++ (logN, L ++ text.data.toList) :: vpost) q ∧ Grew F F2 W4 W5) → W5.cell? ⟨w.heap.size, 0, none⟩ = some (.pointer (some ⟨s, 0, none⟩)) ∧ W5.cell? ⟨s, 3, none⟩ = some (.bool false) ∧ W5.frozen? ⟨s, 3, none⟩ = false ∧
      Logged s S.disk F S (vpre ++ (logN, L ++ recB K body.data.toList) :: vpost) q w (W5.setCell ⟨s, 3, none⟩ (.bool false)) from by
    intro W4 W5 hb4 hh
    have hbw := bl_trans hb1 hb4
    have hlog := logged_of hD hS hap hbw hh
    obtain ⟨F2, h1, h2⟩ := hh
    have hg := Grew.after hbw h2
    have h4 : StoreAt W5 s S := hS.stays (hg.upd.stays hap hS.lt)
    have hst : W5.cell? ⟨w.heap.size, 0, none⟩ = some (.pointer (some ⟨s, 0, none⟩)) := by
      have hc := bl_cell hb4 cA1
      rw [World.cell?_of_block (h2.upd.block w.heap.size (World.block_lt_of_cell? W4 _ hc) (fun e => Nat.lt_irrefl _ (hFl _ e)))]
      exact hc
    rw [hrec]
    exact ⟨hst, by rw [cell_of_row _ _ _ _ _ _ h4.box]; rfl, frozen_of_row _ _ _ _ _ h4.box, hlog⟩)
  have HW1 := Lib.hid hW1
  clear hD hS hap hM hl fr1 fr2 htx hrec htl hW1 hb1 hz1 cA1 hFl cS0 hsF hb
  go_enter Tryz.func34, Tryz.ntmps34
  go_wp2_with fail
  rw [HW1.out]
  (with_reducible refine HE.out.mono ?_)
  rintro e w2 ⟨rfl, hb2⟩
  have HB2 := Lib.hid hb2
  clear hb2
  go_wp2_with fail
  obtain ⟨W4, hW4⟩ : ∃ W4, (w2.alloc (.cells #[.string text] 9)).alloc (.cells #[.func (.func 79) #[] #[.pointer (some ⟨w.heap.size, 0, none⟩), .pointer (some ⟨w2.heap.size, 0, none⟩)], .func (.func 81) #[] #[.pointer (some ⟨w.heap.size, 0, none⟩)]] 80) = W4 := ⟨_, rfl⟩
  have hb4 : Below W1.heap.size W1 W4 := by rw [← hW4]; exact bl_alloc (bl_alloc HB2.out _) _
  have HB4 := Lib.hid hb4
  have HC := Lib.hid (HG.out W4 (w2.heap.size + 1) w2.heap.size hb4 (by have := HB2.out.size; omega) HB2.out.size (by rw [← hW4]; exact allocL_cells _ (by simp) rfl) (by rw [← hW4]; exact allocL_cells _ (by simp) rfl) (by rw [← hW4]; exact cell_al (allocL_cells _ rfl rfl) _))
  rw [hW4]
  clear hW4 hb4
  (with_reducible refine HC.out.mono ?_)
  rintro e w5 ⟨rfl, hh⟩
  obtain ⟨k1, k2, k3, k4⟩ := HX.out W4 w5 HB4.out hh
  have HL := Lib.hid k4
  clear hh k4
  go_wp2
  go_ret
  exact ⟨rfl, HL.out⟩
end Go.Proofs.YtbhfbdcmamodcaaGreatDoor
namespace Go.Proofs.YtbhfbdcmamodcaaGreatDoor
open Go.RowKit Go.Maps TrMath FrMath
theorem nodup_row {A B : List Nat} {o : Option Nat} {gg H : Nat} (h : (A ++ (o.toList ++ B)).Nodup) (hlt : ∀ k ∈ A ++ (o.toList ++ B), k < H) (hat : o = some gg ∨ H ≤ gg) : (A ++ ([gg] ++ B)).Nodup := by
  rcases hat with e | e
  · subst e; exact h
  · obtain ⟨h1, h2, h3⟩ := List.nodup_append.1 h
    obtain ⟨_, h4, _⟩ := List.nodup_append.1 h2
    refine List.nodup_append.2 ⟨h1, List.nodup_cons.2 ⟨fun hm => ?_, h4⟩, fun a ha b hb e2 => ?_⟩
    · have := hlt gg (List.mem_append_right _ (List.mem_append_right _ hm))
      omega
    · subst e2
      rcases List.mem_cons.1 hb with rfl | hb
      · have := hlt a (List.mem_append_left _ ha)
        omega
      · exact h3 a ha a (List.mem_append_right _ hb) rfl
theorem nodup_add {A B vl : List Nat} (h : (A ++ B).Nodup) (hv : vl.Nodup) (hn : ∀ k ∈ vl, k ∉ A ++ B) : (A ++ (vl ++ B)).Nodup := by
  obtain ⟨h1, h2, h3⟩ := List.nodup_append.1 h
  refine List.nodup_append.2 ⟨h1, List.nodup_append.2 ⟨hv, h2, fun a ha b hb e => hn a ha (by rw [e]; simp [hb])⟩, fun a ha b hb e => ?_⟩
  rcases List.mem_append.1 hb with hb | hb
  · exact hn b hb (by rw [← e]; simp [ha])
  · exact h3 a ha b hb e
theorem toList_nodup (o : Option Nat) : o.toList.Nodup := by cases o <;> simp
theorem EnAt.stays {w x : World} {a : Option Addr} {l : Ents} (h : EnAt w a l) (hs : ∀ b off, a = some ⟨b, off, Option.none⟩ → x.heap[b]? = w.heap[b]?) (hz : w.heap.size ≤ x.heap.size) : EnAt x a l := fun i hi => by
  obtain ⟨b, off, h1, h0, h2, h3⟩ := h i hi
  exact ⟨b, off, h1, Nat.lt_of_lt_of_le h0 hz, by rw [World.cell?_of_block (hs b off h1)]; exact h2, by rw [World.cell?_of_block (hs b off h1)]; exact h3⟩
structure GoodT (l : Ents) : Prop where
  good : TrMath.Good l
  words : Words l
  len : l.length ≤ 1024
theorem GoodT.ok {l : Ents} (h : GoodT l) : encErr l = 0 := by unfold encErr; rw [if_neg (by have := h.len; omega), chk_good h.good]
def treeB (l : Ents) : List UInt8 := encGo l l.length
theorem GoodT.size {l : Ents} (h : GoodT l) : (treeB l).length ≤ 300000 := by
  have h1 := encGo_len l h.good.short l.length
  have h2 := h.len
  unfold treeB
  omega
theorem tree_pushed {w x w2 : World} {s gg cap : Nat} {S : StoreS} {v : Value} {A : Ents} (hS : StoreAt w s S) (hx : Below w.heap.size w x) (hv : Own x w.heap.size v A) (hg : x.grownBy w2 S.tv.ownBlock)
    (hown : w2.ownsRow 0 34 1 (.slice (some ⟨gg, 0, none⟩) (S.trees.length + 1) cap) (S.trees.length + 1) (S.trees.flatMap treeC ++ [v])) (hat : S.tv.ownBlock = some gg ∨ gg = x.heap.size) :
    StoreAt (w2.setCell ⟨s, 1, none⟩ (.slice (some ⟨gg, 0, none⟩) (S.trees.length + 1) cap)) s ⟨S.disk, .slice (some ⟨gg, 0, none⟩) (S.trees.length + 1) cap, S.cv, S.trees ++ [(v, A)], S.commits⟩ ∧
    Grew (fun k => k ∈ S.own s) (fun k => k ∈ (⟨S.disk, .slice (some ⟨gg, 0, none⟩) (S.trees.length + 1) cap, S.cv, S.trees ++ [(v, A)], S.commits⟩ : StoreS).own s) w (w2.setCell ⟨s, 1, none⟩ (.slice (some ⟨gg, 0, none⟩) (S.trees.length + 1) cap)) := by
  have hlt := hS.lt
  have hxz := hx.size
  have hgz := hg.size
  have hvl := hv.lt
  have hap := hS.apart
  have hap2 : ([s] ++ (S.tv.ownBlock.toList ++ (S.cv.ownBlock.toList ++ (rowsB1 S.trees ++ rowsB1 S.commits)))).Nodup := hap
  obtain ⟨_, n2, n3⟩ := List.nodup_append.1 hap2
  obtain ⟨_, _, n5⟩ := List.nodup_append.1 n2
  have hsl : s < w.heap.size := hlt s sown_s
  have hts : S.tv.ownBlock ≠ some s := fun e => n3 s (by simp) s (by simp [e]) rfl
  have hgs : gg ≠ s := by
    rcases hat with e | e
    · exact fun k => hts (by rw [e, k])
    · omega
  -- what stays: all but the box and the trees' row
  have hst : ∀ k, k < x.heap.size → k ≠ s → S.tv.ownBlock ≠ some k → (w2.setCell ⟨s, 1, none⟩ (.slice (some ⟨gg, 0, none⟩) (S.trees.length + 1) cap)).heap[k]? = x.heap[k]? := fun k hk k1 k2 => by
    rw [heap_setCell_other _ _ _ _ k1, hg.block k hk (Ne.symm k2)]
  have hst2 : ∀ k, k ∈ S.cv.ownBlock.toList ++ (rowsB1 S.trees ++ rowsB1 S.commits) → (w2.setCell ⟨s, 1, none⟩ (.slice (some ⟨gg, 0, none⟩) (S.trees.length + 1) cap)).heap[k]? = w.heap[k]? := fun k hk => by
    have hkl : k < w.heap.size := hlt k (by unfold StoreS.own; exact List.mem_cons_of_mem _ (List.mem_append_right _ hk))
    rw [hst k (by omega) (fun e => n3 s (by simp) k (by simp only [List.mem_append]; exact .inr (by simpa using hk)) e.symm) (fun e => n5 k (by simp [e]) k hk rfl), hx.block k hkl]
  have hbs : w2.heap[s]? = w.heap[s]? := by rw [hg.block s (by omega) (Ne.symm hts), hx.block s hsl]
  have hD : StoreAt (w2.setCell ⟨s, 1, none⟩ (.slice (some ⟨gg, 0, none⟩) (S.trees.length + 1) cap)) s ⟨S.disk, .slice (some ⟨gg, 0, none⟩) (S.trees.length + 1) cap, S.cv, S.trees ++ [(v, A)], S.commits⟩ := by
    refine ⟨?_, ?_, hS.cv.stays fun g e => hst2 g (by simp [e]), fun y hy => ?_, fun y hy => (hS.commits y hy).stays fun g e => hst2 g ?_, ?_⟩
    · rw [heap_setCell_same w2 s 1 _ _ _ (hbs.trans hS.box)]
      rfl
    · exact (OwnX.push (enc := treeC) (l := S.trees) (m := [(v, A)]) hown rfl rfl).stays fun g e => heap_setCell_other _ _ _ _ (by cases e; exact hgs)
    · rcases List.mem_append.1 hy with hy | hy
      · exact (hS.trees y hy).keep fun g e => hst2 g (List.mem_append_right _ (List.mem_append_left _ (List.mem_flatMap.2 ⟨y, hy, by simp [e]⟩)))
      · rw [List.mem_singleton] at hy
        subst hy
        exact (hv.mono (Nat.zero_le _)).keep fun g e => hst g (hvl g e).2 (by have := (hvl g e).1; omega) (fun e2 => by have := (hvl g e).1; have := hlt g (sown_tv e2); omega)
    · exact List.mem_append_right _ (List.mem_append_right _ (List.mem_flatMap.2 ⟨y, hy, by simp [e]⟩))
    · have h1 : ([s] ++ ([gg] ++ (S.cv.ownBlock.toList ++ (rowsB1 S.trees ++ rowsB1 S.commits)))).Nodup := nodup_row hap2 hlt (hat.imp id (fun e => by omega))
      have h2 : ((s :: gg :: (S.cv.ownBlock.toList ++ rowsB1 S.trees)) ++ rowsB1 S.commits).Nodup := by simpa using h1
      have h3 := nodup_add (vl := v.ownBlock.toList) h2 (toList_nodup _) (fun k hk hm => by
        have hk2 := hvl k (by simpa using hk)
        have h4 : k = gg ∨ k ∈ S.own s := by
          unfold StoreS.own
          simp only [List.mem_cons, List.mem_append] at hm ⊢
          rcases hm with (hm | hm | hm | hm) | hm <;> simp [hm]
        rcases h4 with e | h4
        · rcases hat with e2 | e2
          · have := hlt gg (sown_tv e2); omega
          · omega
        · have := hlt k h4; omega)
      have e : (⟨S.disk, .slice (some ⟨gg, 0, none⟩) (S.trees.length + 1) cap, S.cv, S.trees ++ [(v, A)], S.commits⟩ : StoreS).own s = (s :: gg :: (S.cv.ownBlock.toList ++ rowsB1 S.trees)) ++ (v.ownBlock.toList ++ rowsB1 S.commits) := by
        unfold StoreS.own rowsB1
        simp [Value.ownBlock]
      rw [e]
      exact h3
  refine ⟨hD, ⟨?_, fun k hk => ?_, hD.lt⟩⟩
  · have a1 : Upd (fun k => k ∈ S.own s) w w2 := (Upd.of hx).grown hg (fun g e => .inl (sown_tv e))
    exact a1.set s 1 _ (.inl sown_s)
  · have e : (⟨S.disk, .slice (some ⟨gg, 0, none⟩) (S.trees.length + 1) cap, S.cv, S.trees ++ [(v, A)], S.commits⟩ : StoreS).own s = (s :: gg :: (S.cv.ownBlock.toList ++ rowsB1 S.trees)) ++ (v.ownBlock.toList ++ rowsB1 S.commits) := by
      unfold StoreS.own rowsB1
      simp [Value.ownBlock]
    rw [e] at hk
    have h4 : k = gg ∨ v.ownBlock = some k ∨ k ∈ S.own s := by
      unfold StoreS.own
      simp only [List.mem_cons, List.mem_append] at hk ⊢
      rcases hk with (hm | hm | hm | hm) | hm | hm
      · simp [hm]
      · simp [hm]
      · simp [hm]
      · simp [hm]
      · right; left; simpa using hm
      · simp [hm]
    rcases h4 with e | e | h4
    · rcases hat with e2 | e2
      · exact .inl (sown_tv (by rw [e2, e]))
      · exact .inr (by omega)
    · exact .inr (hvl k e).1
    · exact .inl h4
end Go.Proofs.YtbhfbdcmamodcaaGreatDoor
namespace Go.Proofs.YtbhfbdcmamodcaaGreatDoor
open Go.RowKit Go.Maps TrMath FrMath
theorem infoTreeRow : (Tryz.prog.info? 34).map (fun i => (i.zero, i.size, i.bytes)) = some (some (.slice none 0 0), 1, 24) := by kernel_rfl
theorem sOpen {w : World} {s : Nat} {S : StoreS} (h : StoreAt w s S) : Calls Tryz.prog 32 #[.pointer (some ⟨s, 0, none⟩)] w fun e w' => e = .returned (.int .i64 0) ∧ w' = w := by
  have c3 : w.cell? ⟨s, 3, none⟩ = some (.bool false) := by rw [cell_of_row _ _ _ _ _ _ h.box]; rfl
  clear h
  go_enter Tryz.func32, Tryz.ntmps32
  go_wp2
  go_ret
  exact ⟨rfl, rfl⟩
theorem OwnX.nb' {α : Type} {E : TypeId} {k n : Nat} {enc : α → List Value} {w x : World} {B : Nat} {v u : Value} {l : List α} (h : OwnX E k enc w B v l) (hv : v = u) (hn : l.length = n) (hb : Below w.heap.size w x) (o : Obj) : (x.alloc o).ownsRow B E k u n (l.flatMap enc) := by
  subst hv; subst hn
  exact h.below (bl_alloc hb o)
def Added (s p q : Nat) (F : Foot) (S : StoreS) (v : View) (ts : List Ents) (cs : List ComP) (w w' : World) : Prop :=
  ∃ F' S', Disk w' p F' v q ∧ StoreAt w' s S' ∧ S'.disk = p ∧ S'.trees.map Prod.snd = ts ∧ S'.commits.map Prod.snd = cs ∧ Apart F' (fun k => k ∈ S'.own s) ∧ Grew (F.or fun k => k ∈ S.own s) (F'.or fun k => k ∈ S'.own s) w w'
theorem added_of {s p q : Nat} {F : Foot} {S S' : StoreS} {v : View} {w w1 w' : World} {ts : List Ents} {cs : List ComP} (hl : Logged s p F S v q w w1) (hg : Grew (fun k => k ∈ S.own s) (fun k => k ∈ S'.own s) w1 w') (hS : StoreAt w' s S') (hp : S'.disk = p) (ht : S'.trees.map Prod.snd = ts) (hc : S'.commits.map Prod.snd = cs) : Added s p q F S v ts cs w w' := by
  obtain ⟨F1, h1, h2, h3, h4⟩ := hl
  have ha : Apart (fun k => k ∈ S'.own s) F1 := h4.symm.step hg h1.lt
  exact ⟨F1, S', h1.stays (hg.upd.stays h4.symm h1.lt), hS, hp, ht, hc, ha.symm, h3.trans (hg.right h1.lt)⟩
theorem Added.after {s p q : Nat} {F : Foot} {S : StoreS} {v : View} {w w1 w' : World} {ts : List Ents} {cs : List ComP} (hb : Below w.heap.size w w1) (h : Added s p q F S v ts cs w1 w') : Added s p q F S v ts cs w w' := by
  obtain ⟨F', S', h1, h2, h3, h4, h5, h6, h7⟩ := h
  exact ⟨F', S', h1, h2, h3, h4, h5, h6, Grew.after hb h7⟩
set_option maxHeartbeats 4000000 in
set_option maxRecDepth 100000 in
theorem sAddTree (s p q : Nat) (F : Foot) (S : StoreS) (vpre vpost : View) (L : List UInt8) (A : Ents) (a : Option Addr) (c : Nat) (w : World) (hD : Disk w p F (vpre ++ (logN, L) :: vpost) q) (hS : StoreAt w s S) (hp : S.disk = p) (hap : Apart F (fun k => k ∈ S.own s))
    (hM : ∀ x ∈ vpre ++ (logN, L) :: vpost, x.2.length ≤ 524288) (hl : (vpre ++ (logN, L) :: vpost).length ≤ 16) (hA : EnAt w a A) (hG : GoodT A) (hn : S.trees.length < 65536) (hna : ∀ b off, a = some ⟨b, off, none⟩ → ¬ F b ∧ b ∉ S.own s) (haz : ∀ b off, a = some ⟨b, off, none⟩ → b < w.heap.size) :
    Calls Tryz.prog 8 #[.pointer (some ⟨s, 0, none⟩), .slice a A.length c] w fun e w' => e = .returned (.tuple #[.int .i64 (S.trees.length : Nat), .int .i64 0]) ∧ Added s p q F S (vpre ++ (logN, L ++ recB 1 (treeB A)) :: vpost) (S.trees.map Prod.snd ++ [A]) (S.commits.map Prod.snd) w w' := by
  obtain ⟨i0, hi, hz0, hz1, hz2⟩ := info_parts infoTreeRow
  obtain ⟨ta, tc, htv, _, _, _, _, _⟩ := hS.tv.sl
  obtain ⟨n, hnn⟩ : ∃ n, S.trees.length = n := ⟨_, rfl⟩
  rw [hnn] at htv hn
  have hd1 : decide ((n : Int) ≥ 65536) = false := by simp; omega
  have c1 : w.cell? ⟨s, 1, none⟩ = some (.slice ta n tc) := by rw [cell_of_row _ _ _ _ _ _ hS.box, ← htv]; rfl
  have HO := Lib.hid (sOpen hS)
  have HE := Lib.hid (tEncodeOk A hG.words hG.ok a c w hA)
  have hal := hG.len
  have hsz : (⟨(treeB A).toArray⟩ : ByteArray).size ≤ 1048576 := by
    have := hG.size
    show (treeB A).toArray.size ≤ _
    simp; omega
  have HW := Lib.hid (show ∀ W, Below w.heap.size w W → Calls Tryz.prog 34 #[.pointer (some ⟨s, 0, none⟩), .int .i64 1, .string ⟨(encGo A A.length).toArray⟩] W fun e w' => e = .returned (.int .i64 0) ∧ Logged s p F S (vpre ++ (logN, L ++ recB 1 (treeB A)) :: vpost) q W w' from
    fun W hW => sWrite s p q 1 F S vpre vpost L ⟨(treeB A).toArray⟩ W (hD.below hW) (hS.below hW) hp hap hM hl (by decide) hsz)
  have HX := Lib.hid (show ∀ W w3, Below w.heap.size w W → Logged s p F S (vpre ++ (logN, L ++ recB 1 (treeB A)) :: vpost) q W w3 → StoreAt w3 s S ∧ EnAt w3 a A from fun W w3 hW hlg => by
    obtain ⟨F1, k1, k2, k3, k4⟩ := hlg
    refine ⟨k2, (hA.below hW).stays (fun b off e => k3.upd.block b (Nat.lt_of_lt_of_le (haz b off e) hW.size) ?_) k3.upd.size⟩
    rintro (h | h)
    · exact (hna b off e).1 h
    · exact (hna b off e).2 h)
  have HT := Lib.hid htv; have HNN := Lib.hid hnn
  clear hD hS hap hM hl hA hG hna haz hsz htv hnn
  go_enter Tryz.func8, Tryz.ntmps8
  go_wp2_with fail
  (with_reducible refine HO.out.mono ?_)
  rintro e w1 ⟨rfl, rfl⟩
  go_wp2_with fail
  (with_reducible refine HE.out.mono ?_)
  rintro e w2 ⟨rfl, hb⟩
  have c1' := bl_cell hb c1
  have HB2 := Lib.hid hb
  clear hb c1
  go_wp2_with fail
  (with_reducible refine (HW.out w2 HB2.out).mono ?_)
  rintro e w3 ⟨rfl, hlg⟩
  obtain ⟨hS3, hA3⟩ := HX.out w2 w3 HB2.out hlg
  have hbx3 : w3.heap[s]? = some (.cells #[.pointer (some ⟨p, 0, none⟩), .slice ta n tc, S.cv, .bool false] 77 (0, 0)) := by rw [← hp, ← HT.out]; exact hS3.box
  have HLG := Lib.hid hlg; have HS3 := Lib.hid hS3; have HA3 := Lib.hid hA3
  have HBX := Lib.hid (show ∀ x, Below w3.heap.size w3 x → x.cell? ⟨s, 1, none⟩ = some (.slice ta n tc) ∧ x.frozen? ⟨s, 1, none⟩ = false from fun x hx => by
    have := (hx.block s (Array.getElem?_eq_some_iff.1 hbx3).1).trans hbx3
    exact ⟨by rw [cell_of_row _ _ _ _ _ _ this]; rfl, frozen_of_row _ _ _ _ _ this⟩)
  have htvn : S.tv.ownBlock ≠ some s := fun e => by
    have h2 : ([s] ++ (S.tv.ownBlock.toList ++ (S.cv.ownBlock.toList ++ (rowsB1 S.trees ++ rowsB1 S.commits)))).Nodup := hS3.apart
    exact (List.nodup_append.1 h2).2.2 s (by simp) s (by simp [e]) rfl
  have HAF := Lib.hid (show ∀ x y, Below w3.heap.size w3 x → x.grownBy y (Value.slice ta n tc).ownBlock → y.cell? ⟨s, 1, none⟩ = some (.slice ta n tc) ∧ y.frozen? ⟨s, 1, none⟩ = false from fun x y hx hy => by
    rw [← HT.out] at hy
    have hsl := (Array.getElem?_eq_some_iff.1 hbx3).1
    have := (hy.block s (Nat.lt_of_lt_of_le hsl hx.size) (Ne.symm htvn)).trans ((hx.block s hsl).trans hbx3)
    exact ⟨by rw [cell_of_row _ _ _ _ _ _ this]; rfl, frozen_of_row _ _ _ _ _ this⟩)
  have hc3 := (HBX.out w3 (Below.refl _ _)).1
  clear hlg hS3 hA3 hbx3 c1'
  have HC := Lib.hid (fun W (hW : Below w3.heap.size w3 W) => tClone A a c (by omega) W (HA3.out.below hW))
  go_wp2_with fail
  go_region_law (first
    | (refine step_append_lies _ rfl (.tmp 41) (.tmp 44) 74 rfl 0 34 i0 (.slice none 0 0) 1 24 Tryz.underlying74 hi hz0 hz1 hz2 rfl (by decide) (.slice ta n tc) n (S.trees.flatMap treeC) rfl (OwnX.nb' HS3.out.tv HT.out HNN.out (bl_trans (bl_drew (Below.refl _ w3)) HB4.out) _) _ 1 1 [.slice a4 A.length c4] rfl rfl (cells_new w4 [.slice a4 A.length c4] _ rfl) (by intro u hu; rw [List.mem_singleton.1 hu]; rfl) (by decide) (by unfold maxLen; omega) (by omega) (Nat.zero_le _) _ rfl ?_; intro gg cp w5 hown hg hat hlt5; obtain ⟨hs5, hz5⟩ := HAF.out _ w5 (bl_alloc (bl_trans (bl_drew (Below.refl _ w3)) HB4.out) _) hg)
    | (go_simp; go_at_call 35; (with_reducible refine (HC.out _ (bl_drew (Below.refl _ w3))).mono ?_); rintro e w4 ⟨v4, rfl, ho, hb⟩; obtain ⟨a4, c4, rfl, _, _, _⟩ := Own.at ho; have HV4 := Lib.hid ho; have HB4 := Lib.hid hb; have hc4 := (HBX.out w4 (bl_trans (bl_drew (Below.refl _ w3)) hb)).1; have hc5 : ∀ o, (w4.alloc o).cell? ⟨s, 1, none⟩ = some (.slice ta n tc) := (fun o => cell_al hc4 o); clear ho hb))
  all_goals
    obtain ⟨HP, HG5⟩ := tree_pushed (gg := gg) (cap := cp) HS3.out (bl_alloc (bl_trans (bl_drew (Below.refl _ w3)) HB4.out) _) (HV4.out.alloc _) (by rw [HT.out]; exact hg) (by rw [HNN.out]; exact hown) (by rw [HT.out]; exact hat)
    rw [HNN.out] at HP HG5
    have HAD := Lib.hid (show Added s p q F S (vpre ++ (logN, L ++ recB 1 (treeB A)) :: vpost) (S.trees.map Prod.snd ++ [A]) (S.commits.map Prod.snd) w1 _ from Added.after HB2.out (added_of HLG.out HG5 HP hp (by simp) rfl))
    have hc6 : (w5.setCell ⟨s, 1, none⟩ (.slice (some ⟨gg, 0, none⟩) (n + 1) cp)).cell? ⟨s, 1, none⟩ = some (.slice (some ⟨gg, 0, none⟩) (n + 1) cp) := by rw [cell_of_row _ _ _ _ _ _ HP.box]; rfl
    clear HP HG5 hown hg hat hlt5 hs5 hz5
    generalize w5.setCell ⟨s, 1, none⟩ (.slice (some ⟨gg, 0, none⟩) (n + 1) cp) = W6 at *
    have hsub : IntKind.i64.wrap (((n + 1 : Nat) : Int) - 1) = (n : Int) := by rw [IntWalk.i64_in _ (by omega)]; omega
    go_wp2
    exact bodyPost_ret (v := .tuple #[.int .i64 (n : Nat), .int .i64 0]) (by simp [results, Tryz.results8, go_sem]) rfl ⟨by rw [HNN.out], HAD.out⟩
end Go.Proofs.YtbhfbdcmamodcaaGreatDoor
namespace Go.Proofs.YtbhfbdcmamodcaaGreatDoor
open Go.RowKit Go.Maps TrMath FrMath
set_option maxHeartbeats 1000000 in
set_option maxRecDepth 100000 in
theorem sKnIdx (P : Nat → Bool) (cap : Value) (l : List Nat) (a : Option Addr) (c : Nat) (hl : l.length ≤ maxLen) (w : World) (h : CellsAt w a (l.flatMap natV))
    (hc : ∀ x ∈ l, ∀ W, Below w.heap.size w W → Calls Tryz.prog 85 #[.int .i64 (x : Nat), cap] W fun e w' => e = .returned (.bool (P x)) ∧ Below W.heap.size W w') :
    Calls Tryz.prog 143 #[.slice a l.length c, .func (.func 85) #[] #[cap]] w fun e w' => (∃ k : Int, e = .returned (.int .i64 k) ∧ decide (0 ≤ k) = l.any P) ∧ Below w.heap.size w w' := by
  unfold maxLen at hl
  have HA := Lib.hid h
  have HC := Lib.hid hc
  clear h hc
  go_enter Tryz.func143, Tryz.ntmps143
  go_wp2
  go_loopw [8] (fun iv wr => ∃ k : Nat, k ≤ l.length ∧ iv = .int .i64 k ∧ (∀ i (h : i < l.length), i < k → P l[i] = false) ∧ Below w.heap.size w wr) (fun iv _ => l.length - (intOf iv).toNat)
  case atStart => exact ⟨0, Nat.zero_le _, rfl, fun i _ h => absurd h (Nat.not_lt_zero _), Below.refl _ _⟩
  case round =>
    obtain ⟨k, hk, rfl, hn, hb⟩ := hrel
    have HN := Lib.hid hn; have HB := Lib.hid hb
    clear hn hb
    by_cases hlt : k < l.length
    · obtain ⟨b, off, rfl, _, p1⟩ := nat_cells (HA.out.below HB.out) hlt
      have HCx := Lib.hid (fun W hW => HC.out l[k] (List.getElem_mem hlt) W hW)
      obtain ⟨x, hx⟩ : ∃ x, l[k] = x := ⟨_, rfl⟩
      rw [hx] at p1 HCx
      have HX := Lib.hid hx
      clear hx
      obtain ⟨r, hr⟩ : ∃ r, P x = r := ⟨_, rfl⟩
      rw [hr] at HCx
      have HR := Lib.hid hr
      clear hr
      cases r with
      | true =>
        go_wp2_with (go_at_call 85; (with_reducible refine (HCx.out _ HB.out).mono ?_); rintro e w2 ⟨rfl, hb⟩; have HB2 := Lib.hid (bl_trans HB.out hb); clear hb)
        go_ret
        refine ⟨⟨_, rfl, ?_⟩, HB2.out⟩
        have : l.any P = true := List.any_eq_true.2 ⟨l[k], List.getElem_mem hlt, by rw [HX.out]; exact HR.out⟩
        rw [this]; simp
      | false =>
        go_wp2_with (go_at_call 85; (with_reducible refine (HCx.out _ HB.out).mono ?_); rintro e w2 ⟨rfl, hb⟩; have HB2 := Lib.hid (bl_trans HB.out hb); clear hb)
        go_roundw
        case rel => exact ⟨k + 1, by omega, by go_num, fun i hi h => by
          rcases Nat.lt_or_ge i k with h1 | h1
          · exact HN.out i hi h1
          · obtain rfl : i = k := by omega
            rw [HX.out]; exact HR.out, HB2.out⟩
        case measure => simp [intOf]; omega
    · obtain rfl : k = l.length := by omega
      go_wp2
      go_ret
      refine ⟨⟨_, rfl, ?_⟩, HB.out⟩
      have : l.any P = false := by
        rw [List.any_eq_false]
        intro x hx
        obtain ⟨i, hi, rfl⟩ := List.mem_iff_getElem.1 hx
        simpa using HN.out i hi hi
      rw [this]; simp
theorem sKnHas (P : Nat → Bool) (cap : Value) (l : List Nat) (a : Option Addr) (c : Nat) (hl : l.length ≤ maxLen) (w : World) (h : CellsAt w a (l.flatMap natV))
    (hc : ∀ x ∈ l, ∀ W, Below w.heap.size w W → Calls Tryz.prog 85 #[.int .i64 (x : Nat), cap] W fun e w' => e = .returned (.bool (P x)) ∧ Below W.heap.size W w') :
    Calls Tryz.prog 84 #[.slice a l.length c, .func (.func 85) #[] #[cap]] w fun e w' => e = .returned (.bool (l.any P)) ∧ Below w.heap.size w w' := by
  have HI := Lib.hid (sKnIdx P cap l a c hl w h hc)
  clear h hc
  go_enter Tryz.func84, Tryz.ntmps84
  go_wp2_with (go_at_call 143; (with_reducible refine HI.out.mono ?_); rintro e w2 ⟨⟨k, rfl, hk⟩, hb⟩; have HB := Lib.hid hb; clear hb)
  go_ret
  exact ⟨by rw [← hk]; rfl, HB.out⟩
theorem sKnown1 (A s m : Nat) (x : Nat) (ca : Option Addr) (cc : Nat) (w : World) (cA : w.cell? ⟨A, 0, none⟩ = some (.pointer (some ⟨s, 0, none⟩))) (c2 : w.cell? ⟨s, 2, none⟩ = some (.slice ca m cc)) :
    Calls Tryz.prog 85 #[.int .i64 (x : Nat), .pointer (some ⟨A, 0, none⟩)] w fun e w' => e = .returned (.bool (decide (m ≤ x))) ∧ Below w.heap.size w w' := by
  have hd : decide ((x : Int) ≥ (m : Int)) = decide (m ≤ x) := by simp
  go_enter Tryz.func85, Tryz.ntmps85
  go_wp2
  go_ret
  exact ⟨by simp, Below.refl _ _⟩
set_option maxHeartbeats 4000000 in
set_option maxRecDepth 100000 in
theorem sKnown (s : Nat) (S : StoreS) (ps : List Nat) (t : Nat) (a : Option Addr) (c : Nat) (w : World) (hS : StoreAt w s S) (hA : CellsAt w a (ps.flatMap natV)) (hl : ps.length ≤ 1000) (hp : ∀ x ∈ ps, x < S.commits.length) (ht : t < S.trees.length) :
    Calls Tryz.prog 38 #[.pointer (some ⟨s, 0, none⟩), .agg #[.slice a ps.length c, .int .i64 (t : Nat)]] w fun e w' => e = .returned (.bool true) ∧ Below w.heap.size w w' := by
  obtain ⟨ta, tc, htv, _, _, _, _, _⟩ := hS.tv.sl
  obtain ⟨ca, cc, hcv, _, _, _, _, _⟩ := hS.cv.sl
  have c1 : w.cell? ⟨s, 1, none⟩ = some (.slice ta S.trees.length tc) := by rw [cell_of_row _ _ _ _ _ _ hS.box, ← htv]; rfl
  have c2 : w.cell? ⟨s, 2, none⟩ = some (.slice ca S.commits.length cc) := by rw [cell_of_row _ _ _ _ _ _ hS.box, ← hcv]; rfl
  obtain ⟨W2, hW2⟩ : ∃ W2, (w.alloc (.cells #[.pointer (some ⟨s, 0, none⟩)] 29)).alloc (.cells #[.slice a ps.length c, .int .i64 (t : Nat)] 45) = W2 := ⟨_, rfl⟩
  have hb2 : Below w.heap.size w W2 := by rw [← hW2]; exact bl_alloc (bl_alloc (Below.refl _ w) _) _
  have a0 : W2.cell? ⟨w.heap.size, 0, none⟩ = some (.pointer (some ⟨s, 0, none⟩)) := by rw [← hW2]; exact cell_al (allocL_cells _ rfl rfl) _
  have a1 : W2.cell? ⟨w.heap.size + 1, 0, none⟩ = some (.slice a ps.length c) := by rw [← hW2]; exact allocL_cells _ (by simp) rfl
  have a2 : W2.cell? ⟨w.heap.size + 1, 1, none⟩ = some (.int .i64 (t : Nat)) := by rw [← hW2]; exact allocL_cells _ (by simp) rfl
  have hany : ps.any (fun x => decide (S.commits.length ≤ x)) = false := by
    rw [List.any_eq_false]
    intro x hx
    have := hp x hx
    simp; omega
  have hdt : decide ((t : Int) < (S.trees.length : Int)) = true := by simp; omega
  have hdt2 : decide (t < S.trees.length) = true := by simp; omega
  have c1' := bl_cell hb2 c1
  have c2' := bl_cell hb2 c2
  have HC := Lib.hid (fun W (hW : Below W2.heap.size W2 W) => sKnHas (fun x => decide (S.commits.length ≤ x)) (.pointer (some ⟨w.heap.size, 0, none⟩)) ps a c (by unfold maxLen; omega) W ((hA.below hb2).below hW) (fun x _ W' hW' => sKnown1 w.heap.size s S.commits.length x ca cc W' (bl_cell (bl_trans hW hW') a0) (bl_cell (bl_trans hW hW') c2')))
  rw [hany] at HC
  have HQ := Lib.hid (show W2.cell? ⟨w.heap.size, 0, none⟩ = some (.pointer (some ⟨s, 0, none⟩)) ∧ W2.cell? ⟨w.heap.size + 1, 0, none⟩ = some (.slice a ps.length c) ∧ W2.cell? ⟨w.heap.size + 1, 1, none⟩ = some (.int .i64 (t : Nat)) ∧ W2.cell? ⟨s, 1, none⟩ = some (.slice ta S.trees.length tc) from ⟨a0, a1, a2, c1'⟩)
  have HW2 := Lib.hid hW2; have HB2 := Lib.hid hb2
  clear hS hA hp ht htv hcv c1 c2 hW2 hb2 a0 a1 a2 hany c1' c2'
  go_enter Tryz.func38, Tryz.ntmps38
  go_wp2
  rw [HW2.out]
  go_region_held3 (fun x => x.cell? ⟨w.heap.size, 0, none⟩ = some (.pointer (some ⟨s, 0, none⟩)) ∧ x.cell? ⟨w.heap.size + 1, 0, none⟩ = some (.slice a ps.length c) ∧ x.cell? ⟨w.heap.size + 1, 1, none⟩ = some (.int .i64 (t : Nat)) ∧ x.cell? ⟨s, 1, none⟩ = some (.slice ta S.trees.length tc))
    (first | exact ⟨bl_cell HB3.out HQ.out.1, bl_cell HB3.out HQ.out.2.1, bl_cell HB3.out HQ.out.2.2.1, bl_cell HB3.out HQ.out.2.2.2⟩ | exact HQ.out)
    (first
      | (go_at_call 84; (with_reducible refine (HC.out _ (bl_drew (Below.refl _ W2))).mono ?_); rintro e w3 ⟨rfl, hb⟩; have HB3 := Lib.hid (bl_trans (bl_drew (Below.refl _ W2)) hb); clear hb))
  all_goals
    go_wp2
    go_ret
    exact ⟨rfl, bl_trans HB2.out HB3.out⟩
end Go.Proofs.YtbhfbdcmamodcaaGreatDoor
namespace Go.Proofs.YtbhfbdcmamodcaaGreatDoor
open Go.RowKit Go.Maps TrMath FrMath
theorem com_pushed {w x w2 : World} {s gg cap : Nat} {S : StoreS} {v : Value} {A : ComP} (hS : StoreAt w s S) (hx : Below w.heap.size w x) (hv : OwnX 3 1 natV x w.heap.size v A.1) (hg : x.grownBy w2 S.cv.ownBlock)
    (hown : w2.ownsRow 0 45 2 (.slice (some ⟨gg, 0, none⟩) (S.commits.length + 1) cap) (S.commits.length + 1) (S.commits.flatMap comC ++ [v, .int .i64 (A.2 : Nat)])) (hat : S.cv.ownBlock = some gg ∨ gg = x.heap.size) :
    StoreAt (w2.setCell ⟨s, 2, none⟩ (.slice (some ⟨gg, 0, none⟩) (S.commits.length + 1) cap)) s ⟨S.disk, S.tv, .slice (some ⟨gg, 0, none⟩) (S.commits.length + 1) cap, S.trees, S.commits ++ [(v, A)]⟩ ∧
    Grew (fun k => k ∈ S.own s) (fun k => k ∈ (⟨S.disk, S.tv, .slice (some ⟨gg, 0, none⟩) (S.commits.length + 1) cap, S.trees, S.commits ++ [(v, A)]⟩ : StoreS).own s) w (w2.setCell ⟨s, 2, none⟩ (.slice (some ⟨gg, 0, none⟩) (S.commits.length + 1) cap)) := by
  have hlt := hS.lt
  have hxz := hx.size
  have hgz := hg.size
  have hvl := hv.lt
  have hap := hS.apart
  have hap2 : ((s :: S.tv.ownBlock.toList) ++ (S.cv.ownBlock.toList ++ (rowsB1 S.trees ++ rowsB1 S.commits))).Nodup := by have := hap; unfold StoreS.own at this; simpa using this
  obtain ⟨_, n2, n3⟩ := List.nodup_append.1 hap2
  obtain ⟨_, _, n5⟩ := List.nodup_append.1 n2
  have hsl : s < w.heap.size := hlt s sown_s
  have hts : S.cv.ownBlock ≠ some s := fun e => n3 s (by simp) s (by simp [e]) rfl
  have hgs : gg ≠ s := by
    rcases hat with e | e
    · exact fun k => hts (by rw [e, k])
    · omega
  have hst : ∀ k, k < x.heap.size → k ≠ s → S.cv.ownBlock ≠ some k → (w2.setCell ⟨s, 2, none⟩ (.slice (some ⟨gg, 0, none⟩) (S.commits.length + 1) cap)).heap[k]? = x.heap[k]? := fun k hk k1 k2 => by
    rw [heap_setCell_other _ _ _ _ k1, hg.block k hk (Ne.symm k2)]
  have hst2 : ∀ k, k ∈ S.tv.ownBlock.toList ++ (rowsB1 S.trees ++ rowsB1 S.commits) → (w2.setCell ⟨s, 2, none⟩ (.slice (some ⟨gg, 0, none⟩) (S.commits.length + 1) cap)).heap[k]? = w.heap[k]? := fun k hk => by
    have hko : k ∈ S.own s := by
      unfold StoreS.own
      rcases List.mem_append.1 hk with hk | hk
      · exact List.mem_cons_of_mem _ (List.mem_append_left _ hk)
      · exact List.mem_cons_of_mem _ (List.mem_append_right _ (List.mem_append_right _ hk))
    have hkl : k < w.heap.size := hlt k hko
    have hks : k ≠ s := fun e => (List.nodup_cons.1 (show (s :: (S.tv.ownBlock.toList ++ (S.cv.ownBlock.toList ++ (rowsB1 S.trees ++ rowsB1 S.commits)))).Nodup from hap)).1 (by
      rw [← e]
      rcases List.mem_append.1 hk with hk | hk
      · exact List.mem_append_left _ hk
      · exact List.mem_append_right _ (List.mem_append_right _ hk))
    have hkc : S.cv.ownBlock ≠ some k := fun e => by
      rcases List.mem_append.1 hk with hk | hk
      · exact n3 k (List.mem_cons_of_mem _ hk) k (by simp [e]) rfl
      · exact n5 k (by simp [e]) k hk rfl
    rw [hst k (by omega) hks hkc, hx.block k hkl]
  have hbs : w2.heap[s]? = w.heap[s]? := by rw [hg.block s (by omega) (Ne.symm hts), hx.block s hsl]
  have hown2 : (⟨S.disk, S.tv, .slice (some ⟨gg, 0, none⟩) (S.commits.length + 1) cap, S.trees, S.commits ++ [(v, A)]⟩ : StoreS).own s = ((s :: S.tv.ownBlock.toList) ++ ([gg] ++ (rowsB1 S.trees ++ rowsB1 S.commits))) ++ (v.ownBlock.toList ++ []) := by
    unfold StoreS.own rowsB1
    simp [Value.ownBlock]
  have hD : StoreAt (w2.setCell ⟨s, 2, none⟩ (.slice (some ⟨gg, 0, none⟩) (S.commits.length + 1) cap)) s ⟨S.disk, S.tv, .slice (some ⟨gg, 0, none⟩) (S.commits.length + 1) cap, S.trees, S.commits ++ [(v, A)]⟩ := by
    refine ⟨?_, hS.tv.stays fun g e => hst2 g (by simp [e]), ?_, fun y hy => (hS.trees y hy).keep fun g e => hst2 g (List.mem_append_right _ (List.mem_append_left _ (List.mem_flatMap.2 ⟨y, hy, by simp [e]⟩))), fun y hy => ?_, ?_⟩
    · rw [heap_setCell_same w2 s 2 _ _ _ (hbs.trans hS.box)]
      rfl
    · exact (OwnX.push (enc := comC) (l := S.commits) (m := [(v, A)]) hown rfl rfl).stays fun g e => heap_setCell_other _ _ _ _ (by cases e; exact hgs)
    · rcases List.mem_append.1 hy with hy | hy
      · exact (hS.commits y hy).stays fun g e => hst2 g (List.mem_append_right _ (List.mem_append_right _ (List.mem_flatMap.2 ⟨y, hy, by simp [e]⟩)))
      · rw [List.mem_singleton] at hy
        subst hy
        exact (hv.mono (Nat.zero_le _)).stays fun g e => hst g (hvl g e).2 (by have := (hvl g e).1; omega) (fun e2 => by have := (hvl g e).1; have := hlt g (sown_cv e2); omega)
    · have h1 : ((s :: S.tv.ownBlock.toList) ++ ([gg] ++ (rowsB1 S.trees ++ rowsB1 S.commits))).Nodup := nodup_row hap2 (fun k hk => hlt k (by unfold StoreS.own; simpa using hk)) (hat.imp id (fun e => by omega))
      have h3 := nodup_add (A := (s :: S.tv.ownBlock.toList) ++ ([gg] ++ (rowsB1 S.trees ++ rowsB1 S.commits))) (B := []) (vl := v.ownBlock.toList) (by rw [List.append_nil]; exact h1) (toList_nodup _) (fun k hk hm => by
        have hk2 := hvl k (by simpa using hk)
        have h4 : k = gg ∨ k ∈ S.own s := by
          unfold StoreS.own
          simp only [List.mem_cons, List.mem_append, List.append_nil, List.not_mem_nil, or_false] at hm ⊢
          rcases hm with (hm | hm) | hm | hm | hm <;> simp [hm]
        rcases h4 with e | h4
        · rcases hat with e2 | e2
          · have := hlt gg (sown_cv e2); omega
          · omega
        · have := hlt k h4; omega)
      rw [hown2]
      exact h3
  refine ⟨hD, ⟨?_, fun k hk => ?_, hD.lt⟩⟩
  · have a1 : Upd (fun k => k ∈ S.own s) w w2 := (Upd.of hx).grown hg (fun g e => .inl (sown_cv e))
    exact a1.set s 2 _ (.inl sown_s)
  · rw [hown2] at hk
    have h4 : k = gg ∨ v.ownBlock = some k ∨ k ∈ S.own s := by
      unfold StoreS.own
      simp only [List.mem_cons, List.mem_append, List.not_mem_nil, or_false] at hk ⊢
      rcases hk with ((hm | hm) | hm | hm | hm) | hm
      · simp [hm]
      · simp [hm]
      · simp [hm]
      · simp [hm]
      · simp [hm]
      · right; left; simpa using hm
    rcases h4 with e | e | h4
    · rcases hat with e2 | e2
      · exact .inl (sown_cv (by rw [e2, e]))
      · exact .inr (by omega)
    · exact .inr (hvl k e).1
    · exact .inl h4
end Go.Proofs.YtbhfbdcmamodcaaGreatDoor
namespace Go.Proofs.YtbhfbdcmamodcaaGreatDoor
open Go.RowKit Go.Maps TrMath FrMath PackMath
theorem infoComRow : (Tryz.prog.info? 45).map (fun i => (i.zero, i.size, i.bytes)) = some (some (.agg #[.slice none 0 0, .int .i64 0]), 2, 32) := by kernel_rfl
structure GoodC (c : ComP) : Prop where
  few : c.1.length ≤ 16
  low : ∀ p ∈ c.1, p < 65536
  alike : c.1.Nodup
  tree : c.2 < 65536
def intsN (l : List Nat) : List Int := l.map fun (n : Nat) => (n : Int)
theorem inn_nat {n : Nat} (h : n < 65536) : inn (n : Int) = true := by
  unfold inn
  simp
  omega
theorem chk_nats : ∀ (l : List Nat) (W : List Int), (∀ p ∈ l, p < 65536) → l.Nodup → (∀ p ∈ l, memB (p : Int) W = false) → chkGo W (intsN l) = 0
  | [], W, _, _, _ => rfl
  | x :: r, W, h1, h2, h3 => by
    obtain ⟨h4, h5⟩ := List.nodup_cons.1 h2
    show chkGo W ((x : Int) :: intsN r) = 0
    rw [chkGo, if_neg (by rw [inn_nat (h1 x (by simp))]; decide), if_neg (by rw [h3 x (by simp)]; decide)]
    refine chk_nats r _ (fun p hp => h1 p (by simp [hp])) h5 (fun p hp => ?_)
    have h6 := h3 p (by simp [hp])
    have h7 : p ≠ x := fun e => h4 (e ▸ hp)
    unfold memB at h6 ⊢
    simp at h6 ⊢
    exact ⟨h6, by omega⟩
theorem GoodC.ok {c : ComP} (h : GoodC c) : checkR (c.2 : Int) (intsN c.1) = 0 := by
  unfold checkR
  rw [if_neg (by unfold intsN; rw [List.length_map]; have := h.few; omega), if_neg (by rw [inn_nat h.tree]; decide)]
  exact chk_nats c.1 [] h.low h.alike (fun p _ => by simp [memB])
def comB (c : ComP) : List UInt8 := encC (c.2 : Int) (intsN c.1)
theorem comB_len {c : ComP} (h : GoodC c) : (comB c).length ≤ 69 := by
  unfold comB encC
  rw [List.length_append, List.length_append, be_length, be_length, flat_len]
  unfold intsN
  rw [List.length_map]
  have := h.few
  omega
set_option maxHeartbeats 4000000 in
set_option maxRecDepth 100000 in
theorem sAddCommit (s p q : Nat) (F : Foot) (S : StoreS) (vpre vpost : View) (L : List UInt8) (A : ComP) (a : Option Addr) (c : Nat) (w : World) (hD : Disk w p F (vpre ++ (logN, L) :: vpost) q) (hS : StoreAt w s S) (hp : S.disk = p) (hap : Apart F (fun k => k ∈ S.own s))
    (hM : ∀ x ∈ vpre ++ (logN, L) :: vpost, x.2.length ≤ 524288) (hl : (vpre ++ (logN, L) :: vpost).length ≤ 16) (hA : CellsAt w a (A.1.flatMap natV)) (hac : A.1.length ≤ c) (hcm : c ≤ maxLen) (hG : GoodC A) (hn : S.commits.length < 65536) (hps : ∀ x ∈ A.1, x < S.commits.length) (ht : A.2 < S.trees.length)
    (hna : ∀ b off, a = some ⟨b, off, none⟩ → ¬ F b ∧ b ∉ S.own s) (haz : ∀ b off, a = some ⟨b, off, none⟩ → b < w.heap.size) :
    Calls Tryz.prog 10 #[.pointer (some ⟨s, 0, none⟩), .agg #[.slice a A.1.length c, .int .i64 (A.2 : Nat)]] w fun e w' => e = .returned (.tuple #[.int .i64 (S.commits.length : Nat), .int .i64 0]) ∧ Added s p q F S (vpre ++ (logN, L ++ recB 2 (comB A)) :: vpost) (S.trees.map Prod.snd) (S.commits.map Prod.snd ++ [A]) w w' := by
  obtain ⟨i0, hi, hz0, hz1, hz2⟩ := info_parts infoComRow
  obtain ⟨ta, tc, htv, _, _, _, _, _⟩ := hS.cv.sl
  obtain ⟨ps, t⟩ := A
  simp only at hA hac hps ht
  obtain ⟨n, hnn⟩ : ∃ n, S.commits.length = n := ⟨_, rfl⟩
  rw [hnn] at htv hn
  obtain ⟨W1, hW1⟩ : ∃ W1, w.alloc (.cells #[.slice a ps.length c, .int .i64 (t : Nat)] 45) = W1 := ⟨_, rfl⟩
  have hb1 : Below w.heap.size w W1 := by rw [← hW1]; exact bl_alloc (Below.refl _ w) _
  have b0 : W1.cell? ⟨w.heap.size, 0, none⟩ = some (.slice a ps.length c) := by rw [← hW1]; exact allocL_cells _ rfl rfl
  have b1 : W1.cell? ⟨w.heap.size, 1, none⟩ = some (.int .i64 (t : Nat)) := by rw [← hW1]; exact allocL_cells _ rfl rfl
  have hd1 : decide ((n : Int) ≥ 65536) = false := by simp; omega
  have c1 : W1.cell? ⟨s, 2, none⟩ = some (.slice ta n tc) := by
    refine bl_cell hb1 ?_
    rw [cell_of_row _ _ _ _ _ _ hS.box, ← htv]; rfl
  have HO := Lib.hid (sOpen (hS.below hb1))
  have hal := hG.few
  simp only at hal
  have hil : (intsN ps).length = ps.length := by unfold intsN; rw [List.length_map]
  have HE := Lib.hid (show Calls Tryz.prog 37 #[.agg #[.slice a ps.length c, .int .i64 (t : Nat)]] W1 fun e w' => e = .returned (.tuple #[.string ⟨(comB (ps, t)).toArray⟩, .int .i64 0]) ∧ Below W1.heap.size W1 w' from by
    have := cEncode_ok (w := W1) (t : Int) (intsN ps) a c (by rw [hil]; exact hac) hcm (ints_of (hA.below hb1) (fun p hp => by have := hG.low p hp; omega)) hG.ok
    rw [hil] at this
    exact this)
  have HK := Lib.hid (fun W (hW : Below W1.heap.size W1 W) => sKnown s S ps t a c W ((hS.below hb1).below hW) ((hA.below hb1).below hW) (by omega) hps ht)
  have hsz : (⟨(comB (ps, t)).toArray⟩ : ByteArray).size ≤ 1048576 := by
    have := comB_len hG
    show (comB (ps, t)).toArray.size ≤ _
    simp; omega
  have HW := Lib.hid (show ∀ W, Below W1.heap.size W1 W → Calls Tryz.prog 34 #[.pointer (some ⟨s, 0, none⟩), .int .i64 2, .string ⟨(comB (ps, t)).toArray⟩] W fun e w' => e = .returned (.int .i64 0) ∧ Logged s p F S (vpre ++ (logN, L ++ recB 2 (comB (ps, t))) :: vpost) q W w' from
    fun W hW => sWrite s p q 2 F S vpre vpost L ⟨(comB (ps, t)).toArray⟩ W ((hD.below hb1).below hW) ((hS.below hb1).below hW) hp hap hM hl (by decide) hsz)
  have hFl := hD.lt
  have hSl := hS.lt
  have HX := Lib.hid (show ∀ W w3, Below W1.heap.size W1 W → Logged s p F S (vpre ++ (logN, L ++ recB 2 (comB (ps, t))) :: vpost) q W w3 → StoreAt w3 s S ∧ CellsAt w3 a (ps.flatMap natV) ∧ w3.cell? ⟨w.heap.size, 0, none⟩ = some (.slice a ps.length c) ∧ w3.cell? ⟨w.heap.size, 1, none⟩ = some (.int .i64 (t : Nat)) from fun W w3 hW hlg => by
    obtain ⟨F1, k1, k2, k3, k4⟩ := hlg
    have hst : ∀ b o v, W.cell? ⟨b, o, none⟩ = some v → ¬ F b → b ∉ S.own s → w3.cell? ⟨b, o, none⟩ = some v := fun b o v hv n1 n2 => by
      rw [World.cell?_of_block (k3.upd.block b (World.block_lt_of_cell? W _ hv) (by rintro (h | h); exact n1 h; exact n2 h))]
      exact hv
    have nF : ¬ F w.heap.size := fun e => Nat.lt_irrefl _ (hFl _ e)
    have nS : w.heap.size ∉ S.own s := fun e => Nat.lt_irrefl _ (hSl _ e)
    refine ⟨k2, ((hA.below hb1).below hW).stays (fun b off e _ => k3.upd.block b (Nat.lt_of_lt_of_le (haz b off e) (bl_trans hb1 hW).size) ?_) k3.upd.size, hst _ _ _ (bl_cell hW b0) nF nS, hst _ _ _ (bl_cell hW b1) nF nS⟩
    rintro (h | h)
    · exact (hna b off e).1 h
    · exact (hna b off e).2 h)
  have HT := Lib.hid htv; have HNN := Lib.hid hnn; have HW1 := Lib.hid hW1; have HB1 := Lib.hid hb1
  have HQ := Lib.hid (show W1.cell? ⟨w.heap.size, 0, none⟩ = some (.slice a ps.length c) ∧ W1.cell? ⟨w.heap.size, 1, none⟩ = some (.int .i64 (t : Nat)) ∧ W1.cell? ⟨s, 2, none⟩ = some (.slice ta n tc) from ⟨b0, b1, c1⟩)
  clear hD hS hap hM hl hA hG hna haz hsz htv hnn hW1 hb1 hps ht hFl hSl hac
  go_enter Tryz.func10, Tryz.ntmps10
  go_wp2_with fail
  rw [HW1.out]
  (with_reducible refine HO.out.mono ?_)
  rintro e w1 ⟨rfl, rfl⟩
  go_wp2_with fail
  (with_reducible refine HE.out.mono ?_)
  rintro e w2 ⟨rfl, hb⟩
  have HB2 := Lib.hid hb
  have b0' := bl_cell hb HQ.out.1
  have b1' := bl_cell hb HQ.out.2.1
  clear hb b0 b1 c1
  go_wp2_with fail
  (with_reducible refine (HK.out w2 HB2.out).mono ?_)
  rintro e w2b ⟨rfl, hb⟩
  have HB2b := Lib.hid (bl_trans HB2.out hb)
  have c1' := bl_cell HB2b.out HQ.out.2.2
  clear hb b0' b1'
  go_wp2_with fail
  (with_reducible refine (HW.out w2b HB2b.out).mono ?_)
  rintro e w3 ⟨rfl, hlg⟩
  obtain ⟨hS3, hA3, b0, b1⟩ := HX.out w2b w3 HB2b.out hlg
  have hbx3 : w3.heap[s]? = some (.cells #[.pointer (some ⟨p, 0, none⟩), S.tv, .slice ta n tc, .bool false] 77 (0, 0)) := by rw [← hp, ← HT.out]; exact hS3.box
  have HLG := Lib.hid hlg; have HS3 := Lib.hid hS3; have HA3 := Lib.hid hA3
  have HBX := Lib.hid (show ∀ x, Below w3.heap.size w3 x → x.cell? ⟨s, 2, none⟩ = some (.slice ta n tc) ∧ x.frozen? ⟨s, 2, none⟩ = false from fun x hx => by
    have := (hx.block s (Array.getElem?_eq_some_iff.1 hbx3).1).trans hbx3
    exact ⟨by rw [cell_of_row _ _ _ _ _ _ this]; rfl, frozen_of_row _ _ _ _ _ this⟩)
  have htvn : S.cv.ownBlock ≠ some s := fun e => by
    have h2 : (s :: (S.tv.ownBlock.toList ++ (S.cv.ownBlock.toList ++ (rowsB1 S.trees ++ rowsB1 S.commits)))).Nodup := hS3.apart
    exact (List.nodup_cons.1 h2).1 (by simp [e])
  have HAF := Lib.hid (show ∀ x y, Below w3.heap.size w3 x → x.grownBy y (Value.slice ta n tc).ownBlock → y.cell? ⟨s, 2, none⟩ = some (.slice ta n tc) ∧ y.frozen? ⟨s, 2, none⟩ = false from fun x y hx hy => by
    rw [← HT.out] at hy
    have hsl := (Array.getElem?_eq_some_iff.1 hbx3).1
    have := (hy.block s (Nat.lt_of_lt_of_le hsl hx.size) (Ne.symm htvn)).trans ((hx.block s hsl).trans hbx3)
    exact ⟨by rw [cell_of_row _ _ _ _ _ _ this]; rfl, frozen_of_row _ _ _ _ _ this⟩)
  have hc3 := (HBX.out w3 (Below.refl _ _)).1
  clear hlg hS3 hA3 hbx3 c1'
  have HC := Lib.hid (fun W (hW : Below w3.heap.size w3 W) => kCloneInt ps a c (by omega) W (HA3.out.below hW))
  go_wp2_with fail
  go_region_law (first
    | (refine step_append_lies _ rfl (.tmp 44) (.tmp 51) 75 rfl 0 45 i0 (.agg #[.slice none 0 0, .int .i64 0]) 2 32 Tryz.underlying75 hi hz0 hz1 hz2 rfl (by decide) (.slice ta n tc) n (S.commits.flatMap comC) rfl (OwnX.nb' HS3.out.cv HT.out HNN.out (bl_trans (bl_drew (Below.refl _ w3)) HB4.out) _) _ 1 1 [.slice a4 ps.length c4, .int .i64 (t : Nat)] rfl rfl (cells_new w4 [.slice a4 ps.length c4, .int .i64 (t : Nat)] _ rfl) (by intro u hu; simp at hu; rcases hu with rfl | rfl <;> rfl) (by decide) (by unfold maxLen; omega) (by omega) (Nat.zero_le _) _ rfl ?_; intro gg cp w5 hown hg hat hlt5; obtain ⟨hs5, hz5⟩ := HAF.out _ w5 (bl_alloc (bl_trans (bl_drew (Below.refl _ w3)) HB4.out) _) hg)
    | (go_simp; go_at_call 39; (with_reducible refine (HC.out _ (bl_drew (Below.refl _ w3))).mono ?_); rintro e w4 ⟨v4, rfl, ho, hb⟩; obtain ⟨a4, c4, rfl, _, _, _, _, _⟩ := OwnX.sl ho; have HV4 := Lib.hid ho; have HB4 := Lib.hid hb; have hb34 := bl_trans (bl_drew (Below.refl _ w3)) hb; have hc4 := (HBX.out w4 hb34).1; have d1 := bl_cell hb34 b1; have hc5 : ∀ o, (w4.alloc o).cell? ⟨s, 2, none⟩ = some (.slice ta n tc) := (fun o => cell_al hc4 o); clear ho hb hb34))
  all_goals
    obtain ⟨HP, HG5⟩ := com_pushed (A := (ps, t)) (gg := gg) (cap := cp) HS3.out (bl_alloc (bl_trans (bl_drew (Below.refl _ w3)) HB4.out) _) (HV4.out.below (bl_alloc (Below.refl _ w4) _)) (by rw [HT.out]; exact hg) (by rw [HNN.out]; exact hown) (by rw [HT.out]; exact hat)
    rw [HNN.out] at HP HG5
    have HAD := Lib.hid (Added.after (bl_trans HB1.out HB2b.out) (added_of HLG.out HG5 HP hp (ts := S.trees.map Prod.snd) (cs := S.commits.map Prod.snd ++ [(ps, t)]) rfl (by simp)))
    have hc6 : (w5.setCell ⟨s, 2, none⟩ (.slice (some ⟨gg, 0, none⟩) (n + 1) cp)).cell? ⟨s, 2, none⟩ = some (.slice (some ⟨gg, 0, none⟩) (n + 1) cp) := by rw [cell_of_row _ _ _ _ _ _ HP.box]; rfl
    clear HP HG5 hown hg hat hlt5 hs5 hz5
    generalize w5.setCell ⟨s, 2, none⟩ (.slice (some ⟨gg, 0, none⟩) (n + 1) cp) = W6 at *
    have hsub : IntKind.i64.wrap (((n + 1 : Nat) : Int) - 1) = (n : Int) := by rw [IntWalk.i64_in _ (by omega)]; omega
    go_wp2
    exact bodyPost_ret (v := .tuple #[.int .i64 (n : Nat), .int .i64 0]) (by simp [results, Tryz.results10, go_sem]) rfl ⟨by rw [HNN.out], HAD.out⟩
end Go.Proofs.YtbhfbdcmamodcaaGreatDoor
namespace Go.Proofs.YtbhfbdcmamodcaaGreatDoor
open Go.RowKit Go.Maps TrMath FrMath PackMath
theorem two_done {wr : World} {H : Nat} {u v x y : Value} {t : TypeId} (h : wr.heap[H]? = some (.cells #[u, v] t (0, 0))) :
    ((wr.setCell ⟨H, 0, none⟩ x).setCell ⟨H, 1, none⟩ y).cell? ⟨H, 0, none⟩ = some x ∧ ((wr.setCell ⟨H, 0, none⟩ x).setCell ⟨H, 1, none⟩ y).cell? ⟨H, 1, none⟩ = some y ∧
    (∀ k, k ≠ H → ((wr.setCell ⟨H, 0, none⟩ x).setCell ⟨H, 1, none⟩ y).heap[k]? = wr.heap[k]?) ∧ ∀ B w, B ≤ H → Below B w wr → Below B w ((wr.setCell ⟨H, 0, none⟩ x).setCell ⟨H, 1, none⟩ y) := by
  have h1 := heap_setCell_same wr H 0 _ _ x h
  have h2 := heap_setCell_same _ H 1 _ _ y h1
  exact ⟨by rw [cell_of_row _ _ _ _ _ _ h2]; rfl, by rw [cell_of_row _ _ _ _ _ _ h2]; rfl, fun k hk => by rw [heap_setCell_other _ _ _ _ hk, heap_setCell_other _ _ _ _ hk], fun B w hB hb => (hb.setCell hB _).setCell hB _⟩
theorem two_cells {wr : World} {H : Nat} {u v : Value} {t : TypeId} (h : wr.heap[H]? = some (.cells #[u, v] t (0, 0))) : wr.cell? ⟨H, 0, none⟩ = some u ∧ wr.cell? ⟨H, 1, none⟩ = some v ∧ wr.frozen? ⟨H, 0, none⟩ = false ∧ wr.frozen? ⟨H, 1, none⟩ = false :=
  ⟨by rw [cell_of_row _ _ _ _ _ _ h]; rfl, by rw [cell_of_row _ _ _ _ _ _ h]; rfl, frozen_of_row _ _ _ _ _ h, frozen_of_row _ _ _ _ _ h⟩
theorem sCommits {w : World} {s : Nat} {S : StoreS} (h : StoreAt w s S) : Calls Tryz.prog 15 #[.pointer (some ⟨s, 0, none⟩)] w fun e w' => e = .returned (.int .i64 (S.commits.length : Nat)) ∧ w' = w := by
  obtain ⟨ca, cc, hcv, _, _, _, _, _⟩ := h.cv.sl
  have c2 : w.cell? ⟨s, 2, none⟩ = some (.slice ca S.commits.length cc) := by rw [cell_of_row _ _ _ _ _ _ h.box, ← hcv]; rfl
  clear h hcv
  go_enter Tryz.func15, Tryz.ntmps15
  go_wp2
  go_ret
  exact ⟨rfl, rfl⟩
set_option maxHeartbeats 4000000 in
set_option maxRecDepth 100000 in
theorem sCommit {w : World} {s : Nat} {S : StoreS} (h : StoreAt w s S) (k : Nat) (ps : List Nat) (t : Nat) (hk : (S.commits.map Prod.snd)[k]? = some (ps, t)) (hl : ps.length ≤ 1000000) (hcl : S.commits.length ≤ 65536) :
    Calls Tryz.prog 290 #[.pointer (some ⟨s, 0, none⟩), .int .i64 (k : Nat)] w fun e w' => ∃ v, e = .returned (.tuple #[.agg #[v, .int .i64 (t : Nat)], .int .i64 0]) ∧ OwnX 3 1 natV w' w.heap.size v ps ∧ Below w.heap.size w w' := by
  obtain ⟨ca, cc, hcv, hcells, hcc, hcm, _, _⟩ := h.cv.sl
  obtain ⟨hkl, hke⟩ := List.getElem?_eq_some_iff.1 hk
  rw [List.length_map] at hkl
  rw [List.getElem_map] at hke
  obtain ⟨y, hy⟩ : ∃ y, S.commits[k] = y := ⟨_, rfl⟩
  have hym : y ∈ S.commits := by rw [← hy]; exact List.getElem_mem hkl
  have hown := h.commits y hym
  rw [hy] at hke
  obtain ⟨yv, ys⟩ := y
  simp only at hke hown
  subst hke
  obtain ⟨pa, pc, rfl, hpcells, _, _, _, _⟩ := hown.sl
  simp only at hl hpcells hown
  obtain ⟨b, off, rfl, hbl, hel⟩ := hcells.elem comCW hkl (by decide)
  rw [hy] at hel
  have e0 := hel 0 _ rfl
  have e1 := hel 1 _ rfl
  obtain ⟨n, hn⟩ : ∃ n, S.commits.length = n := ⟨_, rfl⟩
  rw [hn] at hcv hkl hcc hcl
  have c2 : w.cell? ⟨s, 2, none⟩ = some (.slice (some ⟨b, off, none⟩) n cc) := by rw [cell_of_row _ _ _ _ _ _ h.box, ← hcv]; rfl
  have d1 : decide ((k : Int) < 0) = false := by simp
  have d2 : decide ((k : Int) ≥ (n : Int)) = false := by simp; omega
  have d3 : decide (n ≤ k) = false := by simp; omega
  have hmul : (0 : Nat) + k * 2 = k * 2 := by omega
  obtain ⟨o1, ho1⟩ : ∃ o, Obj.cells #[.slice none 0 0, .int .i64 0] 45 = o := ⟨_, rfl⟩
  obtain ⟨o2, ho2⟩ : ∃ o, Obj.cells #[.slice pa ps.length pc, .int .i64 (t : Nat)] 45 = o := ⟨_, rfl⟩
  obtain ⟨W2, hW2⟩ : ∃ W2, (w.alloc o1).alloc o2 = W2 := ⟨_, rfl⟩
  have hb2 : Below w.heap.size w W2 := by rw [← hW2]; exact bl_alloc (bl_alloc (Below.refl _ w) _) _
  have hz2 : W2.heap.size = w.heap.size + 2 := by rw [← hW2]; simp
  have h1 : W2.heap[w.heap.size]? = some (.cells #[.slice none 0 0, .int .i64 0] 45 (0, 0)) := by
    rw [← hW2, Below.heap_alloc _ _ _ (by simp), heap_alloc_new, ho1]
  have h2 : W2.heap[w.heap.size + 1]? = some (.cells #[.slice pa ps.length pc, .int .i64 (t : Nat)] 45 (0, 0)) := by
    have := heap_alloc_new (w.alloc o1) o2
    rw [show (w.alloc o1).heap.size = w.heap.size + 1 from by simp, hW2] at this
    rw [this, ho2]
  have e0' : ∀ o, (w.alloc o).cell? ⟨b, off + k * 2, none⟩ = some (.slice pa ps.length pc) := fun o => cell_al e0 o
  have e1' : ∀ o, (w.alloc o).cell? ⟨b, off + k * 2 + 1, none⟩ = some (.int .i64 (t : Nat)) := fun o => cell_al e1 o
  have c2' : ∀ o, (w.alloc o).cell? ⟨s, 2, none⟩ = some (.slice (some ⟨b, off, none⟩) n cc) := fun o => cell_al c2 o
  have HC := Lib.hid (fun W (hW : Below W2.heap.size W2 W) => kCloneInt ps pa pc (by omega) W ((hpcells.below hb2).below hW))
  have H1 := Lib.hid h1; have H2 := Lib.hid h2; have HB2 := Lib.hid hb2; have HW2 := Lib.hid hW2; have HZ2 := Lib.hid hz2
  clear h hcv hcells hk hown hpcells hel hym h1 h2 hb2 hW2 hz2 hy hn
  subst ho1; subst ho2
  go_enter Tryz.func290, Tryz.ntmps290
  go_wp2_with fail
  rw [HW2.out]
  obtain ⟨g0, g1, _, _⟩ := two_cells H2.out
  go_region_law (go_simp; go_at_call 39; (with_reducible refine (HC.out _ (bl_drew (Below.refl _ W2))).mono ?_); rintro e w3 ⟨v3, rfl, ho, hb⟩; obtain ⟨a3, c3, rfl, _, _, _, _, _⟩ := OwnX.sl ho; have HV3 := Lib.hid ho; have hb3 := bl_trans (bl_drew (Below.refl _ W2)) hb; have HB3 := Lib.hid hb3; have hx1 := (hb3.block _ (Array.getElem?_eq_some_iff.1 H1.out).1).trans H1.out; obtain ⟨r0, r1, f0, f1⟩ := two_cells hx1; have g1' := bl_cell hb3 g1; have HX1 := Lib.hid hx1; clear ho hb hb3 hx1)
  all_goals
    obtain ⟨z0, z1, z2, z3⟩ := two_done (x := .slice a3 ps.length c3) (y := .int .i64 (t : Nat)) HX1.out
    have HV := Lib.hid (HV3.out.stays (x := (w3.setCell ⟨w.heap.size, 0, none⟩ (.slice a3 ps.length c3)).setCell ⟨w.heap.size, 1, none⟩ (.int .i64 (t : Nat))) fun g e => z2 g (by have := (HV3.out.lt g e).1; have := HZ2.out; have := W2.heap.size; simp at *; omega))
    have HBZ := Lib.hid (z3 w.heap.size w (Nat.le_refl _) (bl_trans HB2.out HB3.out))
    clear z2 z3
    go_wp2
    refine bodyPost_ret (v := .tuple #[.agg #[.slice a3 ps.length c3, .int .i64 (t : Nat)], .int .i64 0]) (by simp [results, Tryz.results290, go_sem, z0, z1]) rfl ⟨_, rfl, ?_, HBZ.out⟩
    exact HV.out.mono (by have := HZ2.out; show w.heap.size ≤ W2.heap.size; omega)
end Go.Proofs.YtbhfbdcmamodcaaGreatDoor
namespace Go.Proofs.YtbhfbdcmamodcaaGreatDoor
open Go.RowKit Go.Maps TrMath FrMath PackMath
set_option maxHeartbeats 4000000 in
set_option maxRecDepth 100000 in
theorem sTree {w : World} {s : Nat} {S : StoreS} (h : StoreAt w s S) (k : Nat) (l : Ents) (hk : (S.trees.map Prod.snd)[k]? = some l) (hl : l.length ≤ 1000000) (hcl : S.trees.length ≤ 65536) :
    Calls Tryz.prog 291 #[.pointer (some ⟨s, 0, none⟩), .int .i64 (k : Nat)] w fun e w' => ∃ v, e = .returned (.tuple #[v, .int .i64 0]) ∧ Own w' w.heap.size v l ∧ Below w.heap.size w w' := by
  obtain ⟨ca, cc, hcv, hcells, hcc, hcm, _, _⟩ := h.tv.sl
  obtain ⟨hkl, hke⟩ := List.getElem?_eq_some_iff.1 hk
  rw [List.length_map] at hkl
  rw [List.getElem_map] at hke
  obtain ⟨y, hy⟩ : ∃ y, S.trees[k] = y := ⟨_, rfl⟩
  have hym : y ∈ S.trees := by rw [← hy]; exact List.getElem_mem hkl
  have hown := h.trees y hym
  rw [hy] at hke
  obtain ⟨yv, ys⟩ := y
  simp only at hke hown
  subst hke
  obtain ⟨pa, pc, rfl, hpcells, _, _⟩ := Own.at hown
  obtain ⟨b, off, rfl, hbl, hel⟩ := hcells.elem treeCW hkl (by decide)
  rw [hy] at hel
  have e0 := hel 0 _ rfl
  rw [Nat.mul_one, Nat.add_zero] at e0
  obtain ⟨n, hn⟩ : ∃ n, S.trees.length = n := ⟨_, rfl⟩
  rw [hn] at hcv hkl hcc hcl
  have c2 : w.cell? ⟨s, 1, none⟩ = some (.slice (some ⟨b, off, none⟩) n cc) := by rw [cell_of_row _ _ _ _ _ _ h.box, ← hcv]; rfl
  have d1 : decide ((k : Int) < 0) = false := by simp
  have d2 : decide ((k : Int) ≥ (n : Int)) = false := by simp; omega
  have d3 : decide (n ≤ k) = false := by simp; omega
  have HC := Lib.hid (tClone ys pa pc (by omega) w hpcells)
  clear h hcv hcells hk hown hpcells hel hym hy hn
  go_enter Tryz.func291, Tryz.ntmps291
  go_wp2_with (go_at_call 35; (with_reducible refine HC.out.mono ?_); rintro e w3 ⟨v3, rfl, ho, hb⟩; have HV3 := Lib.hid ho; have HB3 := Lib.hid hb; clear ho hb)
  exact bodyPost_ret (v := .tuple #[v3, .int .i64 0]) (by simp [results, Tryz.results291, go_sem]) rfl ⟨_, rfl, HV3.out, HB3.out⟩
set_option maxHeartbeats 1000000 in
set_option maxRecDepth 100000 in
theorem sOpen1 (A p : Nat) (w : World) (R : World → Prop) (cA : w.cell? ⟨A, 0, none⟩ = some (.pointer (some ⟨p, 0, none⟩)))
    (h : Calls Tryz.prog 28 #[.pointer (some ⟨p, 0, none⟩), .string logN] w fun e w' => e = .returned (.int .i64 0) ∧ R w') :
    Calls Tryz.prog 27 #[.pointer (some ⟨A, 0, none⟩)] w fun e w' => e = .returned (.int .i64 0) ∧ R w' := by
  have H := Lib.hid h
  clear h
  go_enter Tryz.func27, Tryz.ntmps27
  go_wp2_with (go_at_call 28; (with_reducible refine H.out.mono ?_); rintro e w2 ⟨rfl, hr⟩; have HR := Lib.hid hr; clear hr)
  go_ret
  exact ⟨rfl, HR.out⟩
theorem log_good : GoodName logN := ⟨by decide, by decide, by decide⟩
set_option maxHeartbeats 4000000 in
set_option maxRecDepth 100000 in
theorem sOpenNew (p q : Nat) (F : Foot) (w : World) (hD : Disk w p F [] q) (hq : q ≤ 1000) :
    Calls Tryz.prog 6 #[.pointer (some ⟨p, 0, none⟩)] w fun e w' => ∃ s F' S', e = .returned (.tuple #[.pointer (some ⟨s, 0, none⟩), .int .i64 0]) ∧ Disk w' p F' [(logN, [])] 0 ∧ StoreAt w' s S' ∧ S'.disk = p ∧ S'.trees = [] ∧ S'.commits = [] ∧ Apart F' (fun k => k ∈ S'.own s) ∧ Grew F (F'.or fun k => k ∈ S'.own s) w w' ∧ ∀ k ∈ S'.own s, w.heap.size ≤ k := by
  obtain ⟨o1, ho1⟩ : ∃ o, Obj.cells #[.pointer (some ⟨p, 0, none⟩)] 25 = o := ⟨_, rfl⟩
  obtain ⟨o2, ho2⟩ : ∃ o, Obj.cells #[.pointer (some ⟨p, 0, none⟩), .slice none 0 0, .slice none 0 0, .bool false] 77 = o := ⟨_, rfl⟩
  obtain ⟨o3, ho3⟩ : ∃ o, Obj.cells #[.func (.func 27) #[] #[.pointer (some ⟨w.heap.size, 0, none⟩)], .func (.func 29) #[.pointer (some ⟨p, 0, none⟩)] #[]] 80 = o := ⟨_, rfl⟩
  obtain ⟨W2, hW2⟩ : ∃ W2, (w.alloc o1).alloc o2 = W2 := ⟨_, rfl⟩
  obtain ⟨W3, hW3⟩ : ∃ W3, W2.alloc o3 = W3 := ⟨_, rfl⟩
  have hb2 : Below w.heap.size w W2 := by rw [← hW2]; exact bl_alloc (bl_alloc (Below.refl _ w) _) _
  have hb3 : Below w.heap.size w W3 := by rw [← hW3]; exact bl_alloc hb2 _
  have hz2 : W2.heap.size = w.heap.size + 2 := by rw [← hW2]; simp
  have a0 : W2.cell? ⟨w.heap.size, 0, none⟩ = some (.pointer (some ⟨p, 0, none⟩)) := by rw [← hW2, ← ho1]; exact cell_al (allocL_cells _ rfl rfl) _
  have h2 : W3.heap[w.heap.size + 1]? = some (.cells #[.pointer (some ⟨p, 0, none⟩), .slice none 0 0, .slice none 0 0, .bool false] 77 (0, 0)) := by
    have := heap_alloc_new (w.alloc o1) o2
    rw [show (w.alloc o1).heap.size = w.heap.size + 1 from by simp, hW2] at this
    rw [← hW3, Below.heap_alloc _ _ _ (by omega), this, ho2]
  have k0 : W3.cell? ⟨w.heap.size + 2, 0, none⟩ = some (.func (.func 27) #[] #[.pointer (some ⟨w.heap.size, 0, none⟩)]) := by rw [← hW3, ← ho3]; exact allocL_cells _ hz2 rfl
  have k1 : W3.cell? ⟨w.heap.size + 2, 1, none⟩ = some (.func (.func 29) #[.pointer (some ⟨p, 0, none⟩)] #[]) := by rw [← hW3, ← ho3]; exact allocL_cells _ hz2 rfl
  have a3 : W3.cell? ⟨w.heap.size, 0, none⟩ = some (.pointer (some ⟨p, 0, none⟩)) := by rw [← hW3]; exact cell_al a0 _
  have HRd := Lib.hid (dReadNone p q F [] logN W2 (hD.below hb2) (by decide) (by simp))
  have hFl := hD.lt
  have hD3 := hD.below hb3
  have HFr := Lib.hid (show Calls Tryz.prog 26 #[.slice (some ⟨w.heap.size + 2, 0, none⟩) 2 2] W3 fun e w' => e = .returned (.int .i64 0) ∧ ∃ F2, Disk w' p F2 [(logN, [])] 0 ∧ Grew F F2 W3 w' from by
    refine sFirstOpen w.heap.size p (w.heap.size + 2) W3 (fun x => ∃ F1, Disk x p F1 [(logN, [])] (q + 1) ∧ Grew F F1 W3 x) _ k0 (fun x ⟨F1, _, hg⟩ => ?_) ?_ ?_
    · rw [World.cell?_of_block (hg.upd.block _ (World.block_lt_of_cell? W3 _ k1) (fun e => by have := hFl (w.heap.size + 2) e; omega))]
      exact k1
    · exact sOpen1 w.heap.size p W3 _ a3 (dCreate p q F [] logN W3 hD3 log_good (by simp) (by omega) (by simp))
    · rintro x ⟨F1, hx1, hx2⟩
      exact (dSyncNames p (q + 1) F1 _ x hx1 (fun h => by simp at h)).mono fun e w' ⟨h1, F', h2, h3⟩ => ⟨h1, F', h2, hx2.trans h3⟩)
  have HX := Lib.hid (show ∀ w5, (∃ F2, Disk w5 p F2 [(logN, [])] 0 ∧ Grew F F2 W3 w5) → ∃ F' S', Disk w5 p F' [(logN, [])] 0 ∧ StoreAt w5 (w.heap.size + 1) S' ∧ S'.disk = p ∧ S'.trees = [] ∧ S'.commits = [] ∧ Apart F' (fun k => k ∈ S'.own (w.heap.size + 1)) ∧ Grew F (F'.or fun k => k ∈ S'.own (w.heap.size + 1)) w w5 ∧ ∀ k ∈ S'.own (w.heap.size + 1), w.heap.size ≤ k from by
    rintro w5 ⟨F2, q1, q2⟩
    have hz3 : w.heap.size + 1 < W3.heap.size := (Array.getElem?_eq_some_iff.1 h2).1
    have nF2 : ¬ F2 (w.heap.size + 1) := fun e => by
      rcases q2.sub _ e with e2 | e2
      · have := hFl _ e2; omega
      · omega
    have hbx : w5.heap[w.heap.size + 1]? = _ := (q2.upd.block _ hz3 (fun e => by have := hFl _ e; omega)).trans h2
    have hown : ∀ k, k ∈ (⟨p, .slice none 0 0, .slice none 0 0, [], []⟩ : StoreS).own (w.heap.size + 1) → k = w.heap.size + 1 := fun k hk => by
      unfold StoreS.own rowsB1 at hk
      simpa [Value.ownBlock] using hk
    have hst : StoreAt w5 (w.heap.size + 1) ⟨p, .slice none 0 0, .slice none 0 0, [], []⟩ :=
      ⟨hbx, OwnX.nil _ _ _ _ _, OwnX.nil _ _ _ _ _, by simp, by simp, by unfold StoreS.own rowsB1; simp [Value.ownBlock]⟩
    refine ⟨F2, ⟨p, .slice none 0 0, .slice none 0 0, [], []⟩, q1, hst, rfl, rfl, rfl, fun k hk hk2 => nF2 (hown k hk2 ▸ hk), ?_, fun k hk => by rw [hown k hk]; omega⟩
    have hg := Grew.after hb3 q2
    refine ⟨hg.upd, fun k hk => ?_, fun k hk => ?_⟩
    · rcases hk with hk | hk
      · exact hg.sub k hk
      · rw [hown k hk]; exact .inr (by omega)
    · rcases hk with hk | hk
      · exact hg.lt k hk
      · exact hst.lt k hk)
  have HW2 := Lib.hid hW2; have HW3 := Lib.hid hW3; have HA0 := Lib.hid a0; have HZ2 := Lib.hid hz2
  clear hD hW2 hW3 hb2 hb3 hz2 h2 k0 k1 a3 hFl hD3 a0
  subst ho1; subst ho2; subst ho3
  go_enter Tryz.func6, Tryz.ntmps6
  go_wp2_with fail
  rw [HW2.out]
  (with_reducible refine HRd.out.mono ?_)
  rintro e w4 ⟨rfl, rfl⟩
  have a0 := HA0.out
  go_wp2_with fail
  rw [HZ2.out, HW3.out]
  (with_reducible refine HFr.out.mono ?_)
  rintro e w5 ⟨rfl, hh⟩
  have HH := Lib.hid (HX.out w5 hh)
  clear hh
  go_wp2
  obtain ⟨F', S', r⟩ := HH.out
  exact bodyPost_ret (v := .tuple #[.pointer (some ⟨w.heap.size + 1, 0, none⟩), .int .i64 0]) (by simp [results, Tryz.results6, go_sem]) rfl ⟨_, F', S', rfl, r⟩
end Go.Proofs.YtbhfbdcmamodcaaGreatDoor
namespace Go.Proofs.YtbhfbdcmamodcaaGreatDoor
open Go.RowKit Go.Maps TrMath FrMath PackMath
def srcV (s : Nat) : Value := .iface 29 (.pointer (some ⟨s, 0, none⟩))
structure GoodS (ts : List Ents) (cs : List ComP) : Prop where
  trees : ∀ l ∈ ts, GoodT l
  commits : ∀ (k : Nat) c, cs[k]? = some c → GoodC c ∧ (∀ p ∈ c.1, p < k) ∧ c.2 < ts.length
  few : cs.length ≤ 10000
  fewT : ts.length ≤ 10000
def treeOf (ts : List Ents) (cs : List ComP) (k : Nat) : Ents := ts.getD ((cs.getD k ([], 0)).2) []
theorem GoodS.com {ts : List Ents} {cs : List ComP} (h : GoodS ts cs) {k : Nat} (hk : k < cs.length) : ∃ c, cs[k]? = some c ∧ GoodC c ∧ (∀ p ∈ c.1, p < k) ∧ c.2 < ts.length :=
  ⟨cs[k], List.getElem?_eq_getElem hk, h.commits k _ (List.getElem?_eq_getElem hk)⟩
theorem mCommit (n s : Nat) (W : World) : (method (n + 1) 29 (.pointer (some ⟨s, 0, none⟩)) "Commit").run Tryz.prog W = .ok (290, .pointer (some ⟨s, 0, none⟩)) W := by kernel_rfl
theorem mTree (n s : Nat) (W : World) : (method (n + 1) 29 (.pointer (some ⟨s, 0, none⟩)) "Tree").run Tryz.prog W = .ok (291, .pointer (some ⟨s, 0, none⟩)) W := by kernel_rfl
theorem mCommits (n s : Nat) (W : World) : (method (n + 1) 29 (.pointer (some ⟨s, 0, none⟩)) "Commits").run Tryz.prog W = .ok (15, .pointer (some ⟨s, 0, none⟩)) W := by kernel_rfl
set_option maxHeartbeats 4000000 in
set_option maxRecDepth 100000 in
theorem xContent {w : World} {s : Nat} {S : StoreS} (h : StoreAt w s S) (hg : GoodS (S.trees.map Prod.snd) (S.commits.map Prod.snd)) (k : Nat) (hk : k < S.commits.length) :
    Calls Tryz.prog 99 #[srcV s, .int .i64 (k : Nat)] w fun e w' => ∃ v, e = .returned v ∧ Own w' w.heap.size v (treeOf (S.trees.map Prod.snd) (S.commits.map Prod.snd) k) ∧ Below w.heap.size w w' := by
  obtain ⟨c, hc, hgc, hpl, htl⟩ := hg.com (k := k) (by rw [List.length_map]; exact hk)
  obtain ⟨ps, t⟩ := c
  have hfew := hgc.few
  simp only at hfew htl
  have hT : treeOf (S.trees.map Prod.snd) (S.commits.map Prod.snd) k = (S.trees.map Prod.snd)[t] := by
    unfold treeOf
    have e : (S.commits.map Prod.snd).getD k ([], 0) = (ps, t) := by rw [List.getD_eq_getElem?_getD, hc]; rfl
    rw [e, List.getD_eq_getElem?_getD, List.getElem?_eq_getElem htl]
    rfl
  rw [hT]
  obtain ⟨l, hl⟩ : ∃ l, (S.trees.map Prod.snd)[t] = l := ⟨_, rfl⟩
  have hgl : GoodT l := by rw [← hl]; exact hg.trees _ (List.getElem_mem htl)
  have hlk : (S.trees.map Prod.snd)[t]? = some l := by rw [List.getElem?_eq_getElem htl, hl]
  rw [hl]
  have hll := hgl.len
  have f1 := hg.few; have f2 := hg.fewT
  rw [List.length_map] at f1 f2
  have HC := Lib.hid (sCommit h k ps t hc (by omega) (by omega))
  have HT := Lib.hid (fun W (hW : Below w.heap.size w W) => sTree (h.below hW) t l hlk (by omega) (by omega))
  clear h hg hc hgc hpl htl hT hl hgl hlk
  unfold srcV
  go_enter Tryz.func99, Tryz.ntmps99
  have hm1 := mCommit
  have hm2 := mTree
  go_wp2_with fail
  (with_reducible refine HC.out.mono ?_)
  rintro e w1 ⟨v1, rfl, ho, hb⟩
  obtain ⟨a1, c1, rfl, _, _, _, _, _⟩ := OwnX.sl ho
  have HB1 := Lib.hid (show ∀ o, Below w.heap.size w (w1.alloc o) from fun o => bl_alloc hb o)
  clear ho hb
  go_wp2_with fail
  (with_reducible refine (HT.out _ (HB1.out _)).mono ?_)
  rintro e w2 ⟨v2, rfl, ho, hb⟩
  have HO2 := Lib.hid ho; have HB2 := Lib.hid hb; have HS1 := Lib.hid (HB1.out (.cells #[.slice a1 ps.length c1, .int .i64 (t : Nat)] 45)).size
  clear ho hb
  go_wp2
  go_ret
  exact ⟨_, rfl, HO2.out.mono HS1.out, bl_trans (HB1.out _) HB2.out⟩
end Go.Proofs.YtbhfbdcmamodcaaGreatDoor
