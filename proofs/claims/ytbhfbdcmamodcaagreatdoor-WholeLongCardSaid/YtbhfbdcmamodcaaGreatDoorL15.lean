/- The whole: the simulated disk as it stands. -/
import Derived.Test.YtbhfbdcmamodcaaGreatDoorL11
import Derived.Test.YtbhfbdcmamodcaaGreatDoorL14
import Derived.Maps.Ext
set_option linter.unusedVariables false
set_option linter.unusedSimpArgs false
namespace Go.Proofs.YtbhfbdcmamodcaaGreatDoor
open Go.RowKit Go.Maps
structure FileE where
  name : ByteArray
  blk : Nat
  text : List UInt8
  row : Value
def FileE.own (f : FileE) : List Nat := f.blk :: f.row.ownBlock.toList
structure FileAt (w : World) (f : FileE) : Prop where
  cell : ∃ num safe : Int, w.heap[f.blk]? = some (.cells #[.int .i64 num, f.row, .int .i64 safe] 109 (0, 0))
  own : w.ownsRow 0 5 1 f.row f.text.length (bytesOf f.text)
theorem FileAt.stays {w x : World} {f : FileE} (h : FileAt w f) (hs : ∀ k ∈ f.own, x.heap[k]? = w.heap[k]?) : FileAt x f := by
  obtain ⟨n, s, h1⟩ := h.cell
  refine ⟨⟨n, s, (hs _ (by simp [FileE.own])).trans h1⟩, row_stays h.own fun g hg => hs g ?_⟩
  simp [FileE.own, hg]
theorem FileAt.lt {w : World} {f : FileE} (h : FileAt w f) : ∀ k ∈ f.own, k < w.heap.size := by
  obtain ⟨n, s, h1⟩ := h.cell
  intro k hk
  rcases List.mem_cons.1 hk with rfl | hk
  · exact (Array.getElem?_eq_some_iff.1 h1).1
  · exact (h.own.lt k (by simpa using hk)).2
theorem keyF_inj {s t : ByteArray} (h : keyF s = keyF t) : s = t := by
  unfold keyF at h
  injection h with h
  exact ByteArray.ext (Array.toList_inj.1 h)
theorem keyF_ok (s : ByteArray) : WideAt.IsKeyLit (keyF s) := trivial
structure Reads (D : DataW Unit) (fs : List FileE) : Prop where
  tidy : Maps.Tidy D
  has : ∀ s, Maps.has D (keyF s) = true ↔ ∃ f ∈ fs, f.name = s
  at_ : ∀ f ∈ fs, ∀ z, D.atKey (keyF f.name) z = .lit (.int .i64 (f.blk : Nat))
  size : Maps.size D = fs.length
  nodup : (fs.map (·.name)).Nodup
theorem Reads.empty : Reads (.map []) [] := ⟨Maps.tidy_empty, fun s => by simp [Maps.has], by simp, rfl, by simp⟩
def offF (s : ByteArray) (fs : List FileE) : List FileE := fs.filter fun f => decide (f.name ≠ s)
theorem off_mem {s : ByteArray} {fs : List FileE} {f : FileE} : f ∈ offF s fs ↔ f ∈ fs ∧ f.name ≠ s := by simp [offF]
theorem off_len (s : ByteArray) : ∀ (fs : List FileE), (fs.map (·.name)).Nodup → (offF s fs).length + (if ∃ f ∈ fs, f.name = s then 1 else 0) = fs.length
  | [], _ => by simp [offF]
  | f :: r, h => by
    rw [List.map_cons, List.nodup_cons] at h
    have ih := off_len s r h.2
    unfold offF at ih ⊢
    by_cases e : f.name = s
    · have hn : ¬ ∃ g ∈ r, g.name = s := fun ⟨g, hg, hgs⟩ => h.1 (List.mem_map.2 ⟨g, hg, by rw [hgs, e]⟩)
      rw [if_neg hn] at ih
      rw [List.filter_cons_of_neg (by simp [e]), if_pos ⟨f, by simp, e⟩, List.length_cons]
      omega
    · have hi : (∃ g ∈ f :: r, g.name = s) ↔ ∃ g ∈ r, g.name = s := by simp [e]
      rw [List.filter_cons_of_pos (by simp [e]), List.length_cons]
      simp only [hi, List.length_cons]
      omega
theorem off_nodup {s : ByteArray} {fs : List FileE} (h : (fs.map (·.name)).Nodup) : ((offF s fs).map (·.name)).Nodup := by
  unfold offF
  exact h.sublist ((List.filter_sublist (l := fs)).map _)
theorem Reads.del {D : DataW Unit} {fs : List FileE} (h : Reads D fs) (s : ByteArray) : Reads (D.del (keyF s)) (offF s fs) := by
  refine ⟨h.tidy.del _, fun t => ?_, fun f hf z => ?_, ?_, off_nodup h.nodup⟩
  · by_cases e : t = s
    · subst e
      rw [Maps.has_del_same]
      simp [off_mem]
    · rw [Maps.has_del_other (fun k => e (keyF_inj k)), h.has]
      constructor
      · rintro ⟨f, h1, h2⟩
        exact ⟨f, off_mem.2 ⟨h1, by rw [h2]; exact e⟩, h2⟩
      · rintro ⟨f, h1, h2⟩
        exact ⟨f, (off_mem.1 h1).1, h2⟩
  · obtain ⟨h1, h2⟩ := off_mem.1 hf
    rw [Maps.atKey_del_other (fun k => h2 (keyF_inj k))]
    exact h.at_ f h1 z
  · have h1 := Maps.size_del h.tidy (k := keyF s)
    have h2 := off_len s fs h.nodup
    rw [h.size] at h1
    by_cases e : ∃ f ∈ fs, f.name = s
    · rw [if_pos e] at h2
      rw [if_pos ((h.has s).2 e)] at h1
      omega
    · rw [if_neg e] at h2
      rw [if_neg (fun k => e ((h.has s).1 k))] at h1
      omega
theorem Reads.put {D : DataW Unit} {fs : List FileE} (h : Reads D fs) (f : FileE) (hn : ∀ g ∈ fs, g.name ≠ f.name) : Reads (D.put (keyF f.name) (.lit (.int .i64 (f.blk : Nat)))) (fs ++ [f]) := by
  have hh : Maps.has D (keyF f.name) = false := by
    rw [Bool.eq_false_iff]
    intro k
    obtain ⟨g, hg, e⟩ := (h.has _).1 k
    exact hn g hg e
  refine ⟨h.tidy.put (keyF_ok _) _, fun t => ?_, fun g hg z => ?_, ?_, ?_⟩
  · by_cases e : t = f.name
    · subst e
      rw [Maps.has_put_same h.tidy.isMap (keyF_ok _)]
      exact ⟨fun _ => ⟨f, by simp, rfl⟩, fun _ => rfl⟩
    · rw [Maps.has_put_other (fun k => e (keyF_inj k)), h.has]
      constructor
      · rintro ⟨g, h1, h2⟩
        exact ⟨g, by simp [h1], h2⟩
      · rintro ⟨g, h1, h2⟩
        rcases List.mem_append.1 h1 with h1 | h1
        · exact ⟨g, h1, h2⟩
        · rw [List.mem_singleton] at h1
          subst h1
          exact absurd h2.symm e
  · rcases List.mem_append.1 hg with h1 | h1
    · rw [Maps.atKey_put_other (fun k => hn g h1 (keyF_inj k))]
      exact h.at_ g h1 z
    · rw [List.mem_singleton] at h1
      subst h1
      exact Maps.atKey_put_same h.tidy.isMap (keyF_ok _) _ _
  · rw [Maps.size_put h.tidy, hh, h.size]
    simp
  · rw [List.map_append, List.nodup_append]
    refine ⟨h.nodup, by simp, fun a ha b hb e => ?_⟩
    obtain ⟨g, hg, rfl⟩ := List.mem_map.1 ha
    simp at hb
    subst hb
    exact hn g hg e
theorem Reads.change {D : DataW Unit} {fs : List FileE} (h : Reads D fs) (s : ByteArray) (f : FileE) : Reads ((D.del (keyF s)).put (keyF f.name) (.lit (.int .i64 (f.blk : Nat)))) (offF f.name (offF s fs) ++ [f]) := by
  have h1 := ((h.del s).del f.name).put f (fun g hg => (off_mem.1 hg).2)
  have h0 := h.del s
  refine ⟨h0.tidy.put (keyF_ok _) _, fun t => ?_, fun g hg z => ?_, ?_, h1.nodup⟩
  · rw [← h1.has t]
    by_cases e : keyF t = keyF f.name
    · rw [e, Maps.has_put_same h0.tidy.isMap (keyF_ok _), Maps.has_put_same (h0.tidy.del _).isMap (keyF_ok _)]
    · rw [Maps.has_put_other e, Maps.has_put_other e, Maps.has_del_other e]
  · rw [← h1.at_ g hg z]
    by_cases e : keyF g.name = keyF f.name
    · rw [e, Maps.atKey_put_same h0.tidy.isMap (keyF_ok _), Maps.atKey_put_same (h0.tidy.del _).isMap (keyF_ok _)]
    · rw [Maps.atKey_put_other e, Maps.atKey_put_other e, Maps.atKey_del_other e]
  · rw [← h1.size, Maps.size_put h0.tidy, Maps.size_put (h0.tidy.del _), Maps.has_del_same]
    have := Maps.size_del h0.tidy (k := keyF f.name)
    split <;> simp_all
structure DiskS where
  m : Nat
  pend : Value
  pn : Nat
  fs : List FileE
def DiskS.own (p : Nat) (d : DiskS) : List Nat := p :: d.m :: (d.pend.ownBlock.toList ++ d.fs.flatMap FileE.own)
structure DiskAt (w : World) (p : Nat) (d : DiskS) : Prop where
  box : ∃ (c1 : Int) (c3 : Nat), w.heap[p]? = some (.cells #[.int .i64 16777216, .int .i64 c1, .map (some d.m), .map (some c3), d.pend, .int .i64 0, .bool false] 73 (0, 0))
  map : ∃ D, w.ownsMap Tryz.prog 9 fileR d.m d.fs.length D ∧ Reads D d.fs
  pend : ∃ xs, w.ownsRow 0 135 3 d.pend d.pn xs
  files : ∀ f ∈ d.fs, FileAt w f
  apart : (d.own p).Nodup
theorem map_tight {w : World} {P : Program} {k : TypeId} {R : Value → Option (DataW Unit × List MemPlace)} {b n : Nat} {D : DataW Unit} (h : w.ownsMap P k R b n D) : w.ownsMap P k R b (Maps.size D) D := by
  obtain ⟨es, clock, hb, F, hs, rfl⟩ := h
  exact ⟨es, clock, hb, F, by simp [Maps.size, length_sorted], rfl⟩
theorem map_stays {w x : World} {P : Program} {k : TypeId} {R : Value → Option (DataW Unit × List MemPlace)} {b n : Nat} {D : DataW Unit} (h : w.ownsMap P k R b n D) (hs : x.heap[b]? = w.heap[b]?) : x.ownsMap P k R b n D := by
  obtain ⟨es, clock, hb, F, hs2, rfl⟩ := h
  exact ⟨es, clock, hs.trans hb, F, hs2, rfl⟩
section
variable {w x : World} {p : Nat} {d : DiskS}
theorem own_p : p ∈ d.own p := by simp [DiskS.own]
theorem own_m : d.m ∈ d.own p := by simp [DiskS.own]
theorem own_pend {g : Nat} (h : d.pend.ownBlock = some g) : g ∈ d.own p := by simp [DiskS.own, h]
theorem own_file {f : FileE} (h : f ∈ d.fs) {k : Nat} (hk : k ∈ f.own) : k ∈ d.own p := by
  unfold DiskS.own
  exact List.mem_cons_of_mem _ (List.mem_cons_of_mem _ (List.mem_append_right _ (List.mem_flatMap.2 ⟨f, h, hk⟩)))
theorem DiskAt.lt (h : DiskAt w p d) : ∀ k ∈ d.own p, k < w.heap.size := by
  intro k hk
  unfold DiskS.own at hk
  rcases List.mem_cons.1 hk with rfl | hk
  · obtain ⟨_, _, h1⟩ := h.box
    exact (Array.getElem?_eq_some_iff.1 h1).1
  · rcases List.mem_cons.1 hk with rfl | hk
    · obtain ⟨D, h1, _⟩ := h.map
      exact h1.lt
    · rcases List.mem_append.1 hk with hk | hk
      · obtain ⟨xs, h1⟩ := h.pend
        exact (h1.lt k (by simpa using hk)).2
      · obtain ⟨f, h1, h2⟩ := List.mem_flatMap.1 hk
        exact (h.files f h1).lt k h2
theorem DiskAt.stays (h : DiskAt w p d) (hs : Stays (· ∈ d.own p) w x) : DiskAt x p d := by
  obtain ⟨c1, c3, h1⟩ := h.box
  obtain ⟨D, h2, h3⟩ := h.map
  obtain ⟨xs, h4⟩ := h.pend
  exact ⟨⟨c1, c3, (hs.1 _ own_p).trans h1⟩, ⟨D, map_stays h2 (hs.1 _ own_m), h3⟩, ⟨xs, row_stays h4 fun g hg => hs.1 _ (own_pend hg)⟩, fun f hf => (h.files f hf).stays fun k hk => hs.1 _ (own_file hf hk), h.apart⟩
theorem DiskAt.below (h : DiskAt w p d) (hb : Below w.heap.size w x) : DiskAt x p d := h.stays (Stays.of hb h.lt)
end
end Go.Proofs.YtbhfbdcmamodcaaGreatDoor
