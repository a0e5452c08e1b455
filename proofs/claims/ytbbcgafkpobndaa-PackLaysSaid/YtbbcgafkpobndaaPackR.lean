/- Walks of the laws PackReads, PackCorners, PackNone. -/
import Derived.Test.YtbbcgafkpobndaaRdW8
import Derived.Deep.RegionWith
set_option linter.unusedVariables false
set_option linter.unusedSimpArgs false
namespace Go.Proofs.Ytbbcgafkpobndaa
open Go.RowKit PackMath

/-- A call of the law: its kind, its number, its text. -/
structure OpD where
  k : Nat
  n : Nat
  s : ByteArray

/-- A slice of calls that lies in the world. -/
def OpsAt (w : World) (a : Option Addr) (l : List OpD) : Prop :=
  ∀ i (h : i < l.length), l[i].k < 256 ∧ l[i].n < 18446744073709551616 ∧ ∃ b off, a = some ⟨b, off, none⟩ ∧ b < w.heap.size ∧
    w.cell? ⟨b, off + i * 3, none⟩ = some (.int .u8 l[i].k) ∧ w.cell? ⟨b, off + i * 3 + 1, none⟩ = some (.int .u64 l[i].n) ∧ w.cell? ⟨b, off + i * 3 + 2, none⟩ = some (.string l[i].s)
theorem OpsAt.below {w w' : World} {a : Option Addr} {l : List OpD} (h : OpsAt w a l) (hb : Below w.heap.size w w') : OpsAt w' a l := fun i hi => by
  obtain ⟨h1, h2, b, off, h3, h4, h5, h6, h7⟩ := h i hi
  exact ⟨h1, h2, b, off, h3, Nat.lt_of_lt_of_le h4 hb.size, bl_cell hb h5, bl_cell hb h6, bl_cell hb h7⟩

theorem two_new {B : Nat} {w1 w2 : World} {p : Nat} {s : ByteArray} (hr : IsRd TR w1 p s 0 0) (hb : Below w1.heap.size w1 w2) (hx : IsRd TX w2 w1.heap.size s 0 0) (hB : B ≤ p) : Two B w2 p w1.heap.size s 0 0 := by
  have hp := (Array.getElem?_eq_some_iff.1 hr.cell).1
  exact ⟨hr.below hb, hx, Nat.ne_of_lt hp, hB, by omega⟩
theorem Two.drew {B : Nat} {w : World} {p q : Nat} {s : ByteArray} {a e : Nat} (h : Two B w p q s a e) : Two B w.drew p q s a e := h.drewN 1

theorem read_at (B p q : Nat) (s : ByteArray) (a e : Nat) (w : World) (x y : Int) (k n : Nat) (hx : x = k) (hy : y = n) (o : ByteArray) (hk : k < 256) (hn : n < 18446744073709551616) (h : Two B w p q s a e) :
    Calls Try.prog 19 #[.pointer (some ⟨p, 0, none⟩), .pointer (some ⟨q, 0, none⟩), .agg #[.int .u8 x, .int .u64 y, .string o]] w (ReadSaid B p q s w) := by
  subst hx; subst hy
  exact read_any B p q s a e w k n o hk hn h

set_option maxHeartbeats 1600000 in
set_option maxRecDepth 100000 in
theorem packReads_any (s : ByteArray) (ad : Option Addr) (cap : Nat) (l : List OpD) (w : World) (hs : s.size ≤ 140737488355328) (hl : l.length ≤ maxLen) (h : OpsAt w ad l) :
    Calls Try.prog 6 #[.string s, .slice ad l.length cap] w fun e w' => e = .returned (.bool true) ∧ Below w.heap.size w w' := by
  unfold maxLen at hl
  have HO := Lib.hid h
  clear h
  have hs2 : s.size < 281474976710656 := by omega
  go_enter Try.func6, Try.ntmps6
  go_wp2_with (go_at_call 9; refine (lays_any w).mono ?_; rintro e w1 ⟨rfl, hb1⟩; have HB1 := Lib.hid hb1; clear hb1)
  go_wp2_with (go_at_call 15; refine (rd_new w1 s hs2).mono ?_; rintro e w2 ⟨rfl, hb2, hr2⟩; have HB2 := Lib.hid hb2; have HR2 := Lib.hid hr2; clear hb2 hr2)
  go_wp2_with (go_at_call 18; refine (rx_new w2 s hs2).mono ?_; rintro e w3 ⟨rfl, hb3, hr3⟩; have HB3 := Lib.hid hb3; have HR3 := Lib.hid hr3; clear hb3 hr3)
  have HT := Lib.hid (two_new (B := w1.heap.size) HR2.out HB3.out HR3.out (Nat.le_refl _))
  have HB := Lib.hid (bl_trans HB1.out (bl_trans HB2.out HB3.out))
  have HS := Lib.hid (bl_trans HB2.out HB3.out).size
  have HP := Lib.hid HB1.out.size
  generalize w1.heap.size = p at *
  generalize w2.heap.size = q at *
  go_loopw [19] (fun i wr => ∃ k a e : Nat, k ≤ l.length ∧ i = .int .i64 k ∧ Two p wr p q s a e ∧ Below p w3 wr) (fun i _ => l.length - (intOf i).toNat)
  case atStart => exact ⟨0, 0, 0, Nat.zero_le _, rfl, HT.out, Below.refl _ _⟩
  case round =>
    obtain ⟨k, a, e, hk, rfl, ht, hbb⟩ := hrel
    have HTk := Lib.hid ht; have HBB := Lib.hid hbb
    clear ht hbb
    by_cases hlt : k < l.length
    · obtain ⟨x1, x2, b, off, rfl, x4, x5, x6, x7⟩ := HO.out.below (HB.out.trans (HBB.out.mono HP.out)) k hlt
      generalize l[k] = o at x1 x2 x5 x6 x7
      go_wp2_with (go_at_call 19; refine (read_at p p q s a e _ _ _ o.k o.n rfl rfl o.s x1 x2 (HTk.out.alloc _)).mono ?_; rintro r wn ⟨rfl, a', e', ht, hbb⟩; have HTn := Lib.hid ht; have HBn := Lib.hid hbb; clear ht hbb)
      go_roundw
      case rel => exact ⟨k + 1, a', e', by omega, by go_num, HTn.out, HBB.out.trans ((Below.alloc (Below.refl _ _) (Nat.le_of_lt HTk.out.lt.1) _).trans HBn.out)⟩
      case measure => simp [intOf]; omega
    · go_wp2_with fail
      go_region_with (first
        | (go_at_call 26; refine (rErr p s a _ _ H2.out.1.r).mono ?_; rintro r wx ⟨rfl, rfl⟩)
        | (go_at_call 19; refine (read_at p p q s a _ _ _ _ 0 0 rfl rfl ⟨#[]⟩ (by decide) (by decide) H2.out.1).mono ?_; rintro r w6 ⟨rfl, a', e', ht, hbb⟩; have H3 := Lib.hid ht; have HB6 := Lib.hid hbb; clear ht hbb)
        | (go_at_call 20; refine (rEnd p s a' e' _ H3.out.r).mono ?_; rintro r w7 ⟨rfl, hh⟩; have H4 := Lib.hid hh; clear hh)
        | (go_at_call 21; refine (xEnd q s a' e' _ (H3.out.fst H4.out.1)).mono ?_; rintro r w8 ⟨rfl, hh⟩; have H5 := Lib.hid (H3.out.both H4.out.1 H4.out.2 hh.1 hh.2); clear hh)
        | (go_at_call 20; refine (rEnd p s a e _ HTk.out.drew.r).mono ?_; rintro r w4 ⟨rfl, hh⟩; have H1 := Lib.hid hh; clear hh)
        | (go_at_call 21; refine (xEnd q s a e _ (HTk.out.drew.fst H1.out.1)).mono ?_; rintro r w5 ⟨rfl, hh⟩; have H2 := Lib.hid (HTk.out.drew.both H1.out.1 H1.out.2 hh.1 hh.2); obtain ⟨d0, d1, d2, g0, g1, g2⟩ := hh.2.cells; clear hh))
      all_goals

        go_wp2
        go_ret
        exact ⟨rfl, HB.out.trans ((((HBB.out.drew.trans H2.out.2).trans HB6.out).trans H5.out.2).mono HP.out)⟩
end Go.Proofs.Ytbbcgafkpobndaa
