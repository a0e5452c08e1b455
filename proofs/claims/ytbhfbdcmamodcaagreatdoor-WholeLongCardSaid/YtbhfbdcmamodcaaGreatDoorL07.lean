/- Layer 4 (marks), walked: the next one; all of them; Layer 4 (marks), walked: all of them. -/
import Derived.Test.YtbhfbdcmamodcaaGreatDoorL05
import Derived.Shelf.Lay
import Derived.Shelf.Lays7
import Derived.Shelf.Spec.TrailingZeros
import Derived.Ground.Names7Prog
import Derived.BigQuiet
import Derived.Deep.Cut
set_option linter.unusedVariables false
set_option linter.unusedSimpArgs false
namespace Go.Proofs.YtbhfbdcmamodcaaGreatDoor
open Go.RowKit Go.Shelf LgMath
def nmLays729_ren : Go.Shelf.Ren := ⟨fun | 29 => 244 | n => n, fun | 22 => 197 | 3 => 3 | 4 => 4 | 25 => 192 | 54 => 363 | 0 => 0 | 5 => 5 | n => n, fun | 1 => 2 | n => n⟩
theorem nmLays729 : Go.Proofs.Lays7.n29 Tryz.prog nmLays729_ren where
  mixed := by kernel_rfl
  f29 := Tryz.func244.trans (congrArg some (by kernel_rfl))
  t0 := Tryz.underlying0
  a0 := Tryz.isAgg0
  z0 := Tryz.sizeOf0
  v0 := Tryz.zeroValue0
  i0 := by kernel_rfl
  t3 := Tryz.underlying3
  a3 := Tryz.isAgg3
  z3 := Tryz.sizeOf3
  v3 := Tryz.zeroValue3
  i3 := by kernel_rfl
  t4 := Tryz.underlying4
  a4 := Tryz.isAgg4
  z4 := Tryz.sizeOf4
  v4 := Tryz.zeroValue4
  i4 := by kernel_rfl
  t5 := Tryz.underlying5
  a5 := Tryz.isAgg5
  z5 := Tryz.sizeOf5
  v5 := Tryz.zeroValue5
  i5 := by kernel_rfl
  t22 := Tryz.underlying197
  a22 := Tryz.isAgg197
  z22 := Tryz.sizeOf197
  v22 := Tryz.zeroValue197
  i22 := by kernel_rfl
  t25 := Tryz.underlying192
  a25 := Tryz.isAgg192
  z25 := Tryz.sizeOf192
  v25 := Tryz.zeroValue192
  i25 := by kernel_rfl
  t54 := Tryz.underlying363
  a54 := Tryz.isAgg363
  z54 := Tryz.sizeOf363
  g1 := by kernel_rfl
def TzOk (w : World) : Prop := TabAt (nmLays729_ren.g 1) Lib.deBruijn64tab w
theorem TzOk.below {w w' : World} (h : TzOk w) (hb : Below w.heap.size w w') : TzOk w' := fun j hj => bl_cell hb (h j hj)
theorem kTz (x : Nat) (hx : x < 18446744073709551616) (w : World) (hT : TzOk w) :
    Calls Tryz.prog 244 #[.int .u64 (x : Nat)] w fun e w' => e = .returned (.int .i64 (Lib.ctz 64 x)) ∧ w' = w :=
  Any7.bits_TrailingZeros64 nmLays729 x hx w fun _ => hT
theorem ctz_odd (x : Nat) (h0 : x ≠ 0) (h : x < 2 ^ 64) : ∃ m, x = 2 ^ Lib.ctz 64 x * (2 * m + 1) ∧ Lib.ctz 64 x < 64 := by
  have := Lib.ctzFrom_spec 64 x (by omega) h
  unfold Lib.ctz
  rw [if_neg h0]
  exact this
def NextSaid (f : Nat → Bool) (n size : Nat) (r : Int) : Prop := (r = -1 ∧ ∀ k, n ≤ k → f k = false) ∨ ∃ m : Nat, r = (m : Int) ∧ n ≤ m ∧ m < size ∧ f m = true ∧ ∀ k, n ≤ k → k < m → f k = false
set_option maxHeartbeats 4000000 in
set_option maxRecDepth 100000 in
theorem mNext {w : World} {s g size : Nat} {f : Nat → Bool} (h : MarksAt w s g size f) (hz : TzOk w) (n : Nat) :
    Calls Tryz.prog 221 #[.pointer (some ⟨s, 0, none⟩), .int .i64 (n : Nat)] w fun e w' => (∃ r : Int, e = .returned (.int .i64 r) ∧ NextSaid f n size r) ∧ Below w.heap.size w w' := by
  have HS := Lib.hid (mSize h)
  have HM := Lib.hid h
  have HZ := Lib.hid hz
  obtain ⟨⟨ws, a, b, c⟩, h3, h4⟩ := h
  have hmx : max (n : Int) 0 = (n : Int) := by omega
  have hmxf : (if (n : Int) < 0 then (0 : Int) else (n : Int)) = (n : Int) := by split <;> omega
  by_cases hn : n < size
  · have hg2 : decide ((n : Int) ≥ (size : Int)) = false := by simp; omega
    have hg3 : decide (size ≤ n) = false := by simp; omega
    obtain ⟨q, hq⟩ : ∃ q, n / 64 = q := ⟨_, rfl⟩
    obtain ⟨r, hr⟩ : ∃ r, n % 64 = r := ⟨_, rfl⟩
    have hql : q < ws.length := by rw [← hq]; exact c.word hn
    have hrl : r < 64 := by omega
    have hsk := Seek.start c n
    rw [hq, hr] at hsk
    have cw := word_at b hql
    have c1 : w.cell? ⟨s, 1, none⟩ = some (.slice (some ⟨g, 0, none⟩) ws.length ws.length) := by rw [cell_of_row _ _ _ _ _ _ a]; rfl
    have hdv : (n : Int) / 64 = (q : Int) := by omega
    have hmd : (n : Int) % 64 = (r : Int) := by omega
    have hdv2 : Int.tdiv (n : Int) 64 = (q : Int) := by rw [Int.tdiv_eq_ediv_of_nonneg (by omega)]; exact hdv
    have hmd2 : Int.tmod (n : Int) 64 = (r : Int) := by rw [Int.tmod_eq_emod_of_nonneg (by omega)]; exact hmd
    have hlt := c.lt q
    have HC := Lib.hid c
    have HWO := Lib.hid (show ∀ (W : World), Below w.heap.size w W → W.cell? ⟨s, 1, none⟩ = some (.slice (some ⟨g, 0, none⟩) ws.length ws.length) ∧ ∀ i, i < ws.length → W.cell? ⟨g, i, none⟩ = some (.int .u64 (ws.getD i 0 : Nat)) from fun W hb => ⟨bl_cell hb c1, fun i hi => bl_cell hb (word_at b hi)⟩)
    have HLT := Lib.hid c.lt
    have hw64 : ws.length ≤ 1024 := by rw [c.len]; omega
    generalize hx : ws.getD q 0 = x at *
    have hs1 := div_pow x r
    have hle : x / 2 ^ r * 2 ^ r ≤ x := Nat.div_mul_le_self _ _
    have hsh : IntKind.u64.wrap (((x / 2 ^ r : Nat) : Int) * 2 ^ r) = ((x / 2 ^ r * 2 ^ r : Nat) : Int) := by
      have e : (((x / 2 ^ r : Nat) : Int) * 2 ^ r) = ((x / 2 ^ r * 2 ^ r : Nat) : Int) := by rw [Int.natCast_mul, Int.natCast_pow]; rfl
      rw [e, IntKind.wrap_u64]
      generalize x / 2 ^ r * 2 ^ r = z at *
      omega
    have HSK := Lib.hid hsk
    generalize x / 2 ^ r * 2 ^ r = y at *
    generalize x / 2 ^ r = z at *
    obtain ⟨L, hL⟩ : ∃ L, ws.length = L := ⟨_, rfl⟩
    rw [hL] at hql c1 HWO hw64
    have hql2 : (q : Int) < (L : Int) := by omega
    have HLL := Lib.hid hL
    clear a b c hq hr hsk hz hx hL hle
    go_enter Tryz.func221, Tryz.ntmps221
    go_wp2_with fail
    (with_reducible refine HS.out.mono ?_)
    rintro e w1 ⟨rfl, rfl⟩
    go_upto_region 4 with (fail)
    go_quiet (fail)
    go_wp2_with fail
    go_loopw [5, 6] (fun iv yv wr => ∃ i y : Nat, iv = .int .i64 i ∧ yv = .int .u64 y ∧ i < L ∧ Seek ws size f n i y ∧ Below w1.heap.size w1 wr) (fun iv _ _ => L - (intOf iv).toNat)
    case atStart => exact ⟨q, y, rfl, rfl, hql, HSK.out, ⟨rfl, rfl, rfl, Nat.le_refl _, fun _ _ => rfl⟩⟩
    case round =>
      obtain ⟨i, y, rfl, rfl, hi, hsk, hbel⟩ := hrel
      obtain ⟨wq, hwq⟩ : ∃ wq : World, wq = wr := ⟨_, rfl⟩
      subst hwq
      have hy64 := hsk.lt
      have cs := (HWO.out wq hbel).1
      have HB := Lib.hid hbel; have HSQ := Lib.hid hsk
      clear cw c1
      by_cases hy : y = 0
      · subst hy
        have HOV := Lib.hid (fun e => hsk.over HC.out e)
        have HNX := Lib.hid (hsk.next HC.out)
        clear hsk hbel
        by_cases hi2 : i + 1 = L
        · have d1 : (((i : Int) + 1) == (L : Int)) = true := by rw [beq_iff_eq]; omega
          have d2 : (i : Int) + 1 = (L : Int) := by omega
          go_wp2
          go_ret
          exact ⟨⟨_, rfl, .inl ⟨rfl, HOV.out (by rw [HLL.out]; exact hi2)⟩⟩, HB.out⟩
        · have d1 : (((i : Int) + 1) == (L : Int)) = false := by rw [beq_eq_false_iff_ne]; omega
          have d2 : ¬ (i : Int) + 1 = (L : Int) := by omega
          have d3 : (i : Int) + 1 < (L : Int) := by omega
          have cw2 := (HWO.out wq HB.out).2 (i + 1) (by omega)
          have e1 : ((i : Int) + 1).toNat = i + 1 := by omega
          go_wp2
          go_roundw
          case rel => exact ⟨i + 1, _, by go_num, rfl, by omega, HNX.out, HB.out⟩
          case measure => simp [intOf]; omega
      · obtain ⟨m, e1, e2⟩ := ctz_odd y hy hy64
        have HTz := Lib.hid (kTz y hy64 wq (HZ.out.below hbel))
        have HFO := Lib.hid (hsk.found HC.out e2 e1)
        clear hsk hbel e1
        generalize Lib.ctz 64 y = t at *
        have d1 : ((y : Int) != 0) = true := by rw [bne_iff_ne]; omega
        have d2 : ¬ (y : Int) = 0 := by omega
        have d3 : ((y : Int) == 0) = false := by rw [beq_eq_false_iff_ne]; omega
        go_wp2_with fail
        (with_reducible refine HTz.out.mono ?_)
        rintro e w2 ⟨rfl, rfl⟩
        go_wp2
        go_ret
        exact ⟨⟨_, rfl, .inr ⟨64 * i + t, by go_num, HFO.out.1, HFO.out.2.2.1, HFO.out.2.1, HFO.out.2.2.2⟩⟩, HB.out⟩
  · have hg2 : decide ((n : Int) ≥ (size : Int)) = true := by simp; omega
    have hg3 : decide (size ≤ n) = true := by simp; omega
    have HNO := Lib.hid (show ∀ k, n ≤ k → f k = false from fun k hk => by
      cases e : f k with
      | false => rfl
      | true => have := c.ins k e; omega)
    clear a b c hz hn
    go_enter Tryz.func221, Tryz.ntmps221
    go_wp2_with fail
    (with_reducible refine HS.out.mono ?_)
    rintro e w1 ⟨rfl, rfl⟩
    go_wp2
    go_ret
    exact ⟨⟨_, rfl, .inl ⟨rfl, HNO.out⟩⟩, Below.refl _ _⟩
end Go.Proofs.YtbhfbdcmamodcaaGreatDoor
namespace Go.Proofs.YtbhfbdcmamodcaaGreatDoor
open Go.RowKit Go.Shelf LgMath
theorem infoIntL : (Tryz.prog.info? 3).map (fun i => (i.zero, i.size, i.bytes)) = some (some (.int .i64 0), 1, 8) := by kernel_rfl
theorem listF_len (f : Nat → Bool) (n : Nat) : (listF f n).length ≤ n := by
  unfold listF
  have := List.length_filter_le f (List.range n)
  rwa [List.length_range] at this
theorem next_end {f : Nat → Bool} {m size : Nat} (hm : m ≤ size) (h : ∀ k, m ≤ k → f k = false) : listF f size = listF f m := by
  have := listF_none (f := f) (n := m) (size - m) (fun k k1 _ => h k k1)
  rwa [show m + (size - m) = size by omega] at this
def listMu (size : Nat) (v : Value) : Nat := match v with
  | .int _ (.ofNat k) => size - k
  | _ => 0
set_option maxHeartbeats 4000000 in
set_option maxRecDepth 100000 in
theorem mList {w : World} {s g size : Nat} {f : Nat → Bool} (h : MarksAt w s g size f) (hz : TzOk w) :
    Calls Tryz.prog 180 #[.pointer (some ⟨s, 0, none⟩)] w fun e w' => ∃ v, e = .returned v ∧ OwnX 3 1 natV w' w.heap.size v (listF f size) ∧ Below w.heap.size w w' := by
  obtain ⟨i0, hi, hz0, hz1, hz2⟩ := info_parts infoIntL
  have HN := Lib.hid (fun W (hb : Below w.heap.size w W) n => mNext (h.below hb) (hz.below hb) n)
  have hfew := h.few
  have HN0 := Lib.hid (show Calls Tryz.prog 221 #[.pointer (some ⟨s, 0, none⟩), .int .i64 0] w fun e w' => (∃ r : Int, e = .returned (.int .i64 r) ∧ NextSaid f 0 size r) ∧ Below w.heap.size w w' from mNext h hz 0)
  clear h hz
  go_enter Tryz.func180, Tryz.ntmps180
  go_wp2_with fail
  (with_reducible refine HN0.out.mono ?_)
  rintro e w1 ⟨⟨r0, rfl, hs0⟩, hb1⟩
  have HB1 := Lib.hid hb1; have HS0 := Lib.hid hs0
  clear hb1 hs0 HN0
  go_wp2_with fail
  go_loopw [3, 4] (fun lv rv wr => ∃ (m : Nat) (r : Int) (v : Value), v = lv ∧ rv = .int .i64 r ∧ m ≤ size ∧ NextSaid f m size r ∧ OwnX 3 1 natV wr w.heap.size v (listF f m) ∧ Below w.heap.size w wr) (fun _ rv _ => listMu size rv)
  case atStart => exact ⟨0, r0, _, rfl, rfl, Nat.zero_le _, HS0.out, OwnX.nil _ _ _ _ _, HB1.out⟩
  case round =>
    obtain ⟨m, r, v, hv, rfl, hm, hsaid, hown, hbel⟩ := hrel
    subst hv
    obtain ⟨wq, hwq⟩ : ∃ wq : World, wq = wr := ⟨_, rfl⟩
    subst hwq
    have HO := Lib.hid hown; have HB := Lib.hid hbel
    clear hown hbel
    rcases hsaid with ⟨rfl, hno⟩ | ⟨k, rfl, h1, h2, h3, h4⟩
    · have HE := Lib.hid (next_end hm hno)
      clear hno
      go_wp2
      go_ret
      exact ⟨_, rfl, by rw [HE.out]; exact HO.out, HB.out⟩
    · have HT := Lib.hid (listF_hit h1 h3 h4)
      have hll := listF_len f m
      obtain ⟨va, vc, rfl, _, hvc, hvm, _, _⟩ := HO.out.sl
      obtain ⟨L, hL⟩ : ∃ L, listF f m = L := ⟨_, rfl⟩
      rw [hL] at HT HO hvc hll ⊢
      clear hL h3 h4
      go_wp2_with (at_builtin; refine wpList_append_lies _ rfl (.tmp 13) (.tmp 15) 42 rfl w.heap.size 3 i0 (.int .i64 0) 1 8 Tryz.underlying42 hi hz0 hz1 hz2 rfl (by decide) (.slice va L.length vc) L.length (L.flatMap natV) rfl (HO.out.below (bl_alloc (Below.refl _ _) _)) _ 1 1 [.int .i64 (k : Nat)] rfl rfl (cells_new _ [.int .i64 (k : Nat)] _ (by simp)) (by intro u hu; rw [List.mem_singleton.1 hu]; rfl) (by decide) (by unfold maxLen; omega) (by omega) (by have := HB.out.size; simp; omega) _ rfl ?_; intro gg cp w7 hown hg hat hlt7; have HU7 := Lib.hid (OwnX.push (enc := natV) (m := [k]) hown rfl rfl); have HB7 := Lib.hid (bel_grown HB.out HB.out.size (bl_alloc (Below.refl _ _) _) hg (fun j hj => by have := (HO.out.lt j hj).1; omega)); clear hown hg hat hlt7)
      have HNK := Lib.hid (show Calls Tryz.prog 221 #[.pointer (some ⟨s, 0, none⟩), .int .i64 ((k : Int) + 1)] w7 fun e w' => (∃ r : Int, e = .returned (.int .i64 r) ∧ NextSaid f (k + 1) size r) ∧ Below w7.heap.size w7 w' from HN.out w7 HB7.out (k + 1))
      (with_reducible refine HNK.out.mono ?_)
      rintro e w8 ⟨⟨r8, rfl, hs8⟩, hb8⟩
      have HS8 := Lib.hid hs8; have HB8 := Lib.hid (bl_trans HB7.out hb8); have HU8 := Lib.hid (HU7.out.below hb8)
      have hr8 : r8 = -1 ∨ ∃ j : Nat, r8 = j ∧ k < j := hs8.imp (fun h => h.1) fun ⟨j, e1, e2, _⟩ => ⟨j, e1, by omega⟩
      clear hs8 hb8
      go_wp2
      go_roundw
      case rel => exact ⟨k + 1, r8, _, rfl, rfl, by omega, HS8.out, by rw [HT.out]; exact HU8.out, HB8.out⟩
      case measure =>
        rcases hr8 with rfl | ⟨j, rfl, hj⟩
        · show 0 < size - k
          omega
        · show size - j < size - k
          omega
end Go.Proofs.YtbhfbdcmamodcaaGreatDoor
