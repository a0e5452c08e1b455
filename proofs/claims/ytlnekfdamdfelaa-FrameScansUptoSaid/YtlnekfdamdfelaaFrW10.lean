/- Walk of layer 7: the document's scanning. -/
import Derived.Test.YtlnekfdamdfelaaFrW9
set_option linter.unusedVariables false
set_option linter.unusedSimpArgs false
namespace Go.Proofs.Ytlnekfdamdfelaa
open Go.RowKit PackMath SumMath FrMath

theorem xdecF_of {s b : ByteArray} {k n E : Nat} (hD : decP s = (E, (k, (b, n)))) (hs : s.size < 281474976710656) (w : World) : Calls Try.prog 19 #[.string s] w (DecFEx k b n E w) := by
  have := xDecode s hs w
  refine this.mono ?_
  rintro r w' ⟨h1, h2⟩
  rw [hD] at h1
  exact ⟨h1, h2⟩
theorem cells_box2 {w2 : World} (u v : Value) (t : TypeId) (o : Obj) : ∀ (j : Nat) z, [u, v][j]? = some z → ((w2.alloc o).alloc (.cells #[u, v] t)).cell? ((⟨w2.heap.size + 1, 0, none⟩ : Addr).add j) = some z := by
  have := cells_two (w2.alloc o) u v t
  simpa using this

set_option maxHeartbeats 1000000 in
set_option maxRecDepth 100000 in
theorem xScan (s : ByteArray) (hs : s.size ≤ 1099511627776) (w : World) : Calls Try.prog 33 #[.string s] w (ScanSaid s w) := by
  obtain ⟨i0, hi, hz0, hz1, hz2⟩ := info_parts infoFrame
  go_enter Try.func33, Try.ntmps33
  go_wp2
  go_loopw [5, 6] (fun lv av wr => ∃ (v : Value) (a fuel : Nat) (pre : List (Int × ByteArray)), a ≤ s.size ∧ s.size ≤ a + fuel ∧ pre.length ≤ a ∧ lv = v ∧ av = .int .i64 a ∧ scanR s = (pre ++ (scanGo s fuel a).1, (scanGo s fuel a).2) ∧ Col w wr v pre) (fun _ av _ => s.size - (intOf av).toNat)
  case atStart => exact ⟨_, 0, s.size, [], Nat.zero_le _, by omega, Nat.zero_le _, rfl, rfl, rfl, Col.start w⟩
  case round =>
    obtain ⟨v, a, fuel, pre, ha, hf, hpa, rfl, rfl, hR, hcol⟩ := hrel
    have HR := Lib.hid hR; have HC := Lib.hid hcol
    clear hR hcol
    by_cases hlt : a < s.size
    · obtain ⟨E, k, b, n, hD⟩ : ∃ E k b n, decP (s.extract a s.size) = (E, (k, (b, n))) := ⟨_, _, _, _, rfl⟩
      have hex : (s.extract a s.size).size < 281474976710656 := by rw [ByteArray.size_extract]; omega
      have HX := Lib.hid (fun W => xdecF_of hD hex W)
      have HF0 := Lib.hid (FAt.start wr)
      have HC1 := Lib.hid (HC.out.below (bl_alloc (Below.refl _ wr) (.cells #[.int .i64 0, .string ⟨#[]⟩] 25)))
      have HVL := Lib.hid (fun g hg => (HC.out.row.lt g hg).2)
      have hwl := HC.out.bel.size
      by_cases hE : E = 0
      · subst hE
        obtain ⟨hn9, hna⟩ := dec_size hD ha
        have HR2 := Lib.hid (show scanR s = ((pre ++ [((k : Int), b)]) ++ (scanGo s (fuel - 1) (a + n)).1, (scanGo s (fuel - 1) (a + n)).2) by rw [HR.out, sg_ok hlt hf hD]; simp)
        have han : IntKind.i64.wrap ((a : Int) + n) = (a : Int) + n := IntWalk.i64_in _ (by omega)
        have hn1 : 9 ≤ n := by omega
        clear hD hn9
        go_wp2_with (first
          | (go_at_call 19; (with_reducible refine (HX.out _).mono ?_); rintro r w2 ⟨rfl, hb⟩; have HC3 := Lib.hid ((HC.out.below hb).below (bl_alloc (Below.refl _ w2) (.cells #[.int .i64 k, .string b] 25))); have hw2 : w.heap.size ≤ w2.heap.size := Nat.le_trans hwl hb.size; clear hb)
          | (refine wpList_append_lies _ rfl (.tmp 27) (.tmp 29) 39 rfl w.heap.size 25 i0 (.agg #[.int .i64 0, .string ⟨#[]⟩]) 2 24 Try.underlying39 hi hz0 hz1 hz2 rfl (by decide) _ pre.length (frCells pre) rfl (HC3.out.row.alloc _) ⟨w2.heap.size + 1, 0, none⟩ 1 1 [.int .i64 k, .string b] rfl rfl (cells_box2 _ _ _ _) (one_frame k b) (by decide) (by unfold maxLen; omega) (by omega) (by simp; omega) (w2.heap.size + 2) (by simp) ?_; intro gg cp w5 hown hg hat hlt5; have HC5 := Lib.hid (HC3.out.push hown hg); clear hown hg hat hlt5))
        go_roundw
        case rel => exact ⟨_, a + n, fuel - 1, _, hna, by omega, by rw [List.length_append]; show pre.length + 1 ≤ _; omega, rfl, by go_num, HR2.out, HC5.out⟩
        case measure => simp [intOf]; omega
      · have HR2 := Lib.hid (show scanR s = (pre, (a, E)) by rw [HR.out, sg_err hlt hf hD hE]; simp)
        have hed : ((E : Int) != 0) = true := by simp; omega
        clear hD hE
        go_wp2_with (go_at_call 19; (with_reducible refine (HX.out _).mono ?_); rintro r w2 ⟨rfl, hb⟩; have HC2 := Lib.hid ((HC.out.below hb).below (bl_alloc (Below.refl _ w2) (.cells #[.int .i64 k, .string b] 25))); clear hb)
        first | go_ret3 | (rw [Exit.noGoto_ret]; go_ret3)
        exact scan_mk HR2.out HC2.out
    · have HR2 := Lib.hid (show scanR s = (pre, (a, 0)) by rw [HR.out, sg_end (by omega)]; simp)
      go_wp2
      first | go_ret3 | (rw [Exit.noGoto_ret]; go_ret3)
      exact scan_mk HR2.out HC.out
end Go.Proofs.Ytlnekfdamdfelaa
