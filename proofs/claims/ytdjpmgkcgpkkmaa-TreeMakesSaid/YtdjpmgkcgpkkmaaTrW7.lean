/- Walks of layer 8: writing over an answer and behind it. -/
import Derived.Test.YtdjpmgkcgpkkmaaTrW6
set_option linter.unusedVariables false
set_option linter.unusedSimpArgs false
namespace Go.Proofs.Ytdjpmgkcgpkkmaa
open Go.RowKit TrMath

set_option maxHeartbeats 1000000 in
set_option maxRecDepth 100000 in
theorem lSpoiltA (l : List (ByteArray × Int)) (v : Value) (B : Nat) (hl : l.length ≤ 1099511627776) (w : World) (hv : Own w B v l) (hBw : B ≤ w.heap.size) :
    Calls Try.prog 17 #[v] w fun e w' => e = .returned (.tuple #[]) ∧ w.grownBy w' v.ownBlock := by
  obtain ⟨i0, hi, hz0, hz1, hz2⟩ := info_parts infoEntry
  obtain ⟨a, c, rfl, _, _, _⟩ := Own.at hv
  have HV := Lib.hid hv
  clear hv
  go_enter Try.func17, Try.ntmps17
  go_wp2
  go_loopw [5] (fun iv wr => ∃ (k : Nat) (l' : List (ByteArray × Int)), k ≤ l.length ∧ iv = .int .i64 k ∧ l'.length = l.length ∧ Own wr B (.slice a l.length c) l' ∧ w.grownBy wr (Value.slice a l.length c).ownBlock) (fun iv _ => l.length - (intOf iv).toNat)
  case atStart => exact ⟨0, l, Nat.zero_le _, rfl, rfl, HV.out, gb_refl _ _⟩
  case round =>
    obtain ⟨k, l', hk, rfl, hl', hown, hgb⟩ := hrel
    have HL := Lib.hid hl'; have HO := Lib.hid hown; have HG := Lib.hid hgb
    clear hl' hown hgb
    by_cases hlt : k < l.length
    · have hlt' : k < l'.length := by rw [HL.out]; exact hlt
      obtain ⟨g, cap, cur, hv, _⟩ := own_form HO.out (by omega)
      simp only [Value.slice.injEq] at hv
      obtain ⟨rfl, _, rfl⟩ := hv
      have HO1 := Lib.hid (show Own wr B (.slice (some ⟨g, 0, none⟩) l'.length c) l' by rw [HL.out]; exact HO.out)
      obtain ⟨c1, c2, f1, f2⟩ := HO1.out.cells hlt'
      go_wp2
      go_roundw
      case rel =>
        refine ⟨k + 1, l'.set k (⟨#[115, 112, 111, 105, 108, 116]⟩, 7), by omega, by go_num, ?_, ?_, ?_⟩
        · rw [List.length_set]; exact HL.out
        · have := HO1.out.set hlt' ⟨#[115, 112, 111, 105, 108, 116]⟩ 7
          rw [HL.out] at this
          exact this
        · exact gb_set (gb_set HG.out)
      case measure => simp [intOf]; omega
    · have HX := Lib.hid (show (Value.slice a l.length c).ownBlock = (Value.slice a l.length c).ownBlock from rfl)
      have hsz := HG.out.size
      obtain ⟨wo, rfl⟩ : ∃ wo : World, wo = wr := ⟨_, rfl⟩
      go_wp2
      go_loopw [0, 13] (fun sv iv wq => ∃ (k : Nat) (v' : Value) (l'' : List (ByteArray × Int)), k ≤ 4 ∧ iv = .int .i64 k ∧ sv = v' ∧ l''.length ≤ l.length + k ∧ Own wq B v' l'' ∧ w.grownBy wq (Value.slice a l.length c).ownBlock ∧ (∀ i, v'.ownBlock = some i → (Value.slice a l.length c).ownBlock = some i ∨ w.heap.size ≤ i)) (fun _ iv _ => 4 - (intOf iv).toNat)
      case atStart => exact ⟨0, _, l', by omega, rfl, rfl, by have := HL.out; omega, HO.out, HG.out, fun i hi => .inl hi⟩
      case round =>
        obtain ⟨j, v', l'', hj, rfl, rfl, hl'', hown'', hgb'', hblk⟩ := hrel
        have HO2 := Lib.hid hown''; have HG2 := Lib.hid hgb''; have HB2 := Lib.hid hblk
        have hwz := hgb''.size
        clear hown'' hgb'' hblk
        by_cases hj4 : j < 4
        · have hj4' : decide ((j : Int) < 4) = true := by simp; omega
          go_wp2_with (refine wpList_append_lies _ rfl (.tmp 15) (.tmp 17) 22 rfl B 39 i0 (.agg #[.string ⟨#[]⟩, .int .u32 0]) 2 24 Try.underlying22 hi hz0 hz1 hz2 rfl (by decide) _ l''.length (enCells l'') rfl (HO2.out.alloc _) ⟨wr.heap.size, 0, none⟩ 1 1 [.string ⟨#[109, 111, 114, 101]⟩, .int .u32 6] rfl rfl (cells_pair _ _ _ _) (one_pair _ _) (by decide) (by unfold maxLen; omega) (by omega) (by simp; omega) (wr.heap.size + 1) (by simp) ?_; intro gg cp w5 hown hg hat hlt5; have HO5 := Lib.hid hown; have HG5 := Lib.hid hg; have HAT := Lib.hid hat; clear hown hg hat hlt5)
          go_roundw
          case rel =>
            refine ⟨j + 1, _, l'' ++ [(⟨#[109, 111, 114, 101]⟩, 6)], by omega, by go_num, rfl, by simp; omega, ?_, ?_, ?_⟩
            · unfold Own; rw [List.length_append, enCells_snoc]; exact HO5.out
            · exact gb_trans (gb_below HG2.out (bl_alloc (Below.refl _ wr) _)) HG5.out HB2.out
            · intro i hi
              cases hi
              rcases HAT.out with h | h
              · exact HB2.out _ h
              · exact .inr (by show w.heap.size ≤ gg; omega)
          case measure => simp [intOf]; omega
        · have hj4' : decide ((j : Int) < 4) = false := by simp; omega
          go_wp2
          go_end0
          exact ⟨rfl, HG2.out⟩
theorem lSpoilt (l : List (ByteArray × Int)) (v : Value) (B : Nat) (hl : l.length ≤ 1099511627776) (w : World) (hv : Own w B v l) (hBw : B ≤ w.heap.size) :
    Calls Try.prog 17 #[v] w fun e w' => e = .returned (.tuple #[]) ∧ w.grownBy w' v.ownBlock := lSpoiltA l v B hl w hv hBw
end Go.Proofs.Ytdjpmgkcgpkkmaa
