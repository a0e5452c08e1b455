/- The law TreeDecodes, walked. -/
import Derived.Test.YtdjpmgkcgpkkmaaTrDx
import Derived.Test.YtdjpmgkcgpkkmaaTrSt
import Derived.Test.YtdjpmgkcgpkkmaaTrW7
set_option linter.unusedVariables false
set_option linter.unusedSimpArgs false
namespace Go.Proofs.Ytdjpmgkcgpkkmaa
open Go.RowKit PackMath TrMath

theorem decGo_len (s : ByteArray) : ∀ (r : Nat) (fb : Bool) (L : ByteArray) (a e : Nat), (decGo s r fb L a e).2.length ≤ r := by
  intro r
  induction r with
  | zero => intro fb L a e; exact Nat.le_refl 0
  | succ r ih =>
    intro fb L a e
    unfold decGo
    simp only
    split
    · simp
    · simp only [List.length_cons]
      exact Nat.succ_le_succ (ih _ _ _ _)
theorem decT_len (s : ByteArray) : (decT s).length ≤ 1024 := by
  unfold decT
  split
  · rename_i h
    unfold decE at h
    split at h
    · split at h
      · exact absurd h (by decide)
      · rename_i hc
        exact Nat.le_trans (decGo_len _ _ _ _ _ _) (by omega)
    · rename_i hf; exact absurd h hf
  · simp

set_option maxHeartbeats 1000000 in
set_option maxRecDepth 100000 in
theorem lDecoded (s : ByteArray) (hs : s.size < 281474976710656) (w : World) : Calls Try.prog 22 #[.string s] w fun e w' => e = .returned (.bool true) ∧ Below w.heap.size w w' := by
  have HT := Lib.hid (fun W => tDecode s hs W)
  have HR := Lib.hid (fun W => rDecode s hs W)
  have hlen := decT_len s
  have HS := Lib.hid (fun W a b c d ha hb => rSame (decT s) (decT s) a b c d (by unfold maxLen; omega) W ha hb)
  have HP := Lib.hid (fun W v B hv hB => lSpoilt (decT s) v B (by omega) W hv hB)
  have hsb := sameB_self (decT s)
  unfold DecTSaid at HT HR
  obtain ⟨l, hl⟩ : ∃ l, decT s = l := ⟨_, rfl⟩
  obtain ⟨E, hE⟩ : ∃ E, decE s = E := ⟨_, rfl⟩
  rw [hl] at hlen HS HP hsb
  rw [hl, hE] at HT HR
  rw [hsb] at HS
  clear hl hE hsb
  go_enter Try.func22, Try.ntmps22
  go_wp2_with fail
  refine (HT.out w).mono ?_
  rintro e w1 ⟨v1, rfl, ho1, hb1⟩
  obtain ⟨a1, c1, rfl, he1, _, _⟩ := Own.at ho1
  have HO1 := Lib.hid ho1; have HE1 := Lib.hid he1; have HB1 := Lib.hid hb1
  clear ho1 he1 hb1
  go_wp2_with fail
  refine (HR.out w1).mono ?_
  rintro e w2 ⟨v2, rfl, ho2, hb2⟩
  obtain ⟨a2, c2, rfl, he2, _, _⟩ := Own.at ho2
  have HO2 := Lib.hid ho2; have HE2 := Lib.hid he2; have HB2 := Lib.hid (bl_trans HB1.out hb2)
  have HO1b := Lib.hid (HO1.out.below hb2)
  have HE1b := Lib.hid (HE1.out.below hb2)
  have HAP := Lib.hid (fun i (h1 : (Value.slice a1 l.length c1).ownBlock = some i) (h2 : (Value.slice a2 l.length c2).ownBlock = some i) => (by have := (HO1.out.lt i h1).2; have := (HO2.out.lt i h2).1; omega : False))
  clear ho2 he2 hb2
  go_wp2_with fail
  refine (HS.out w2 a1 a2 c1 c2 HE1b.out HE2.out).mono ?_
  rintro e w3 ⟨rfl, nd, rfl⟩
  have HO1c := Lib.hid (show Own (w2.drewN nd) w.heap.size (Value.slice a1 l.length c1) l from HO1b.out)
  have HO2c := Lib.hid (show Own (w2.drewN nd) w1.heap.size (Value.slice a2 l.length c2) l from HO2.out)
  have HB3 := Lib.hid (bl_drewN HB2.out nd)
  generalize w2.drewN nd = w3 at *
  go_wp2_with fail
  refine (HP.out w3 _ w.heap.size HO1c.out HB3.out.size).mono ?_
  rintro e w4 ⟨rfl, hg⟩
  have HB4 := Lib.hid (gb_to_below HB3.out hg HB3.out.size (fun i hi => (HO1c.out.lt i hi).1))
  have HO2d := Lib.hid (gb_own HO2c.out hg (by
    cases h2 : (Value.slice a2 l.length c2).ownBlock with
    | none => exact .inl rfl
    | some i => exact .inr (fun h1 => HAP.out i h1.symm h2)))
  clear hg
  go_wp2_with fail
  refine (HT.out w4).mono ?_
  rintro e w5 ⟨v5, rfl, ho5, hb5⟩
  obtain ⟨a5, c5, rfl, he5, _, _⟩ := Own.at ho5
  have HE5 := Lib.hid he5; have HB5 := Lib.hid (bl_trans HB4.out hb5)
  have HE2e := Lib.hid (show EnAt w5 a2 l by
    obtain ⟨a, c, hv, he, _⟩ := Own.at (HO2d.out.below hb5)
    simp only [Value.slice.injEq] at hv
    obtain ⟨rfl, _, _⟩ := hv
    exact he)
  clear ho5 he5 hb5
  go_wp2_with fail
  refine (HS.out w5 a5 a2 c5 c2 HE5.out HE2e.out).mono ?_
  rintro e w6 ⟨rfl, nd, rfl⟩
  go_wp2
  go_ret
  exact ⟨rfl, bl_drewN HB5.out _⟩

set_option maxHeartbeats 1000000 in
theorem treeDecodes (s : ByteArray) (hs : s.size ≤ 140737488355328) (w : World) : Calls Try.prog 5 #[.string s] w fun e w' => e = .returned (.bool true) ∧ Below w.heap.size w w' := by
  obtain ⟨M, hM⟩ : ∃ M : Nat, M = min s.size 60 := ⟨_, rfl⟩
  have hM1 : (if (60 : Int) < (s.size : Int) then (60 : Int) else (s.size : Int)) = (M : Int) := by split <;> omega
  have hM2 : min (s.size : Int) 60 = (M : Int) := by omega
  have hMs : M ≤ s.size := by omega
  have hM40 : M ≤ 60 := by omega
  have hss : s.size < 281474976710656 := by omega
  have HSt := Lib.hid (fun W => lStands W)
  clear hM
  go_enter Try.func5, Try.ntmps5
  go_wp2_with (go_at_call 10; (with_reducible refine (HSt.out _).mono ?_); rintro e w1 ⟨rfl, hb1⟩; have HB1 := Lib.hid hb1; clear hb1)
  clear hM1 hM2
  go_loopw [10] (fun i wr => ∃ k : Nat, k ≤ M + 1 ∧ i = .int .i64 k ∧ Below w.heap.size w wr) (fun i _ => M + 1 - (intOf i).toNat)
  case atStart => exact ⟨0, Nat.zero_le _, rfl, HB1.out⟩
  case round =>
    obtain ⟨k, hk, rfl, hbb⟩ := hrel
    have HB := Lib.hid hbb
    clear hbb
    by_cases hlt : k < M + 1
    · have hks : k ≤ s.size := by omega
      have hsk : (s.extract 0 k).size < 281474976710656 := by rw [ByteArray.size_extract]; omega
      go_wp2_with (go_at_call 22; (with_reducible refine (lDecoded (s.extract 0 k) hsk wr).mono ?_); rintro e w2 ⟨rfl, hb⟩; have HB2 := Lib.hid (bl_trans HB.out hb); clear hb)
      go_roundw
      case rel => exact ⟨k + 1, by omega, by go_num, HB2.out⟩
      case measure => simp [intOf]; omega
    · go_wp2_with (go_at_call 22; (with_reducible refine (lDecoded s hss wr).mono ?_); rintro e w2 ⟨rfl, hb⟩; have HB2 := Lib.hid (bl_trans HB.out hb); clear hb)
      go_ret
      exact ⟨rfl, HB2.out⟩
end Go.Proofs.Ytdjpmgkcgpkkmaa
