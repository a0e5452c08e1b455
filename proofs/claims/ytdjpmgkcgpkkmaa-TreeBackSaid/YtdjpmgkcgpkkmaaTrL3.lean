/- The law TreeBack, walked. -/
import Derived.Test.YtdjpmgkcgpkkmaaTrBMath
import Derived.Test.YtdjpmgkcgpkkmaaTrL1
import Derived.Test.YtdjpmgkcgpkkmaaTrDd
set_option linter.unusedVariables false
set_option linter.unusedSimpArgs false
namespace Go.Proofs.Ytdjpmgkcgpkkmaa
open Go.RowKit PackMath TrMath

theorem good_take {l : Ents} (h : TrMath.Good l) (n : Nat) : TrMath.Good (l.take n) :=
  ⟨h.asc.sublist (List.take_sublist _ _), fun e he => h.nz e (List.mem_of_mem_take he), fun e he => h.short e (List.mem_of_mem_take he)⟩
theorem enAt_take {w : World} {a : Option Addr} {l : Ents} (h : EnAt w a l) (n : Nat) : EnAt w a (l.take n) := fun i hi => by
  have hl : i < l.length := by rw [List.length_take] at hi; omega
  obtain ⟨b, off, h1, h0, h2, h3⟩ := h i hl
  exact ⟨b, off, h1, h0, by rw [List.getElem_take]; exact h2, by rw [List.getElem_take]; exact h3⟩
theorem encErr_good {l : Ents} (h : TrMath.Good l) (hl : l.length ≤ 1024) : encErr l = 0 := by unfold encErr; rw [if_neg (by omega), chk_good h]
theorem encB_list (l : Ents) (h : encErr l = 0) : (encB l).data.toList = encGo l l.length := by unfold encB; rw [encS_ok h]
def DecIs (E : Nat) (L : Ents) (w : World) (r : Ending) (w' : World) : Prop := ∃ v, r = .returned (.tuple #[v, .int .i64 (E : Nat)]) ∧ Own w' w.heap.size v L ∧ Below w.heap.size w w'
theorem decIs {s : ByteArray} {E : Nat} {L : Ents} (hs : s.size < 281474976710656) (hE : decE s = E) (hL : decT s = L) (w : World) : Calls Try.prog 29 #[.string s] w (DecIs E L w) := by
  subst hE hL
  exact tDecode s hs w

set_option maxHeartbeats 4000000 in
set_option maxRecDepth 100000 in
theorem treeBack (l : Ents) (hW : Words l) (a : Option Addr) (c : Nat) (hcl : l.length ≤ c) (hcm : c ≤ maxLen) (s : ByteArray) (hs : s.size ≤ 140737488355328) (w : World) (h : EnAt w a l) :
    Calls Try.prog 8 #[.slice a l.length c, .string s] w fun e w' => e = .returned (.bool true) ∧ Below w.heap.size w w' := by
  have hl : l.length ≤ maxLen := Nat.le_trans hcl hcm
  have HA := Lib.hid h
  have HSt := Lib.hid (fun W => lStands W)
  have HG := Lib.hid (fun W hw => lGood l hW a c hcl hcm hl W hw)
  have hgl := good_len l
  have hgg := good_good l
  have hgw := good_words hW
  obtain ⟨g, hg⟩ : ∃ g, goodL l = g := ⟨_, rfl⟩
  rw [hg] at HG hgl hgg hgw
  obtain ⟨T, hT⟩ : ∃ T, g.take 1024 = T := ⟨_, rfl⟩
  obtain ⟨m, hm⟩ : ∃ m, T.length = m := ⟨_, rfl⟩
  have hTg : TrMath.Good T := by rw [← hT]; exact good_take hgg _
  have hTw : Words T := fun e he => hgw e (by rw [← hT] at he; exact List.mem_of_mem_take he)
  have hm1 : m = min g.length 1024 := by rw [← hm, ← hT, List.length_take]; omega
  have hm2 : m ≤ 1024 := by omega
  have hm3 : m ≤ g.length := by omega
  have hmz : min (g.length : Int) 1024 = (m : Int) := by omega
  have hmz2 : (if (1024 : Int) < (g.length : Int) then (1024 : Int) else (g.length : Int)) = (m : Int) := by split <;> omega
  have hok := encErr_good hTg (by rw [hm]; exact hm2)
  have hof := ok_good hTg hTw
  obtain ⟨S, hS⟩ : ∃ S, encB T = S := ⟨_, rfl⟩
  have hSl : S.data.toList = encGo T T.length := by rw [← hS]; exact encB_list T hok
  have hbo := back_ok hof (by omega) hSl
  have hlen := encGo_len T (fun e he => hTg.short e he) T.length
  have hSz : S.size = (encGo T T.length).length := by rw [← hSl]; simp
  have hS2 : 2 ≤ S.size := by rw [hSz, encGo_all, List.length_append, be_length]; omega
  obtain ⟨z, hz⟩ : ∃ z, S.size = z + 1 := ⟨S.size - 1, by omega⟩
  have hcutl : (S.extract 0 z).data.toList = (encGo T T.length).dropLast := by
    rw [extract_list, List.drop_zero, Nat.sub_zero, hSl, List.dropLast_eq_take, ← hSz, hz, Nat.add_sub_cancel]
  have hless := back_less hof (by omega) hcutl
  have hmorel : (S ++ ⟨#[0]⟩).data.toList = encGo T T.length ++ [0] := by rw [← hSl]; simp
  have hmore := back_more hof (by omega) hmorel
  have HE := Lib.hid (fun W a c hw => (show Calls Try.prog 19 #[.slice a m c] W fun e w' => e = .returned (.tuple #[.string S, .int .i64 0]) ∧ Below W.heap.size W w' by have := tEncode T hTw a c (by unfold maxLen; omega) W hw; rw [hok, hS, hm] at this; exact this))
  have HD := Lib.hid (fun W => decIs (s := S) (by omega) hbo.1 hbo.2 W)
  have HDl := Lib.hid (fun W => decIs (s := S.extract 0 z) (by rw [ByteArray.size_extract]; omega) hless rfl W)
  have HDm := Lib.hid (fun W => decIs (s := S ++ ⟨#[0]⟩) (by rw [ByteArray.size_append]; show _ + 1 < _; omega) hmore rfl W)
  have HSm := Lib.hid (fun W a b c d ha hb => (show Calls Try.prog 14 #[.slice a m c, .slice b m d] W fun e w' => e = .returned (.bool true) ∧ ∃ n, w' = W.drewN n by have := rSame T T a b c d (by unfold maxLen; omega) W ha hb; rw [sameB_self, hm] at this; exact this))
  have HTk := Lib.hid (fun (w : World) a (hw : EnAt w a g) => (show EnAt w a T by rw [← hT]; exact enAt_take hw 1024))
  have hzi : (S.size : Int) - 1 = (z : Int) := by omega
  have hz0 : z ≤ S.size := by omega
  have hSb : S.size ≤ 1000000 := by omega
  have hq : ¬ (9223372036854775807 < S.size + 1) := by omega
  have hzi2 : IntKind.i64.wrap ((S.size : Int) - 1) = (z : Int) := by rw [hzi]; exact IntWalk.i64_in _ (by omega)
  have HML := Lib.hid hm
  clear h hW hgg hgw hTg hTw hok hof hS hSl hbo hlen hSz hz hcutl hless hmorel hmore hT hg hm hm1
  go_enter Try.func8, Try.ntmps8
  go_wp2_with fail
  (with_reducible refine (HSt.out w).mono ?_)
  rintro e w1 ⟨rfl, hb⟩
  have HB1 := Lib.hid hb
  clear hb
  go_wp2_with fail
  (with_reducible refine (HG.out _ (HA.out.below HB1.out)).mono ?_)
  rintro e w2 ⟨v2, rfl, ho2, hb⟩
  obtain ⟨a2, c2, rfl, he2, hc2, hcm2⟩ := Own.at ho2
  have HT2 := Lib.hid (HTk.out w2 a2 he2); have HB2 := Lib.hid (bl_trans HB1.out hb)
  unfold maxLen at hcm2
  have hmc : m ≤ c2 := by omega
  clear ho2 he2 hb
  go_wp2_with fail
  (with_reducible refine (HE.out w2 a2 c2 HT2.out).mono ?_)
  rintro e w3 ⟨rfl, hb⟩
  have HB3 := Lib.hid (bl_trans HB2.out hb); have HT3 := Lib.hid (HT2.out.below hb)
  clear hb
  go_wp2_with fail
  (with_reducible refine (HD.out w3).mono ?_)
  rintro e w4 ⟨v4, rfl, ho4, hb⟩
  obtain ⟨a4, c4, rfl, he4, _, _⟩ := Own.at ho4
  rw [HML.out]
  have HU4 := Lib.hid he4; have HB4 := Lib.hid (bl_trans HB3.out hb); have HT4 := Lib.hid (HT3.out.below hb)
  clear ho4 he4 hb
  go_wp2_with fail
  (with_reducible refine (HDl.out w4).mono ?_)
  rintro e w5 ⟨v5, rfl, ho5, hb⟩
  obtain ⟨a5, c5, rfl, _, _, _⟩ := Own.at ho5
  have HU5 := Lib.hid (HU4.out.below hb); have HB5 := Lib.hid (bl_trans HB4.out hb); have HT5 := Lib.hid (HT4.out.below hb)
  clear ho5 hb
  go_wp2_with fail
  (with_reducible refine (HDm.out w5).mono ?_)
  rintro e w6 ⟨v6, rfl, ho6, hb⟩
  obtain ⟨a6, c6, rfl, _, _, _⟩ := Own.at ho6
  have HU6 := Lib.hid (HU5.out.below hb); have HB6 := Lib.hid (bl_trans HB5.out hb); have HT6 := Lib.hid (HT5.out.below hb)
  clear ho6 hb
  go_wp2_with fail
  (with_reducible refine (HSm.out w6 _ _ _ _ HU6.out HT6.out).mono ?_)
  rintro e w7 ⟨rfl, nd, rfl⟩
  have HB7 := Lib.hid (bl_drewN HB6.out nd)
  generalize w6.drewN nd = w7 at *
  obtain ⟨V, hV⟩ : ∃ V, decT s = V := ⟨_, rfl⟩
  obtain ⟨E, hE⟩ : ∃ E, decE s = E := ⟨_, rfl⟩
  have HDs := Lib.hid (fun W => decIs (s := s) (by omega) hE hV W)
  by_cases hE0 : E = 0
  · subst hE0
    obtain ⟨t1, t2, t3⟩ := told hE
    rw [hV] at t1 t2 t3
    obtain ⟨g1, g2, g3⟩ := good_ok V true _ t1
    have hokV := encErr_good g1 t2
    have hck := chk_good g1
    have hVs : encB V = s := kB_inj (by show (encB V).data.toList = _; rw [encB_list V hokV]; exact t3.symm)
    have HEV := Lib.hid (fun W a c hw => (show Calls Try.prog 19 #[.slice a V.length c] W fun e w' => e = .returned (.tuple #[.string s, .int .i64 0]) ∧ Below W.heap.size W w' by have := tEncode V g3 a c (by unfold maxLen; omega) W hw; rw [hokV, hVs] at this; exact this))
    have HCV := Lib.hid (fun W a c hw => (show Calls Try.prog 15 #[.slice a V.length c] W fun e w' => e = .returned (.int .i64 0) ∧ Below W.heap.size W w' by have := tCheck V a c (by unfold maxLen; omega) W hw; rw [hck] at this; exact this))
    clear hE hV t1 t2 t3 g1 g2 g3 hokV hck hVs
    go_wp2_with fail
    (with_reducible refine (HDs.out w7).mono ?_)
    rintro e w8 ⟨v8, rfl, ho8, hb⟩
    obtain ⟨a8, c8, rfl, he8, _, _⟩ := Own.at ho8
    have HV8 := Lib.hid he8; have HB8 := Lib.hid (bl_trans HB7.out hb)
    clear ho8 he8 hb
    go_wp2_with fail
    (with_reducible refine (HEV.out w8 _ _ HV8.out).mono ?_)
    rintro e w9 ⟨rfl, hb⟩
    have HV9 := Lib.hid (HV8.out.below hb); have HB9 := Lib.hid (bl_trans HB8.out hb)
    clear hb
    go_wp2_with fail
    (with_reducible refine (HCV.out w9 _ _ HV9.out).mono ?_)
    rintro e w10 ⟨rfl, hb⟩
    have HB10 := Lib.hid (bl_trans HB9.out hb)
    clear hb
    go_wp2
    go_ret
    exact ⟨rfl, HB10.out⟩
  · have hV0 : V = [] := by rw [← hV]; exact decT_err (by rw [hE]; exact hE0)
    subst hV0
    have hEz : ((E : Int) != 0) = true := by simp; omega
    clear hE hV hE0
    go_wp2_with fail
    (with_reducible refine (HDs.out w7).mono ?_)
    rintro e w8 ⟨v8, rfl, ho8, hb⟩
    obtain ⟨a8, c8, rfl, _, _, _⟩ := Own.at ho8
    have HB8 := Lib.hid (bl_trans HB7.out hb)
    clear ho8 hb
    go_wp2
    go_ret
    exact ⟨rfl, HB8.out⟩
end Go.Proofs.Ytdjpmgkcgpkkmaa
