/- Walk of the law BloomPlaces. -/
import Derived.Test.YtplegohebfajlaaBlW7
import Derived.Deep.RegionWith
set_option linter.unusedVariables false
set_option linter.unusedSimpArgs false
namespace Go.Proofs.Ytplegohebfajlaa
open Go.RowKit BlMath Go.Maps

/-- A slice of places that reads so. -/
def NatsAt (w : World) (v : Value) (l : List Nat) : Prop := ∃ a c, v = .slice a l.length c ∧ ∀ i (h : i < l.length), ∃ g, a = some ⟨g, 0, none⟩ ∧ w.cell? ⟨g, i, none⟩ = some (.int .i64 (l[i] : Nat))
theorem nats_own {B : Nat} {w : World} {v : Value} {l : List Nat} (h : w.ownsRow B 3 1 v l.length (natsV l)) : NatsAt w v l := by
  obtain ⟨a, c, rfl, ha⟩ := own_slice h
  refine ⟨a, c, rfl, fun i hi => ?_⟩
  obtain ⟨g, rfl⟩ := ha (by omega)
  refine ⟨g, rfl, ?_⟩
  rw [h.cellAt i (by omega)]
  simp [natsV, hi]
theorem NatsAt.below {w w' : World} {v : Value} {l : List Nat} (h : NatsAt w v l) (hb : Below w.heap.size w w') : NatsAt w' v l := by
  obtain ⟨a, c, rfl, ha⟩ := h
  exact ⟨a, c, rfl, fun i hi => by obtain ⟨g, e, hc⟩ := ha i hi; exact ⟨g, e, bl_cell hb hc⟩⟩

set_option maxHeartbeats 1000000 in
set_option maxRecDepth 100000 in
theorem sameList_any (v u : Value) (l : List Nat) (hl : l.length ≤ maxLen) (w : World) (hv : NatsAt w v l) (hu : NatsAt w u l) :
    Calls Try.prog 15 #[v, u] w fun e w' => e = .returned (.bool true) ∧ Below w.heap.size w w' := by
  unfold maxLen at hl
  obtain ⟨a, c, rfl, ha⟩ := hv
  obtain ⟨b, d, rfl, hb⟩ := hu
  have HA := Lib.hid ha; have HB := Lib.hid hb
  clear ha hb
  go_enter Try.func15, Try.ntmps15
  go_wp2
  go_loopw [5] (fun i wr => ∃ k : Nat, k ≤ l.length ∧ i = .int .i64 k ∧ Below w.heap.size w wr) (fun i _ => l.length - (intOf i).toNat)
  case atStart => exact ⟨0, Nat.zero_le _, rfl, Below.refl _ _⟩
  case round =>
    obtain ⟨k, hk, rfl, hbb⟩ := hrel
    have HBB := Lib.hid hbb
    clear hbb
    by_cases hlt : k < l.length
    · obtain ⟨g, rfl, hc1⟩ := HA.out k hlt
      obtain ⟨g2, rfl, hc2⟩ := HB.out k hlt
      have hd1 := bl_cell HBB.out hc1
      have hd2 := bl_cell HBB.out hc2
      clear hc1 hc2
      generalize l[k] = y at *
      go_wp2
      go_region
      all_goals
        go_wp2
        go_roundw
        case rel => exact ⟨k + 1, by omega, by go_num, HBB.out.drew⟩
        case measure => simp [intOf]; omega
    · go_wp2
      go_ret
      exact ⟨rfl, HBB.out⟩

/-- The settings' box. -/
def SetAt (w : World) (q : Nat) (H P M S : Int) : Prop := w.cell? ⟨q, 0, none⟩ = some (.int .i64 H) ∧ w.cell? ⟨q, 1, none⟩ = some (.int .i64 P) ∧ w.cell? ⟨q, 2, none⟩ = some (.int .i64 M) ∧ w.cell? ⟨q, 3, none⟩ = some (.int .u32 S)
theorem SetAt.below {w w' : World} {q : Nat} {H P M S : Int} (h : SetAt w q H P M S) (hb : Below w.heap.size w w') : SetAt w' q H P M S := ⟨bl_cell hb h.1, bl_cell hb h.2.1, bl_cell hb h.2.2.1, bl_cell hb h.2.2.2⟩
theorem set_new (w : World) (H P M S : Int) (t : TypeId) : SetAt (w.alloc (.cells #[.int .i64 H, .int .i64 P, .int .i64 M, .int .u32 S] t)) w.heap.size H P M S :=
  ⟨by rw [World.cell?_alloc_mark]; rfl, by rw [World.cell?_alloc_mark]; rfl, by rw [World.cell?_alloc_mark]; rfl, by rw [World.cell?_alloc_mark]; rfl⟩
theorem SetAt.grown {w w' : World} {q : Nat} {H P M S : Int} {row : Option Nat} (h : SetAt w q H P M S) (hg : w.grownBy w' row) (hne : some q ≠ row) : SetAt w' q H P M S :=
  ⟨hg.cell (a := ⟨q, 0, none⟩) h.1 hne, hg.cell (a := ⟨q, 1, none⟩) h.2.1 hne, hg.cell (a := ⟨q, 2, none⟩) h.2.2.1 hne, hg.cell (a := ⟨q, 3, none⟩) h.2.2.2 hne⟩
theorem own_bel {B e n : Nat} {w w' : World} {v : Value} {xs : List Value} (h : w.ownsRow B e 1 v n xs) (hb : Below w.heap.size w w') : w'.ownsRow B e 1 v n xs := h.kept (grown_none hb) (Classical.em _)
theorem own_apart {B B2 e e2 n m : Nat} {w w2 : World} {v u : Value} {xs ys : List Value} (h : w.ownsRow B e 1 v n xs) (k : w2.ownsRow B2 e2 1 u m ys) (hle : w.heap.size ≤ B2) : ∀ g, v.ownBlock = some g → u.ownBlock ≠ some g :=
  fun g hg hu => by have h1 := (h.lt g hg).2; have h2 := (k.lt g hu).1; omega
/-- A row of so many places, whatever they are. -/
def RowAt (B : Nat) (w : World) (v : Value) (n : Nat) : Prop := ∃ xs, w.ownsRow B 3 1 v n xs

set_option maxHeartbeats 2000000 in
set_option maxRecDepth 100000 in
theorem bloomPlaces_any (H P M n : Int) (S : Nat) (hS : S < 4294967296) (p : ByteArray) (hp : p.size ≤ maxLen) (w : World) :
    Calls Try.prog 4 #[.agg #[.int .i64 H, .int .i64 P, .int .i64 M, .int .u32 S], .string p, .int .i64 n] w fun e w' => e = .returned (.bool true) ∧ Below w.heap.size w w' := by
  obtain ⟨i0, hi, hz0, hz1, hz2⟩ := info_parts infoInt
  have C1 := Lib.hid (fun W => blCheck H P M S W)
  have C2 := Lib.hid (fun W => xCheck H P M S W)
  have P1 := Lib.hid (fun W => blPlaces H P M n S hS p hp W)
  have P2 := Lib.hid (fun W => xPlaces H P M n S hS p hp W)
  have hl := plR_len (H := H) (P := P) (M := M) (S := S) (n := n) (p := p)
  generalize plR H P M S n p = l at *
  generalize chkR H P M = ck at *
  have hck : ((ck : Int) != (ck : Int)) = false := by simp
  have HS0 := Lib.hid (set_new w H P M S 27)
  have HB0 := Lib.hid (bl_alloc (Below.refl _ w) (.cells #[.int .i64 H, .int .i64 P, .int .i64 M, .int .u32 S] 27))
  go_enter Try.func4, Try.ntmps4
  go_wp2
  generalize w.alloc (.cells #[.int .i64 H, .int .i64 P, .int .i64 M, .int .u32 S] 27) = w0 at *
  go_region_held3 (fun w' => w'.cell? ⟨w.heap.size, 0, none⟩ = some (.int .i64 H) ∧ w'.cell? ⟨w.heap.size, 1, none⟩ = some (.int .i64 P) ∧ w'.cell? ⟨w.heap.size, 2, none⟩ = some (.int .i64 M) ∧ w'.cell? ⟨w.heap.size, 3, none⟩ = some (.int .u32 S))
    (first | exact HS3.out | exact HS2.out | exact HS1.out | exact HS0.out)
    (first
      | (go_at_call 8; (with_reducible refine (blFilters _).mono ?_); rintro r w1 ⟨rfl, hb⟩; have hb1 := (Below.drew (Below.refl _ w0)).trans hb; have HB1 := Lib.hid (HB0.out.trans (hb1.mono HB0.out.size)); have HS1 := Lib.hid (HS0.out.below hb1); clear hb hb1)
      | (go_at_call 11; (with_reducible refine (C1.out _).mono ?_); rintro r w3 ⟨rfl, hb⟩; have HB3 := Lib.hid (HB2.out.trans (hb.mono HB2.out.size)); have HS3 := Lib.hid (HS2.out.below hb); clear hb)
      | (go_at_call 12; (with_reducible refine (C2.out _).mono ?_); rintro r w3 ⟨rfl, hb⟩; have HB3 := Lib.hid (HB2.out.trans (hb.mono HB2.out.size)); have HS3 := Lib.hid (HS2.out.below hb); clear hb)
      | (go_at_call 11; (with_reducible refine (C1.out _).mono ?_); rintro r w2 ⟨rfl, hb⟩; have HB2 := Lib.hid (HB1.out.trans (hb.mono HB1.out.size)); have HS2 := Lib.hid (HS1.out.below hb); clear hb)
      | (go_at_call 12; (with_reducible refine (C2.out _).mono ?_); rintro r w2 ⟨rfl, hb⟩; have HB2 := Lib.hid (HB1.out.trans (hb.mono HB1.out.size)); have HS2 := Lib.hid (HS1.out.below hb); clear hb))
  all_goals
    have hq0 := World.block_lt_of_cell? w3 _ HS3.out.1
    clear HS0 HS1 HS2 HB0 HB1 HB2
    go_wp2
    go_region_held3 (fun w' => w'.cell? ⟨w.heap.size, 0, none⟩ = some (.int .i64 H) ∧ w'.cell? ⟨w.heap.size, 1, none⟩ = some (.int .i64 P) ∧ w'.cell? ⟨w.heap.size, 2, none⟩ = some (.int .i64 M) ∧ w'.cell? ⟨w.heap.size, 3, none⟩ = some (.int .u32 S))
      (first | exact HS5.out | exact HS4.out | exact HS3.out)
      (first
        | (go_at_call 13; (with_reducible refine (P1.out _).mono ?_); rintro r w5 ⟨v1, rfl, hown, hb⟩; have HNE := Lib.hid (fun g h1 h2 => own_apart HX.out hown (Nat.le_refl _) g h2 h1); have HR2 := Lib.hid (own_bel HX.out hb); have HR1 := Lib.hid (own_base hown (show w.heap.size + 1 ≤ w4.heap.size from HQ4.out)); have HB5 := Lib.hid (HB4.out.trans (hb.mono HB4.out.size)); have HS5 := Lib.hid (HS4.out.below hb); clear hb hown)
        | (go_at_call 14; (with_reducible refine (P2.out _).mono ?_); rintro r w5 ⟨v2, rfl, hown, hb⟩; have HNE := Lib.hid (fun g h1 h2 => own_apart HY.out hown (Nat.le_refl _) g h1 h2); have HR1 := Lib.hid (own_bel HY.out hb); have HR2 := Lib.hid (own_base hown (show w.heap.size + 1 ≤ w4.heap.size from HQ4.out)); have HB5 := Lib.hid (HB4.out.trans (hb.mono HB4.out.size)); have HS5 := Lib.hid (HS4.out.below hb); clear hb hown)
        | (go_at_call 13; (with_reducible refine (P1.out _).mono ?_); rintro r w4 ⟨v1, rfl, hown, hb⟩; have hb1 := (Below.drew (Below.refl _ w3)).trans hb; have HY := Lib.hid (own_base hown (show w.heap.size + 1 ≤ w3.drew.heap.size from hq0)); have HQ4 := Lib.hid (Nat.le_trans hq0 hb1.size); have HB4 := Lib.hid (HB3.out.trans (hb1.mono HB3.out.size)); have HS4 := Lib.hid (HS3.out.below hb1); clear hb hb1 hown)
        | (go_at_call 14; (with_reducible refine (P2.out _).mono ?_); rintro r w4 ⟨v2, rfl, hown, hb⟩; have hb1 := (Below.drew (Below.refl _ w3)).trans hb; have HX := Lib.hid (own_base hown (show w.heap.size + 1 ≤ w3.drew.heap.size from hq0)); have HQ4 := Lib.hid (Nat.le_trans hq0 hb1.size); have HB4 := Lib.hid (HB3.out.trans (hb1.mono HB3.out.size)); have HS4 := Lib.hid (HS3.out.below hb1); clear hb hb1 hown))
  all_goals
    obtain ⟨a1, c1, rfl, ha1⟩ := own_slice HR1.out
    have HA1 := Lib.hid ha1
    clear ha1
    go_wp2_with (go_at_call 15; (with_reducible refine (sameList_any _ _ l (by unfold maxLen; omega) _ (nats_own HR1.out) (nats_own HR2.out)).mono ?_); rintro r w6 ⟨rfl, hb⟩; have HT1 := Lib.hid (own_bel HR1.out hb); have HT2 := Lib.hid (own_bel HR2.out hb); have HB6 := Lib.hid (HB5.out.trans (hb.mono HB5.out.size)); have HS6 := Lib.hid (HS5.out.below hb); clear hb)
    clear HR1 HR2 HS3 HS4 HS5
    go_loopw [33] (fun i wr => ∃ (j : Nat) (xs : List Value), j ≤ l.length ∧ i = .int .i64 j ∧ wr.ownsRow (w.heap.size + 1) 3 1 (.slice a1 l.length c1) l.length xs ∧ wr.ownsRow (w.heap.size + 1) 3 1 v2 l.length (natsV l) ∧ SetAt wr w.heap.size H P M S ∧ Below w.heap.size w wr) (fun i _ => l.length - (intOf i).toNat)
    case atStart => exact ⟨0, _, Nat.zero_le _, rfl, HT1.out, HT2.out, HS6.out, HB6.out⟩
    case round =>
      obtain ⟨j, xs, hj, rfl, h1, h2, h3, h4⟩ := hrel
      have K1 := Lib.hid h1; have K2 := Lib.hid h2; have K3 := Lib.hid h3; have K4 := Lib.hid h4
      have hsz := h4.size
      have hxl : xs.length = l.length := by have := h1.1; omega
      clear h1 h2 h3 h4
      by_cases hlt : j < l.length
      · obtain ⟨g, rfl⟩ := HA1.out (by omega)
        have hc := K1.out.cellAt j (by omega)
        obtain ⟨x0, hx0⟩ : ∃ x0, xs[j]? = some x0 := ⟨_, List.getElem?_eq_getElem (by omega)⟩
        rw [hx0] at hc
        clear hx0
        have hf := K1.out.frozenAt j
        have HST := Lib.hid (K1.out.stored j (.int .i64 (-1)))
        have hg1 := (K1.out.lt g rfl).1
        have HK2 := Lib.hid (K2.out.kept HST.out.2 (.inr (fun e => HNE.out g rfl e)))
        have HK3 := Lib.hid (K3.out.grown HST.out.2 (fun e => by have := Option.some.inj e; omega))
        have HK4 := Lib.hid (K4.out.setCell (p := ⟨g, j, none⟩) (by show w.heap.size ≤ g; omega) (.int .i64 (-1)))
        clear hxl
        go_wp2
        go_roundw
        case rel => exact ⟨j + 1, _, by omega, by go_num, HST.out.1, HK2.out, HK3.out, HK4.out⟩
        case measure => simp [intOf]; omega
      · have hne : some w.heap.size ≠ (Value.slice a1 l.length c1).ownBlock := fun e => by have := (K1.out.lt _ e.symm).1; omega
        have HNE2 := Lib.hid hne
        have hsz1 : w.heap.size + 1 ≤ wr.heap.size := World.block_lt_of_cell? wr _ K3.out.1
        clear hne hxl
        go_wp2_with (first
          | (refine wpList_append_lies _ rfl (.tmp 40) (.tmp 41) 30 rfl (w.heap.size + 1) 3 i0 (.int .i64 0) 1 8 Try.underlying30 hi hz0 hz1 hz2 rfl (by decide) _ l.length xs rfl (K1.out.alloc _) ⟨wr.heap.size, 0, none⟩ 1 1 [.int .i64 (-2)] rfl rfl (cells_one _ _ _) (by intro u hu; rw [List.mem_singleton.1 hu]; rfl) (by decide) (by unfold maxLen; omega) (by omega) (by simp; omega) (wr.heap.size + 1) (by simp) ?_; intro g cap w7 hown hg hat hlt2; have HB7 := Lib.hid (K4.out.trans ((below_ownE K1.out hg (by omega)).mono (Nat.le_succ _))); have HW7 := Lib.hid ((K2.out.alloc (.cells #[.int .i64 (-2)] 3)).kept hg (by
              by_cases hn : v2.ownBlock = none
              · exact .inl hn
              · refine .inr (fun e => ?_)
                obtain ⟨gg, hgg⟩ := Option.ne_none_iff_exists'.1 hn
                exact HNE.out gg (e ▸ hgg) hgg)); obtain ⟨s0, s1, s2, s3⟩ := (K3.out.below (bl_alloc (Below.refl _ _) _)).grown hg HNE2.out; clear hown hg hat hlt2)
          | (go_at_call 13; (with_reducible refine (P1.out _).mono ?_); rintro r w8 ⟨v3, rfl, hown, hb⟩; have HV3 := Lib.hid hown; have HW8 := Lib.hid (own_bel HW7.out hb); have HB8 := Lib.hid (HB7.out.trans (hb.mono HB7.out.size)); clear hb hown)
          | (go_at_call 15; (with_reducible refine (sameList_any _ _ l (by unfold maxLen; omega) _ (nats_own HV3.out) (nats_own HW8.out)).mono ?_); rintro r w9 ⟨rfl, hb⟩; have HB9 := Lib.hid (HB8.out.trans (hb.mono HB8.out.size)); clear hb))
        go_ret
        exact ⟨rfl, HB9.out⟩
end Go.Proofs.Ytplegohebfajlaa
