/- Layer 8: two runs of entries merged in place. -/
import Derived.Test.YtdjpmgkcgpkkmaaTrSm2
set_option linter.unusedVariables false
set_option linter.unusedSimpArgs false
namespace Go.Proofs.Ytdjpmgkcgpkkmaa
open Go.RowKit TrMath Go.Sort Go.Shelf

/-- What is known of shorter stretches. -/
def SymTo (w0 : World) (g cap z N : Nat) : Prop := ∀ (a m b : Nat) (d : Arr) (w : World), b - a < N → a < m → m < b → b ≤ z → d.size = z → SortedIn ltE a m d → SortedIn ltE m b d → St w0 g d w →
  Calls Try.prog 77 #[.slice (some ⟨g, 0, none⟩) z cap, .int .i64 a, .int .i64 m, .int .i64 b, .func (.func 38) #[] #[]] w (SymSaid w0 g a b d)

theorem SymTo.go {w0 : World} {g cap z N : Nat} (h : SymTo w0 g cap z N) (a m b : Nat) (d : Arr) (w : World) (h1 : b - a < N) (h2 : a < m) (h3 : m < b) (h4 : b ≤ z) (h5 : d.size = z) (h6 : SortedIn ltE a m d) (h7 : SortedIn ltE m b d) (h8 : St w0 g d w) :
    Calls Try.prog 77 #[.slice (some ⟨g, 0, none⟩) z cap, .int .i64 a, .int .i64 m, .int .i64 b, .func (.func 38) #[] #[]] w (SymSaid w0 g a b d) := h a m b d w h1 h2 h3 h4 h5 h6 h7 h8

set_option maxHeartbeats 16000000 in
set_option maxRecDepth 100000 in
theorem symGen (w0 : World) (g cap z a m b : Nat) (IH : SymTo w0 g cap z (b - a)) (d : Arr) (ham : a + 1 < m) (hmb : m + 1 < b) (hb : b ≤ z) (hds : d.size = z) (hsz : z ≤ 1000000000) (hA : SortedIn ltE a m d) (hB : SortedIn ltE m b d) (w : World) (h : St w0 g d w) :
    Calls Try.prog 77 #[.slice (some ⟨g, 0, none⟩) z cap, .int .i64 a, .int .i64 m, .int .i64 b, .func (.func 38) #[] #[]] w (SymSaid w0 g a b d) := by
  have H0 := Lib.hid h; have HDS := Lib.hid hds; have HSA := Lib.hid hA; have HSB := Lib.hid hB; have HIH := Lib.hid IH
  have HRO := Lib.hid (fun W e p q r (he : e.size = z) (h1 : p < q) (h2 : q < r) (h3 : r ≤ z) (hW : St w0 g e W) => (show Calls Try.prog 82 #[.slice (some ⟨g, 0, none⟩) z cap, .int .i64 (p : Nat), .int .i64 (q : Nat), .int .i64 (r : Nat), .func (.func 38) #[] #[]] W fun r' w' => r' = .returned (.tuple #[]) ∧ ∃ f, IsRot p q r e f ∧ St w0 g f w' by
    have := rotateC w0 g cap p q r e (.func (.func 38) #[] #[]) h1 h2 (by omega) (by omega) W hW
    rw [he] at this
    exact this))
  obtain ⟨n0, hn0⟩ : ∃ n, m - a = n := ⟨_, rfl⟩
  obtain ⟨n1, hn1⟩ : ∃ n, b - m = n := ⟨_, rfl⟩
  have hma : (m : Int) - (a : Int) = (n0 : Int) := by omega
  have hbm : (b : Int) - (m : Int) = (n1 : Int) := by omega
  have hq1 : ((n0 : Int) == 1) = false := by simp; omega
  have hq2 : ((n1 : Int) == 1) = false := by simp; omega
  have hq3 : ¬ (n0 : Int) = 1 := by omega
  have hq4 : ¬ (n1 : Int) = 1 := by omega
  obtain ⟨c, hc⟩ : ∃ c, c = (a + b) / 2 := ⟨_, rfl⟩
  have hcz : ((a : Int) + (b : Int)) / 2 = (c : Int) := by omega
  obtain ⟨n, hn⟩ : ∃ n, c + m = n := ⟨_, rfl⟩
  have hnz : (c : Int) + (m : Int) = (n : Int) := by omega
  obtain ⟨lo, hi, hlo⟩ : ∃ lo hi, (m > c ∧ lo = c + m - b ∧ hi = c) ∨ (m ≤ c ∧ lo = a ∧ hi = m) := by
    by_cases k : m > c
    · exact ⟨_, _, .inl ⟨k, rfl, rfl⟩⟩
    · exact ⟨_, _, .inr ⟨by omega, rfl, rfl⟩⟩
  obtain ⟨n2, hn2⟩ : ∃ k, n - 1 = k := ⟨_, rfl⟩
  have hn2z : (n : Int) - 1 = (n2 : Int) := by omega
  have hlohi : lo ≤ hi := by omega
  have HLO := Lib.hid hlo
  have HC := Lib.hid hc
  have hac : a < c := by omega
  have hcb : c < b := by omega
  have HIND := Lib.hid (show Mid a m b c lo hi lo hi d from ⟨Nat.le_refl _, hlohi, Nat.le_refl _, .inl rfl, .inl rfl⟩)
  clear h hds hA hB IH hn0 hn1
  rcases hlo with ⟨hmc, hl1, hl2⟩ | ⟨hmc, hl1, hl2⟩
  all_goals
    first
    | (have hnb : (n : Int) - (b : Int) = (lo : Int) := by omega
       have hmcz : decide ((c : Int) < (m : Int)) = true := by simp; omega
       have hmcn : decide (c < m) = true := by simp; omega)
    | (have hmcz : decide ((c : Int) < (m : Int)) = false := by simp; omega
       have hmcn : decide (c < m) = false := by simp; omega)
    clear hc
    go_enter Try.func77, Try.ntmps77
    go_wp2
    go_loopw [20, 21] (fun sv rv wr => ∃ s r : Nat, sv = .int .i64 s ∧ rv = .int .i64 r ∧ Mid a m b c lo hi s r d ∧ Below w.heap.size w wr) (fun sv rv _ => (intOf rv).toNat - (intOf sv).toNat)
    case atStart => exact ⟨lo, hi, by first | rfl | (rw [hl1]; done) | (rw [hl1, hn]; done), by first | rfl | (rw [hl2]; done), HIND.out, Below.refl _ _⟩
    case round =>
      obtain ⟨s, r, rfl, rfl, hmid, hbel⟩ := hrel
      have HMD := Lib.hid hmid; have HB := Lib.hid hbel
      have HS := Lib.hid (H0.out.below hbel)
      have hs1 := hmid.lo_s; have hs2 := hmid.s_r; have hs3 := hmid.r_hi
      clear hmid hbel
      by_cases hlt : s < r
      · obtain ⟨k, hk⟩ : ∃ k, k = (s + r) / 2 := ⟨_, rfl⟩
        have hk1 : s ≤ k := by omega
        have hk2 : k < r := by omega
        have hkz : ((s : Int) + (r : Int)) / 2 = (k : Int) := by omega
        have hkb : k < m := by have := HLO.out; have := HC.out; omega
        have hqb : n - 1 - k < b ∧ m ≤ n - 1 - k ∧ k < n := by have := HLO.out; have := HC.out; omega
        obtain ⟨q, hq⟩ : ∃ q, n - 1 - k = q := ⟨_, rfl⟩
        rw [hq] at hqb
        have hqz : (n2 : Int) - (k : Int) = (q : Int) := by omega
        have hkl : (k : Int) < (z : Int) := by omega
        have hql : (q : Int) < (z : Int) := by omega
        obtain ⟨p, x, hp⟩ : ∃ p x, d[k]! = (p, x) := ⟨_, _, rfl⟩
        obtain ⟨p', y, hp'⟩ : ∃ p x, d[q]! = (p, x) := ⟨_, _, rfl⟩
        obtain ⟨p1, p2, _, _⟩ := HS.out.cells (by rw [HDS.out]; omega) hp
        obtain ⟨q1, q2, _, _⟩ := HS.out.cells (by rw [HDS.out]; omega) hp'
        have C1 : ∀ z : Beyond wr, z.x.cell? ⟨g, k * 2, none⟩ = some (.string p) := fun z => bl_cell z.b p1
        have C2 : ∀ z : Beyond wr, z.x.cell? ⟨g, k * 2 + 1, none⟩ = some (.int .u32 x) := fun z => bl_cell z.b p2
        have C3 : ∀ z : Beyond wr, z.x.cell? ⟨g, q * 2, none⟩ = some (.string p') := fun z => bl_cell z.b q1
        have C4 : ∀ z : Beyond wr, z.x.cell? ⟨g, q * 2 + 1, none⟩ = some (.int .u32 y) := fun z => bl_cell z.b q2
        obtain ⟨rr, hr⟩ : ∃ r, cmpP p' p = r := ⟨_, rfl⟩
        have HCC := Lib.hid (fun z : Beyond wr => tCompB p' y p x hr z)
        have HL := Lib.hid (show ltE d[q]! d[k]! = decide (rr < 0) by rw [ltE_cmp hp' hp, hr])
        clear hp hp' hr p1 p2 q1 q2 hk
        by_cases hr0 : rr < 0
        · have hrd : decide (rr < 0) = true := by simpa using hr0
          go_wp2_with fail
          refine wp_region_beyond (by kernel_rfl) (by kernel_rfl) ?_
          repeat (go_big_quiet_step ((go_at_call 38; (with_reducible exact HCC.out _))))
          refine wpQuiet_nil ?_
          intro _ hw'
          obtain ⟨pq, hw''⟩ := hw'
          subst hw''
          have HBq := Lib.hid (bl_trans HB.out pq.b)
          generalize pq.x = Wc at *
          go_wp2
          have hM := HMD.out
          go_roundw
          case rel => exact ⟨s, k, rfl, rfl, ⟨hM.lo_s, by omega, by omega, hM.at_s, .inr (by rw [show c + m - 1 - k = q from by omega, HL.out]; exact hrd)⟩, HBq.out⟩
          case measure => simp [intOf]; omega
        · have hrd : decide (rr < 0) = false := by simpa using hr0
          go_wp2_with fail
          refine wp_region_beyond (by kernel_rfl) (by kernel_rfl) ?_
          repeat (go_big_quiet_step ((go_at_call 38; (with_reducible exact HCC.out _))))
          refine wpQuiet_nil ?_
          intro _ hw'
          obtain ⟨pq, hw''⟩ := hw'
          subst hw''
          have HBq := Lib.hid (bl_trans HB.out pq.b)
          generalize pq.x = Wc at *
          go_wp2
          have hM := HMD.out
          go_roundw
          case rel => exact ⟨k + 1, r, by go_num, rfl, ⟨by omega, by omega, hM.r_hi, .inr (by rw [Nat.add_sub_cancel, show c + m - (k + 1) = q from by omega, HL.out]; exact hrd), hM.at_r⟩, HBq.out⟩
          case measure => simp [intOf]; omega
      · obtain rfl : s = r := by omega
        obtain ⟨en, hen⟩ : ∃ k, n - s = k := ⟨_, rfl⟩
        have hsm : s ≤ m := by have := HLO.out; have := HC.out; omega
        have hsn : s ≤ n := by omega
        have hsc : s ≤ c := by have := HLO.out; omega
        have has : a ≤ s := by have := HLO.out; have := HC.out; omega
        have heb : en ≤ b := by have := HLO.out; have := HC.out; omega
        have henz : (n : Int) - (s : Int) = (en : Int) := by omega
        have hnc : c + m - s = en := by omega
        have HM2 := Lib.hid (fun f (hr : IsRot s m en d f) => mid_halves HSA.out HSB.out (by omega) (by omega) HC.out HLO.out HMD.out (by rw [hnc]; exact hr) (by rw [HDS.out]; exact hb))
        rw [hnc] at HM2
        clear HSA HSB HLO HMD HIND H0 HC
        by_cases k1 : s < m
        · by_cases k2 : s < c
          · by_cases k3 : a < s
            · by_cases k4 : en < b
              · skip
                have hg1 : decide ((s : Int) < (m : Int)) = true := by simp; omega
                have hg1n : decide (s < m) = true := by simp; omega
                have hg3 : decide ((c : Int) < (en : Int)) = true := by simp; omega
                have hg3n : decide (c < en) = true := by simp; omega
                have hg2 : decide ((m : Int) < (en : Int)) = true := by simp; omega
                have hg2n : decide (m < en) = true := by simp; omega
                have hg4 : decide ((s : Int) < (c : Int)) = true := by simp; omega
                have hg4n : decide (s < c) = true := by simp; omega
                have hg5 : decide ((a : Int) < (s : Int)) = true := by simp; omega
                have hg5n : decide (a < s) = true := by simp; omega
                have hg6 : decide ((en : Int) < (b : Int)) = true := by simp; omega
                have hg6n : decide (en < b) = true := by simp; omega
                go_wp2_with fail
                (with_reducible refine (HRO.out wr d s m en HDS.out (by omega) (by omega) (by omega) HS.out).mono ?_)
                rintro r' wf ⟨rfl, f, hrot, hst⟩
                have HH := Lib.hid (HM2.out f hrot); have HZf := Lib.hid (hrot.size.trans HDS.out); have Tf := Lib.hid hst
                clear hrot hst
                go_wp2_with fail
                (with_reducible refine (HIH.out.go a s c f wf (by omega) (by omega) (by omega) (by omega) HZf.out HH.out.1.r1 HH.out.1.r2 Tf.out).mono ?_)
                rintro r' wf2 ⟨rfl, f2, hef2, hsf2, htf2⟩
                have E1 := Lib.hid hef2; have S1 := Lib.hid hsf2; have Tf2 := Lib.hid htf2; have HZf2 := Lib.hid (hef2.size.trans HZf.out)
                clear hef2 hsf2 htf2
                go_wp2_with fail
                (with_reducible refine (HIH.out.go c en b f2 wf2 (by omega) (by omega) (by omega) (by omega) HZf2.out (sorted_same HH.out.1.r3 fun q h1 _ => E1.out.out q (.inr h1)) (sorted_same HH.out.1.r4 fun q h1 _ => E1.out.out q (.inr (by omega))) Tf2.out).mono ?_)
                rintro r' w9 ⟨rfl, f9, he, hs, ht⟩
                have E2 := Lib.hid he; have S2 := Lib.hid hs; have T9 := Lib.hid ht
                clear he hs ht
                have HJ := Lib.hid (halves_join HH.out.1 (by omega) (by omega) E1.out S1.out E2.out S2.out)
                go_wp2
                go_end0
                exact ⟨rfl, f9, HH.out.2.trans HJ.out.1, HJ.out.2, T9.out⟩
              · skip
                have hg1 : decide ((s : Int) < (m : Int)) = true := by simp; omega
                have hg1n : decide (s < m) = true := by simp; omega
                have hg3 : decide ((c : Int) < (en : Int)) = true := by simp; omega
                have hg3n : decide (c < en) = true := by simp; omega
                have hg2 : decide ((m : Int) < (en : Int)) = true := by simp; omega
                have hg2n : decide (m < en) = true := by simp; omega
                have hg4 : decide ((s : Int) < (c : Int)) = true := by simp; omega
                have hg4n : decide (s < c) = true := by simp; omega
                have hg5 : decide ((a : Int) < (s : Int)) = true := by simp; omega
                have hg5n : decide (a < s) = true := by simp; omega
                have hg6 : decide ((en : Int) < (b : Int)) = false := by simp; omega
                have hg6n : decide (en < b) = false := by simp; omega
                go_wp2_with fail
                (with_reducible refine (HRO.out wr d s m en HDS.out (by omega) (by omega) (by omega) HS.out).mono ?_)
                rintro r' wf ⟨rfl, f, hrot, hst⟩
                have HH := Lib.hid (HM2.out f hrot); have HZf := Lib.hid (hrot.size.trans HDS.out); have Tf := Lib.hid hst
                clear hrot hst
                go_wp2_with fail
                (with_reducible refine (HIH.out.go a s c f wf (by omega) (by omega) (by omega) (by omega) HZf.out HH.out.1.r1 HH.out.1.r2 Tf.out).mono ?_)
                rintro r' wf2 ⟨rfl, f2, hef2, hsf2, htf2⟩
                have E1 := Lib.hid hef2; have S1 := Lib.hid hsf2; have Tf2 := Lib.hid htf2; have HZf2 := Lib.hid (hef2.size.trans HZf.out)
                clear hef2 hsf2 htf2
                have E2 := Lib.hid (Eff.refl c b f2)
                have S2 := Lib.hid (show SortedIn ltE c b f2 by have h1 := sorted_same HH.out.1.r3 fun q h1 _ => E1.out.out q (.inr h1); have h2 := sorted_same HH.out.1.r4 fun q h1 _ => E1.out.out q (.inr (by omega)); rw [show en = b from by omega] at h1; exact h1)
                have HJ := Lib.hid (halves_join HH.out.1 (by omega) (by omega) E1.out S1.out E2.out S2.out)
                go_wp2
                go_end0
                exact ⟨rfl, f2, HH.out.2.trans HJ.out.1, HJ.out.2, Tf2.out⟩
            · by_cases k4 : en < b
              · skip
                have hg1 : decide ((s : Int) < (m : Int)) = true := by simp; omega
                have hg1n : decide (s < m) = true := by simp; omega
                have hg3 : decide ((c : Int) < (en : Int)) = true := by simp; omega
                have hg3n : decide (c < en) = true := by simp; omega
                have hg2 : decide ((m : Int) < (en : Int)) = true := by simp; omega
                have hg2n : decide (m < en) = true := by simp; omega
                have hg4 : decide ((s : Int) < (c : Int)) = true := by simp; omega
                have hg4n : decide (s < c) = true := by simp; omega
                have hg5 : decide ((a : Int) < (s : Int)) = false := by simp; omega
                have hg5n : decide (a < s) = false := by simp; omega
                have hg6 : decide ((en : Int) < (b : Int)) = true := by simp; omega
                have hg6n : decide (en < b) = true := by simp; omega
                go_wp2_with fail
                (with_reducible refine (HRO.out wr d s m en HDS.out (by omega) (by omega) (by omega) HS.out).mono ?_)
                rintro r' wf ⟨rfl, f, hrot, hst⟩
                have HH := Lib.hid (HM2.out f hrot); have HZf := Lib.hid (hrot.size.trans HDS.out); have Tf := Lib.hid hst
                clear hrot hst
                have E1 := Lib.hid (Eff.refl a c f)
                have S1 := Lib.hid (show SortedIn ltE a c f by have h1 := HH.out.1.r1; have h2 := HH.out.1.r2; rw [show s = a from by omega] at h2; exact h2)
                go_wp2_with fail
                (with_reducible refine (HIH.out.go c en b f wf (by omega) (by omega) (by omega) (by omega) HZf.out (sorted_same HH.out.1.r3 fun q h1 _ => E1.out.out q (.inr h1)) (sorted_same HH.out.1.r4 fun q h1 _ => E1.out.out q (.inr (by omega))) Tf.out).mono ?_)
                rintro r' w9 ⟨rfl, f9, he, hs, ht⟩
                have E2 := Lib.hid he; have S2 := Lib.hid hs; have T9 := Lib.hid ht
                clear he hs ht
                have HJ := Lib.hid (halves_join HH.out.1 (by omega) (by omega) E1.out S1.out E2.out S2.out)
                go_wp2
                go_end0
                exact ⟨rfl, f9, HH.out.2.trans HJ.out.1, HJ.out.2, T9.out⟩
              · skip
                have hg1 : decide ((s : Int) < (m : Int)) = true := by simp; omega
                have hg1n : decide (s < m) = true := by simp; omega
                have hg3 : decide ((c : Int) < (en : Int)) = true := by simp; omega
                have hg3n : decide (c < en) = true := by simp; omega
                have hg2 : decide ((m : Int) < (en : Int)) = true := by simp; omega
                have hg2n : decide (m < en) = true := by simp; omega
                have hg4 : decide ((s : Int) < (c : Int)) = true := by simp; omega
                have hg4n : decide (s < c) = true := by simp; omega
                have hg5 : decide ((a : Int) < (s : Int)) = false := by simp; omega
                have hg5n : decide (a < s) = false := by simp; omega
                have hg6 : decide ((en : Int) < (b : Int)) = false := by simp; omega
                have hg6n : decide (en < b) = false := by simp; omega
                go_wp2_with fail
                (with_reducible refine (HRO.out wr d s m en HDS.out (by omega) (by omega) (by omega) HS.out).mono ?_)
                rintro r' wf ⟨rfl, f, hrot, hst⟩
                have HH := Lib.hid (HM2.out f hrot); have HZf := Lib.hid (hrot.size.trans HDS.out); have Tf := Lib.hid hst
                clear hrot hst
                have E1 := Lib.hid (Eff.refl a c f)
                have S1 := Lib.hid (show SortedIn ltE a c f by have h1 := HH.out.1.r1; have h2 := HH.out.1.r2; rw [show s = a from by omega] at h2; exact h2)
                have E2 := Lib.hid (Eff.refl c b f)
                have S2 := Lib.hid (show SortedIn ltE c b f by have h1 := sorted_same HH.out.1.r3 fun q h1 _ => E1.out.out q (.inr h1); have h2 := sorted_same HH.out.1.r4 fun q h1 _ => E1.out.out q (.inr (by omega)); rw [show en = b from by omega] at h1; exact h1)
                have HJ := Lib.hid (halves_join HH.out.1 (by omega) (by omega) E1.out S1.out E2.out S2.out)
                go_wp2
                go_end0
                exact ⟨rfl, f, HH.out.2.trans HJ.out.1, HJ.out.2, Tf.out⟩
          · by_cases k4 : en < b
            · have k3 : a < s := by omega
              have hg1 : decide ((s : Int) < (m : Int)) = true := by simp; omega
              have hg1n : decide (s < m) = true := by simp; omega
              have hg3 : decide ((c : Int) < (en : Int)) = true := by simp; omega
              have hg3n : decide (c < en) = true := by simp; omega
              have hg2 : decide ((m : Int) < (en : Int)) = false := by simp; omega
              have hg2n : decide (m < en) = false := by simp; omega
              have hg4 : decide ((s : Int) < (c : Int)) = false := by simp; omega
              have hg4n : decide (s < c) = false := by simp; omega
              have hg5 : decide ((a : Int) < (s : Int)) = true := by simp; omega
              have hg5n : decide (a < s) = true := by simp; omega
              have hg6 : decide ((en : Int) < (b : Int)) = true := by simp; omega
              have hg6n : decide (en < b) = true := by simp; omega
              obtain ⟨f, hf⟩ : ∃ f, f = d := ⟨_, rfl⟩
              have HH := Lib.hid (HM2.out f (by rw [hf]; rw [show en = m from by omega]; exact IsRot.none2 d hsm))
              have HZf := Lib.hid (show f.size = z by rw [hf]; exact HDS.out); have Tf := Lib.hid (show St w0 g f wr by rw [hf]; exact HS.out)
              clear hf
              have E1 := Lib.hid (Eff.refl a c f)
              have S1 := Lib.hid (show SortedIn ltE a c f by have h1 := HH.out.1.r1; have h2 := HH.out.1.r2; rw [show s = c from by omega] at h1; exact h1)
              go_wp2_with fail
              (with_reducible refine (HIH.out.go c en b f wr (by omega) (by omega) (by omega) (by omega) HZf.out (sorted_same HH.out.1.r3 fun q h1 _ => E1.out.out q (.inr h1)) (sorted_same HH.out.1.r4 fun q h1 _ => E1.out.out q (.inr (by omega))) Tf.out).mono ?_)
              rintro r' w9 ⟨rfl, f9, he, hs, ht⟩
              have E2 := Lib.hid he; have S2 := Lib.hid hs; have T9 := Lib.hid ht
              clear he hs ht
              have HJ := Lib.hid (halves_join HH.out.1 (by omega) (by omega) E1.out S1.out E2.out S2.out)
              go_wp2
              go_end0
              exact ⟨rfl, f9, HH.out.2.trans HJ.out.1, HJ.out.2, T9.out⟩
            · have k3 : a < s := by omega
              have hg1 : decide ((s : Int) < (m : Int)) = true := by simp; omega
              have hg1n : decide (s < m) = true := by simp; omega
              have hg3 : decide ((c : Int) < (en : Int)) = true := by simp; omega
              have hg3n : decide (c < en) = true := by simp; omega
              have hg2 : decide ((m : Int) < (en : Int)) = false := by simp; omega
              have hg2n : decide (m < en) = false := by simp; omega
              have hg4 : decide ((s : Int) < (c : Int)) = false := by simp; omega
              have hg4n : decide (s < c) = false := by simp; omega
              have hg5 : decide ((a : Int) < (s : Int)) = true := by simp; omega
              have hg5n : decide (a < s) = true := by simp; omega
              have hg6 : decide ((en : Int) < (b : Int)) = false := by simp; omega
              have hg6n : decide (en < b) = false := by simp; omega
              obtain ⟨f, hf⟩ : ∃ f, f = d := ⟨_, rfl⟩
              have HH := Lib.hid (HM2.out f (by rw [hf]; rw [show en = m from by omega]; exact IsRot.none2 d hsm))
              have HZf := Lib.hid (show f.size = z by rw [hf]; exact HDS.out); have Tf := Lib.hid (show St w0 g f wr by rw [hf]; exact HS.out)
              clear hf
              have E1 := Lib.hid (Eff.refl a c f)
              have S1 := Lib.hid (show SortedIn ltE a c f by have h1 := HH.out.1.r1; have h2 := HH.out.1.r2; rw [show s = c from by omega] at h1; exact h1)
              have E2 := Lib.hid (Eff.refl c b f)
              have S2 := Lib.hid (show SortedIn ltE c b f by have h1 := sorted_same HH.out.1.r3 fun q h1 _ => E1.out.out q (.inr h1); have h2 := sorted_same HH.out.1.r4 fun q h1 _ => E1.out.out q (.inr (by omega)); rw [show en = b from by omega] at h1; exact h1)
              have HJ := Lib.hid (halves_join HH.out.1 (by omega) (by omega) E1.out S1.out E2.out S2.out)
              go_wp2
              go_end0
              exact ⟨rfl, f, HH.out.2.trans HJ.out.1, HJ.out.2, Tf.out⟩
        · have k3 : a < s := by omega
          have k4 : en < b := by omega
          by_cases k2 : s < c
          · skip
            have hg1 : decide ((s : Int) < (m : Int)) = false := by simp; omega
            have hg1n : decide (s < m) = false := by simp; omega
            have hg3 : decide ((c : Int) < (en : Int)) = false := by simp; omega
            have hg3n : decide (c < en) = false := by simp; omega
            have hg2 : decide ((m : Int) < (en : Int)) = true := by simp; omega
            have hg2n : decide (m < en) = true := by simp; omega
            have hg4 : decide ((s : Int) < (c : Int)) = true := by simp; omega
            have hg4n : decide (s < c) = true := by simp; omega
            have hg5 : decide ((a : Int) < (s : Int)) = true := by simp; omega
            have hg5n : decide (a < s) = true := by simp; omega
            have hg6 : decide ((en : Int) < (b : Int)) = true := by simp; omega
            have hg6n : decide (en < b) = true := by simp; omega
            obtain ⟨f, hf⟩ : ∃ f, f = d := ⟨_, rfl⟩
            have HH := Lib.hid (HM2.out f (by rw [hf]; rw [show s = m from by omega]; exact IsRot.none1 d (by omega)))
            have HZf := Lib.hid (show f.size = z by rw [hf]; exact HDS.out); have Tf := Lib.hid (show St w0 g f wr by rw [hf]; exact HS.out)
            clear hf
            go_wp2_with fail
            (with_reducible refine (HIH.out.go a s c f wr (by omega) (by omega) (by omega) (by omega) HZf.out HH.out.1.r1 HH.out.1.r2 Tf.out).mono ?_)
            rintro r' wf2 ⟨rfl, f2, hef2, hsf2, htf2⟩
            have E1 := Lib.hid hef2; have S1 := Lib.hid hsf2; have Tf2 := Lib.hid htf2; have HZf2 := Lib.hid (hef2.size.trans HZf.out)
            clear hef2 hsf2 htf2
            have E2 := Lib.hid (Eff.refl c b f2)
            have S2 := Lib.hid (show SortedIn ltE c b f2 by have h1 := sorted_same HH.out.1.r3 fun q h1 _ => E1.out.out q (.inr h1); have h2 := sorted_same HH.out.1.r4 fun q h1 _ => E1.out.out q (.inr (by omega)); rw [show en = c from by omega] at h2; exact h2)
            have HJ := Lib.hid (halves_join HH.out.1 (by omega) (by omega) E1.out S1.out E2.out S2.out)
            go_wp2
            go_end0
            exact ⟨rfl, f2, HH.out.2.trans HJ.out.1, HJ.out.2, Tf2.out⟩
          · skip
            have hg1 : decide ((s : Int) < (m : Int)) = false := by simp; omega
            have hg1n : decide (s < m) = false := by simp; omega
            have hg3 : decide ((c : Int) < (en : Int)) = false := by simp; omega
            have hg3n : decide (c < en) = false := by simp; omega
            have hg2 : decide ((m : Int) < (en : Int)) = false := by simp; omega
            have hg2n : decide (m < en) = false := by simp; omega
            have hg4 : decide ((s : Int) < (c : Int)) = false := by simp; omega
            have hg4n : decide (s < c) = false := by simp; omega
            have hg5 : decide ((a : Int) < (s : Int)) = true := by simp; omega
            have hg5n : decide (a < s) = true := by simp; omega
            have hg6 : decide ((en : Int) < (b : Int)) = true := by simp; omega
            have hg6n : decide (en < b) = true := by simp; omega
            obtain ⟨f, hf⟩ : ∃ f, f = d := ⟨_, rfl⟩
            have HH := Lib.hid (HM2.out f (by rw [hf]; rw [show s = m from by omega]; exact IsRot.none1 d (by omega)))
            have HZf := Lib.hid (show f.size = z by rw [hf]; exact HDS.out); have Tf := Lib.hid (show St w0 g f wr by rw [hf]; exact HS.out)
            clear hf
            have E1 := Lib.hid (Eff.refl a c f)
            have S1 := Lib.hid (show SortedIn ltE a c f by have h1 := HH.out.1.r1; have h2 := HH.out.1.r2; rw [show s = c from by omega] at h1; exact h1)
            have E2 := Lib.hid (Eff.refl c b f)
            have S2 := Lib.hid (show SortedIn ltE c b f by have h1 := sorted_same HH.out.1.r3 fun q h1 _ => E1.out.out q (.inr h1); have h2 := sorted_same HH.out.1.r4 fun q h1 _ => E1.out.out q (.inr (by omega)); rw [show en = c from by omega] at h2; exact h2)
            have HJ := Lib.hid (halves_join HH.out.1 (by omega) (by omega) E1.out S1.out E2.out S2.out)
            go_wp2
            go_end0
            exact ⟨rfl, f, HH.out.2.trans HJ.out.1, HJ.out.2, Tf.out⟩

theorem symMerge (w0 : World) (g cap z : Nat) (hsz : z ≤ 1000000000) : ∀ N, SymTo w0 g cap z N
  | 0 => fun a m b d w h => by omega
  | N + 1 => fun a m b d w h ham hmb hb hds hA hB hst => by
    have IH : SymTo w0 g cap z (b - a) := fun a' m' b' d' w' h' => symMerge w0 g cap z hsz N a' m' b' d' w' (by omega)
    by_cases h1 : m = a + 1
    · subst h1
      exact symOne w0 g cap a b z d hmb hb hds hsz hB w hst
    · by_cases h2 : b = m + 1
      · subst h2
        exact symLast w0 g cap a m z d (by omega) hb hds hsz hA w hst
      · exact symGen w0 g cap z a m b IH d (by omega) (by omega) hb hds hsz hA hB w hst
end Go.Proofs.Ytdjpmgkcgpkkmaa
