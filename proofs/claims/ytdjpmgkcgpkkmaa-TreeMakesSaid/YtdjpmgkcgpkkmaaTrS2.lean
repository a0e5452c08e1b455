/- Walks of layer 8: a stable sort of a few entries. -/
import Derived.Test.YtdjpmgkcgpkkmaaTrS1
import Derived.Test.YtdjpmgkcgpkkmaaTrSMath
set_option linter.unusedVariables false
set_option linter.unusedSimpArgs false
namespace Go.Proofs.Ytdjpmgkcgpkkmaa
open Go.RowKit TrMath Go.Sort

theorem ltOf_cfE : ltOf cfE = ltE := by
  funext x y
  unfold ltOf ltE cfE
  have := cmpP_lt x.1 y.1
  cases h : ltB x.1 y.1
  · rw [h] at this; simp at this; simp; omega
  · rw [h] at this; simp at this; simp; omega
theorem sw_grown {w wr : World} {g : Nat} {d : Array (ByteArray × Int)} (h : SW w g d wr) : w.grownBy wr (some g) := by
  obtain ⟨n, os, rfl⟩ := h
  unfold sortWorldK putRowK putRow mapBlock grow Sort.ahead
  refine ⟨rfl, rfl, rfl, by simp, fun k hk hn => ?_⟩
  have hne : k ≠ g := fun e => hn (by rw [e])
  simp only [Array.getElem?_append]
  rw [if_pos (by simpa using hk)]
  simp [Array.getElem?_modify, Ne.symm hne]
theorem sw_holds {w wr : World} {g : Nat} {d0 d : Array (ByteArray × Int)} (hH : HoldsK encE 2 w g 0 d0) (hs : d.size = d0.size) (hg : g < w.heap.size) (h : SW w g d wr) : HoldsK encE 2 wr g 0 d := by
  obtain ⟨n, os, rfl⟩ := h
  exact holdsK_sortWorldK_c encE 2 w g 0 d0 d n os hH hg hs
theorem holds_at {w : World} {g : Nat} {d : Array (ByteArray × Int)} (h : HoldsK encE 2 w g 0 d) (hg : g < w.heap.size) : EnAt w (some ⟨g, 0, none⟩) d.toList := by
  intro i hi
  have hi' : i < d.size := by simpa using hi
  have h1 := (HoldsK.cell h hi' (c := 0) (by omega)).1
  have h2 := (HoldsK.cell h hi' (c := 1) (by omega)).1
  rw [get_toList hi'] at h1 h2
  exact ⟨g, 0, rfl, hg, by rw [Nat.add_zero] at h1; exact h1, h2⟩
theorem own_holds {w : World} {B g cap : Nat} {l : List (ByteArray × Int)} (h : OwnB w B g cap l) : HoldsK encE 2 w g 0 l.toArray := by
  intro j hj
  have hj' : j < l.length * 2 := by simpa using hj
  have hd : j / 2 < l.length := by omega
  rw [get_flatK _ _ _ _ (by simpa using hj')]
  have hx : l.toArray[j / 2]! = l[j / 2] := by rw [get_toList (by simpa using hd)]
  rw [hx]
  obtain ⟨b, off, h1, _, h2, h3⟩ := h.at (j / 2) hd
  cases h1
  obtain ⟨cur, hB, hh, _⟩ := h
  refine ⟨?_, by simp [World.frozen?, hh]⟩
  rcases Nat.mod_two_eq_zero_or_one j with e | e
  · rw [e, show 0 + j = 0 + j / 2 * 2 from by omega, h2]; rfl
  · rw [e, show 0 + j = 0 + j / 2 * 2 + 1 from by omega, h3]; rfl

/-- No more than one entry: nothing is done. -/
theorem insSort0 (v : Value) (f : Value) (w : World) : Calls Try.prog 76 #[v, .int .i64 0, .int .i64 0, f] w fun e w' => e = .returned (.tuple #[]) ∧ w' = w := by
  go_enter Try.func76, Try.ntmps76
  go_wp2
  go_loopw [8] (fun iv wr => iv = .int .i64 1 ∧ wr = w) (fun _ _ => 0)
  case atStart => exact ⟨rfl, rfl⟩
  case round =>
    obtain ⟨rfl, rfl⟩ := hrel
    go_wp2
    go_end0
    exact ⟨rfl, rfl⟩
set_option maxHeartbeats 1000000 in
theorem stable_small (v : Value) (n : Nat) (hn : n < 20) (f : Value) (w : World) (Post : World → Prop) (HI : Calls Try.prog 76 #[v, .int .i64 0, .int .i64 n, f] w fun e w' => e = .returned (.tuple #[]) ∧ Post w') :
    Calls Try.prog 60 #[v, .int .i64 n, f] w fun e w' => e = .returned (.tuple #[]) ∧ Post w' := by
  have HH := Lib.hid HI
  clear HI
  have h1 : ¬ (20 : Int) ≤ n := by omega
  have h2 : ¬ (20 : Int) < n := by omega
  go_enter Try.func60, Try.ntmps60
  go_wp2
  go_loopw [7, 8] (fun av bv wr => av = .int .i64 0 ∧ bv = .int .i64 20 ∧ wr = w) (fun _ _ _ => 0)
  case atStart => exact ⟨rfl, rfl, rfl⟩
  case round =>
    obtain ⟨rfl, rfl, rfl⟩ := hrel
    go_wp2_with (go_at_call 76; (with_reducible refine (HH.out).mono ?_); rintro e w' ⟨rfl, hp⟩; have HP := Lib.hid hp; clear hp)
    go_loopw [6] (fun av wq => av = .int .i64 20 ∧ wq = w') (fun _ _ => 0)
    case atStart => exact ⟨rfl, rfl⟩
    case round =>
      obtain ⟨rfl, rfl⟩ := hrel
      go_wp2
      go_end0
      exact ⟨rfl, HP.out⟩
/-- What is asked of a sort: the same entries, ascending, those of one path in the order in which they stood. -/
def Sorted (v : Value) (l : List (ByteArray × Int)) (w w' : World) : Prop := ∀ a c, v = .slice a l.length c → ∃ m, Stb l m ∧ Srt m ∧ EnAt w' a m ∧ w.grownBy w' v.ownBlock
def Sorts (l : List (ByteArray × Int)) : Prop := ∀ (w : World) (B : Nat) (v : Value), Own w B v l →
  Calls Try.prog 37 #[v, .func (.func 38) #[] #[]] w fun e w' => e = .returned (.tuple #[]) ∧ Sorted v l w w'
theorem sort_of (a : Option Addr) (n c : Nat) (f : Value) (w : World) (Post : World → Prop) (HI : Calls Try.prog 60 #[.slice a n c, .int .i64 n, f] w fun e w' => e = .returned (.tuple #[]) ∧ Post w') :
    Calls Try.prog 37 #[.slice a n c, f] w fun e w' => e = .returned (.tuple #[]) ∧ Post w' := by
  have HH := Lib.hid HI
  clear HI
  go_enter Try.func37, Try.ntmps37
  go_wp2_with (go_at_call 60; (with_reducible refine (HH.out).mono ?_); rintro e w' ⟨rfl, hp⟩; have HP := Lib.hid hp; clear hp)
  go_end0
  exact ⟨rfl, HP.out⟩
theorem srt_ins (l : List (ByteArray × Int)) : Srt (insertionSort ltE l.toArray 0 l.toArray.size).toList := by
  have h := (insertionSort_holds swoE l.toArray 0 l.toArray.size (Nat.zero_le _) (Nat.le_refl _))
  have hs : (insertionSort ltE l.toArray 0 l.toArray.size).size = l.toArray.size := h.1.1
  refine srt_of ?_
  rw [hs]
  exact h.2
theorem sorts_small (l : List (ByteArray × Int)) (hl : l.length < 20) : Sorts l := by
  intro w B v hv
  obtain ⟨a, c, rfl, ha, _, _⟩ := Own.at hv
  refine sort_of _ _ _ _ _ _ (stable_small _ _ hl _ _ _ ?_)
  by_cases h0 : 0 < l.length
  · obtain ⟨g, cap, cur, hvv, hgB, hh, _⟩ := own_form hv h0
    simp only [Value.slice.injEq] at hvv
    obtain ⟨rfl, _, rfl⟩ := hvv
    have hB := Own.block hv
    have h := insSort g c 0 l.length l.toArray w (own_holds hB) hB.lt (Nat.zero_le _) (by simp) (by simp; omega)
    refine h.mono fun e w' ⟨he, hw⟩ => ⟨he, ?_⟩
    rw [ltOf_cfE] at hw
    have hst := stb_ins l.toArray 0 l.length (by simp)
    have hsr := srt_ins l
    have hsz : l.toArray.size = l.length := by simp
    rw [hsz] at hsr
    have hds : (insertionSort ltE l.toArray 0 l.length).size = l.toArray.size := by have := hst.1; simpa using this
    have hg := sw_grown hw
    intro a' c' hvv
    simp only [Value.slice.injEq] at hvv
    obtain ⟨rfl, _, rfl⟩ := hvv
    exact ⟨_, hst, hsr, holds_at (sw_holds (own_holds hB) hds hB.lt hw) (Nat.lt_of_lt_of_le hB.lt hg.size), hg⟩
  · have hl0 : l = [] := List.eq_nil_of_length_eq_zero (by omega)
    subst hl0
    exact (insSort0 _ _ w).mono fun e w' ⟨he, hw⟩ => ⟨he, fun _ _ _ => ⟨[], Stb.refl _, List.Pairwise.nil, fun i hi => absurd hi (Nat.not_lt_zero _), by rw [hw]; exact gb_refl _ _⟩⟩
end Go.Proofs.Ytdjpmgkcgpkkmaa
