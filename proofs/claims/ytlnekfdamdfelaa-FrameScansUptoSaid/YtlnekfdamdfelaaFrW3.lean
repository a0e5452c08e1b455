/- Walks of the laws FrameEncodes, FrameBack. -/
import Derived.Test.YtlnekfdamdfelaaFrW2
import Derived.Test.YtlnekfdamdfelaaFrMath3
set_option linter.unusedVariables false
set_option linter.unusedSimpArgs false
namespace Go.Proofs.Ytlnekfdamdfelaa
open Go.RowKit PackMath SumMath FrMath

def DecFEx (k : Nat) (b : ByteArray) (n E : Nat) (w : World) (r : Ending) (w' : World) : Prop := r = .returned (.tuple #[.agg #[.int .i64 k, .string b], .int .i64 n, .int .i64 E]) ∧ Below w.heap.size w w'
theorem decF_of {s b : ByteArray} {k n E : Nat} (hD : decP s = (E, (k, (b, n)))) (hs : s.size < 281474976710656) (w : World) : Calls Try.prog 13 #[.string s] w (DecFEx k b n E w) := by
  have := fDecode s hs w
  refine this.mono ?_
  rintro r w' ⟨h1, h2⟩
  rw [hD] at h1
  exact ⟨h1, h2⟩

set_option maxHeartbeats 1000000 in
set_option maxRecDepth 100000 in
theorem fFrames (w : World) : Calls Try.prog 9 #[] w fun e w' => e = .returned (.bool true) ∧ Below w.heap.size w w' := by
  obtain ⟨S, hSd⟩ : ∃ S : ByteArray, S = ⟨(encF 1 ⟨#[97]⟩).toArray⟩ := ⟨_, rfl⟩
  have hSl : S.data.toList = encF 1 ⟨#[97]⟩ := by rw [hSd]
  have hSz : S.size = 10 := by rw [← size_list, hSl, encF_len]; rfl
  have hex : S.extract 0 6 = ⟨#[1, 0, 0, 0, 1, 97]⟩ := by
    refine ba_ext ?_
    rw [extract_list, List.drop_zero, hSl, encF, head_one]; rfl
  have hD : decP S = (0, (1, (⟨#[97]⟩, 10))) := dec_frame (K := 1) (body := ⟨#[97]⟩) (post := []) (by decide) (by decide) (by decide) (by rw [hSl]; simp)
  have HE := Lib.hid (fun W => fEncode_ok W 1 ⟨#[97]⟩ (by decide) (by decide) (by decide))
  rw [← hSd] at HE
  have HD := Lib.hid (fun W => decF_of hD (by omega) W)
  have hd1 : ((S.size : Int) != 10) = false := by simp; omega
  have h6 : 6 ≤ S.size := by omega
  clear hSd hSl hSz hD
  go_enter Try.func9, Try.ntmps9
  go_wp2_with (go_at_call 10; refine (HE.out w).mono ?_; rintro e w1 ⟨rfl, hb⟩; have HB1 := Lib.hid hb; clear hb)
  go_wp2_with (go_at_call 13; refine (HD.out w1).mono ?_; rintro e w2 ⟨rfl, hb⟩; have HB2 := Lib.hid (bl_trans HB1.out hb); clear hb)
  go_ret
  exact ⟨rfl, bl_alloc HB2.out _⟩

set_option maxHeartbeats 1000000 in
set_option maxRecDepth 100000 in
theorem frameEncodes_any (w : World) (k : Int) (body : ByteArray) (hs : body.size ≤ 140737488355328) :
    Calls Try.prog 4 #[.agg #[.int .i64 k, .string body]] w fun e w' => e = .returned (.bool true) ∧ Below w.heap.size w w' := by
  have hwz : IntKind.i64.wrap ((body.size : Int) + 9) = (body.size : Int) + 9 := IntWalk.i64_in _ (by omega)
  go_enter Try.func4, Try.ntmps4
  go_wp2_with (go_at_call 9; refine (fFrames _).mono ?_; rintro e w1 ⟨rfl, hb⟩; have HB1 := Lib.hid (bl_trans (bl_alloc (Below.refl _ w) _) hb); have c0 := bl_cell hb (b := w.heap.size) (o := 0) (v := .int .i64 k) (by rw [World.cell?_alloc_mark]; rfl); have c1 := bl_cell hb (b := w.heap.size) (o := 1) (v := .string body) (by rw [World.cell?_alloc_mark]; rfl); clear hb)
  go_wp2_with (go_at_call 10; refine (fEncode w1 k body).mono ?_; rintro e w2 ⟨rfl, hb⟩; have HB2 := Lib.hid (bl_trans HB1.out hb); have d0 := bl_cell hb c0; have d1 := bl_cell hb c1; clear hb c0 c1)
  go_wp2_with (go_at_call 14; refine (rEncode w2 k body).mono ?_; rintro e w3 ⟨rfl, hb⟩; have HB3 := Lib.hid (bl_trans HB2.out hb); have C0 := Lib.hid (bl_cell hb d0); have C1 := Lib.hid (bl_cell hb d1); clear hb d0 d1)
  go_region_held3 (fun w' => w'.cell? ⟨w.heap.size, 0, none⟩ = some (.int .i64 k) ∧ w'.cell? ⟨w.heap.size, 1, none⟩ = some (.string body))
    (first | exact ⟨x0.out, x1.out⟩ | exact ⟨C0.out, C1.out⟩)
    (first
      | (go_at_call 15; refine (fSize _ k body hs).mono ?_; rintro e w4 ⟨rfl, hb⟩; have hb1 := (Below.drew (Below.refl _ w3)).trans hb; have HB4 := Lib.hid hb1; have x0 := Lib.hid (bl_cell hb1 C0.out); have x1 := Lib.hid (bl_cell hb1 C1.out); clear hb hb1))
  all_goals
    go_wp2
    go_ret
    exact ⟨rfl, bl_trans HB3.out HB4.out⟩
end Go.Proofs.Ytlnekfdamdfelaa
