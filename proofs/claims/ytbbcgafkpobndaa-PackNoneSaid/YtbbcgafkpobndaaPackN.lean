/- Walk of the law PackNone: the readers that are nil, and the zero one. -/
import Derived.Test.YtbbcgafkpobndaaPackR
set_option linter.unusedVariables false
set_option linter.unusedSimpArgs false
namespace Go.Proofs.Ytbbcgafkpobndaa
open Go.RowKit PackMath

section
variable (w : World)
theorem nErr : Calls Try.prog 26 #[.pointer none] w fun r w' => r = .returned (.int .i64 1) ∧ w = w' := by
  go_enter Try.func26, Try.ntmps26
  go_wp2
  go_ret
  exact ⟨rfl, rfl⟩
theorem nAt : Calls Try.prog 17 #[.pointer none] w fun r w' => r = .returned (.int .i64 0) ∧ w = w' := by
  go_enter Try.func17, Try.ntmps17
  go_wp2
  go_ret
  exact ⟨rfl, rfl⟩
theorem nLeft : Calls Try.prog 27 #[.pointer none] w fun r w' => r = .returned (.int .i64 0) ∧ w = w' := by
  go_enter Try.func27, Try.ntmps27
  go_wp2
  go_ret
  exact ⟨rfl, rfl⟩
theorem nEnd : Calls Try.prog 20 #[.pointer none] w fun r w' => r = .returned (.int .i64 1) ∧ w = w' := by
  go_enter Try.func20, Try.ntmps20
  go_wp2_with (first
    | (go_at_call 27; refine (nLeft w).mono ?_; rintro r w' ⟨rfl, rfl⟩)
    | (go_at_call 26; refine (nErr w).mono ?_; rintro r w' ⟨rfl, rfl⟩))
  go_ret
  exact ⟨rfl, rfl⟩
theorem nRaw (n : Int) : Calls Try.prog 23 #[.pointer none, .int .i64 n] w fun r w' => r = .returned (.tuple #[.string ⟨#[]⟩, .int .i64 1]) ∧ w = w' := by
  go_enter Try.func23, Try.ntmps23
  go_wp2_with (go_at_call 26; refine (nErr w).mono ?_; rintro r w' ⟨rfl, rfl⟩)
  go_ret2
  exact ⟨rfl, rfl⟩
theorem nRaw_ex (n : Int) : Calls Try.prog 23 #[.pointer none, .int .i64 n] w fun r w' => ∃ t : ByteArray, t.size ≤ 0 ∧ r = .returned (.tuple #[.string t, .int .i64 1]) ∧ w = w' :=
  (nRaw w n).mono fun _ _ ⟨h1, h2⟩ => ⟨⟨#[]⟩, Nat.le_refl _, h1, h2⟩
theorem nShort : Calls Try.prog 16 #[.pointer none] w fun r w' => r = .returned (.tuple #[.int .u64 0, .int .i64 1]) ∧ w = w' := by
  go_enter Try.func16, Try.ntmps16
  go_wp2_with (go_at_call 26; refine (nErr w).mono ?_; rintro r w' ⟨rfl, rfl⟩)
  go_ret2
  exact ⟨rfl, rfl⟩
theorem nText (n : Int) : Calls Try.prog 24 #[.pointer none, .int .i64 n] w fun r w' => r = .returned (.tuple #[.string ⟨#[]⟩, .int .i64 1]) ∧ w = w' := by
  go_enter Try.func24, Try.ntmps24
  go_wp2
  go_ret2
  exact ⟨rfl, rfl⟩
set_option maxHeartbeats 800000 in
theorem nFixed (n : Int) : Calls Try.prog 47 #[.pointer none, .int .i64 n] w fun r w' => r = .returned (.tuple #[.int .u64 0, .int .i64 1]) ∧ Below w.heap.size w w' := by
  have hcv := fun w t => run_bytes_of_string (P := Try.prog) w 9 26 5 t Try.underlying9 Try.underlying26 Try.underlying5
  go_enter Try.func47, Try.ntmps47
  go_wp2_with (go_at_call 23; refine (nRaw_ex w n).mono ?_; rintro r w1 ⟨t, ht, rfl, rfl⟩)
  generalize grownCap w t.size 0 5 = cap
  generalize hwv : (w.alloc (.cells (bytesRow t cap) 5 ((bytesRow t cap).size, (bytesRow t cap).size + 1))).drew = wv
  have HB := Lib.hid (show Below w.heap.size w wv by rw [← hwv]; exact ((Below.refl _ _).alloc (Nat.le_refl _) _).drew)
  clear hwv hcv
  go_loop [8, 20] (fun v i => i = .int .i64 0 ∧ v = .int .u64 0) (fun _ i => 0)
  case atStart => exact ⟨rfl, rfl⟩
  case round =>
    obtain ⟨rfl, rfl⟩ := hrel
    have hd : decide (0 < t.size) = false := decide_eq_false (by omega)
    have hdi : decide ((0 : Int) < (t.size : Int)) = false := decide_eq_false (by omega)
    go_wp2
    go_ret2
    exact ⟨rfl, HB.out⟩
theorem nU8 : Calls Try.prog 22 #[.pointer none] w fun r w' => r = .returned (.tuple #[.int .u8 0, .int .i64 1]) ∧ Below w.heap.size w w' := by
  go_enter Try.func22, Try.ntmps22
  go_wp2_with (go_at_call 47; refine (nFixed w _).mono ?_; rintro r w1 ⟨rfl, hb⟩; have HB := Lib.hid hb; clear hb)
  go_ret2
  exact ⟨rfl, HB.out⟩
theorem nU64 : Calls Try.prog 25 #[.pointer none] w fun r w' => r = .returned (.tuple #[.int .u64 0, .int .i64 1]) ∧ Below w.heap.size w w' := by
  go_enter Try.func25, Try.ntmps25
  go_wp2_with (go_at_call 47; refine (nFixed w _).mono ?_; rintro r w1 ⟨rfl, hb⟩; have HB := Lib.hid hb; clear hb)
  go_ret2
  exact ⟨rfl, HB.out⟩
end

end Go.Proofs.Ytbbcgafkpobndaa
