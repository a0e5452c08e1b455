/- Walks of layer 13: the hash of a path, in the program and in the document's answer. -/
import Derived.Test.YtplegohebfajlaaRows
import Derived.Test.YtplegohebfajlaaBlMath
import Derived.Test.YtplegohebfajlaaBits
import Derived.WalkKit
import Derived.WalkSpells
import Derived.WalkLawsBesides
import Derived.Laws.IdiomStrings
set_option linter.unusedVariables false
set_option linter.unusedSimpArgs false
namespace Go.Proofs.Ytplegohebfajlaa
open Go.RowKit BlMath

theorem bl_take_byte (t : ByteArray) (k : Nat) (h : k < t.size) : t.data.toList.take (k + 1) = t.data.toList.take k ++ [t[k]] := by
  rw [List.take_succ_eq_append_getElem (by simpa using h)]; rfl
theorem eatH_take (c : Nat) (t : ByteArray) (k : Nat) (h : k < t.size) : eatH c (t.data.toList.take (k + 1)) = mix (eatH c (t.data.toList.take k)) t[k].toNat := by
  rw [bl_take_byte t k h, eatH_snoc]
theorem mix_val (y : Nat) : IntKind.u32.wrap ((y : Int) * 16777619) = ((y * 16777619 % 4294967296 : Nat) : Int) ∧ (y : Int) * 16777619 % 4294967296 = ((y * 16777619 % 4294967296 : Nat) : Int) := by
  rw [IntKind.wrap_u32]; omega
theorem fin1_val (y : Nat) : IntKind.u32.wrap ((y : Int) * 2246822507) = ((y * 2246822507 % 4294967296 : Nat) : Int) ∧ (y : Int) * 2246822507 % 4294967296 = ((y * 2246822507 % 4294967296 : Nat) : Int) := by
  rw [IntKind.wrap_u32]; omega
theorem fin2_val (y : Nat) : IntKind.u32.wrap ((y : Int) * 3266489909) = ((y * 3266489909 % 4294967296 : Nat) : Int) ∧ (y : Int) * 3266489909 % 4294967296 = ((y * 3266489909 % 4294967296 : Nat) : Int) := by
  rw [IntKind.wrap_u32]; omega
theorem seed_val (s : Nat) (hs : s < 4294967296) : bits .xor .u32 2166136261 (s : Int) = ((2166136261 ^^^ s : Nat) : Int) := b32_xor 2166136261 s (by decide) hs
theorem seed_lt (s : Nat) (hs : s < 4294967296) : 2166136261 ^^^ s < 4294967296 := Nat.xor_lt_two_pow (n := 32) (by decide) hs
theorem sh16 (h : Nat) (hh : h < 4294967296) : bits .xor .u32 (h : Int) ((h : Int) / 65536) = ((h ^^^ h / 65536 : Nat) : Int) := by
  have e : ((h : Int) / 65536) = ((h / 65536 : Nat) : Int) := by omega
  rw [e, b32_xor _ _ hh (by omega)]
theorem sh13 (h : Nat) (hh : h < 4294967296) : bits .xor .u32 (h : Int) ((h : Int) / 8192) = ((h ^^^ h / 8192 : Nat) : Int) := by
  have e : ((h : Int) / 8192) = ((h / 8192 : Nat) : Int) := by omega
  rw [e, b32_xor _ _ hh (by omega)]
theorem xs_lt (h d : Nat) (hh : h < 4294967296) : h ^^^ h / d < 4294967296 := Nat.xor_lt_two_pow (n := 32) hh (Nat.lt_of_le_of_lt (Nat.div_le_self _ _) hh)
theorem hash_steps (seed h : Nat) (l : List UInt8) (e : eatH (2166136261 ^^^ seed) l = h) (hl : h < 4294967296) : ∃ y1 h1 y2 h2 : Nat,
    bits .xor .u32 (h : Int) ((h : Int) / 65536) = (y1 : Int) ∧ y1 < 4294967296 ∧ IntKind.u32.wrap ((y1 : Int) * 2246822507) = (h1 : Int) ∧ (y1 : Int) * 2246822507 % 4294967296 = (h1 : Int) ∧ h1 < 4294967296 ∧
    bits .xor .u32 (h1 : Int) ((h1 : Int) / 8192) = (y2 : Int) ∧ y2 < 4294967296 ∧ IntKind.u32.wrap ((y2 : Int) * 3266489909) = (h2 : Int) ∧ (y2 : Int) * 3266489909 % 4294967296 = (h2 : Int) ∧ h2 < 4294967296 ∧
    bits .xor .u32 (h2 : Int) ((h2 : Int) / 65536) = ((hashR seed l : Nat) : Int) :=
  ⟨h ^^^ h / 65536, fin1 h, fin1 h ^^^ fin1 h / 8192, fin2 (fin1 h), sh16 h hl, xs_lt h 65536 hl, (fin1_val _).1, (fin1_val _).2, fin1_lt h, sh13 _ (fin1_lt h), xs_lt _ 8192 (fin1_lt h), (fin2_val _).1, (fin2_val _).2, fin2_lt _, by rw [sh16 _ (fin2_lt _)]; unfold hashR; rw [e]⟩

set_option maxHeartbeats 400000 in
set_option maxRecDepth 100000 in
theorem blHash (seed : Nat) (hs : seed < 4294967296) (s : ByteArray) (hz : s.size ≤ maxLen) (w : World) :
    Calls Try.prog 9 #[.int .u32 seed, .string s] w fun e w' => e = .returned (.int .u32 (hashR seed s.data.toList)) ∧ Below w.heap.size w w' := by
  unfold maxLen at hz
  have hcv := fun w => run_bytes_of_string (P := Try.prog) w 9 51 5 s Try.underlying9 Try.underlying51 Try.underlying5
  have hsv := seed_val seed hs
  go_enter Try.func9, Try.ntmps9
  go_wp2
  generalize grownCap w s.size 0 5 = cap
  generalize hwv : (w.alloc (.cells (bytesRow s cap) 5 ((bytesRow s cap).size, (bytesRow s cap).size + 1))).drew = wv
  have HB := Lib.hid (show Below w.heap.size w wv by rw [← hwv]; exact ((Below.refl _ _).alloc (Nat.le_refl _) _).drew)
  have HC := Lib.hid (show ∀ i (h : i < s.size), wv.cell? ⟨w.heap.size, i, none⟩ = some (.int .u8 (s[i].toNat : Nat)) from fun i h => by
    rw [← hwv]; show (w.alloc _).cell? _ = _; rw [World.cell?_alloc_mark, bytesRow_at s _ i h]; rfl)
  clear hwv hcv hsv
  go_loop [5, 13] (fun v i => ∃ k : Nat, k ≤ s.size ∧ i = .int .i64 k ∧ v = .int .u32 (eatH (2166136261 ^^^ seed) (s.data.toList.take k))) (fun _ i => s.size - (intOf i).toNat)
  case atStart => exact ⟨0, Nat.zero_le _, rfl, by simp [eatH]⟩
  case round =>
    obtain ⟨k, hk, rfl, rfl⟩ := hrel
    have hel := eatH_lt (seed_lt seed hs) (s.data.toList.take k)
    by_cases hlt : k < s.size
    · have HE := Lib.hid (eatH_take (2166136261 ^^^ seed) s k hlt)
      have hcell := HC.out k hlt
      generalize hx : s[k] = x at hcell
      generalize he : eatH (2166136261 ^^^ seed) (s.data.toList.take k) = v at hel
      rw [hx, he] at HE
      have hxl := x.toNat_lt
      have h1 : bits .xor .u32 (v : Int) (x.toNat : Int) = ((v ^^^ x.toNat : Nat) : Int) := b32_xor _ _ hel (by omega)
      have hyl : v ^^^ x.toNat < 4294967296 := Nat.xor_lt_two_pow (n := 32) hel (by omega)
      have HM := Lib.hid (show mix v x.toNat = (v ^^^ x.toNat) * 16777619 % 4294967296 from rfl)
      generalize v ^^^ x.toNat = y at h1 hyl HM
      obtain ⟨h2, h3⟩ := mix_val y
      generalize y * 16777619 % 4294967296 = m at h2 h3 HM
      go_wp2
      go_round
      case rel => exact ⟨k + 1, by omega, by go_num, by rw [HE.out, HM.out]⟩
      case measure => simp [intOf]; omega
    · obtain rfl : k = s.size := by omega
      have hte : s.data.toList.take s.size = s.data.toList := List.take_of_length_le (by simp)
      rw [hte] at hel ⊢
      obtain ⟨y1, h1, y2, h2, a1, a2, a3, a4, a5, a6, a7, a8, a9, a10, a11⟩ := hash_steps seed _ s.data.toList rfl hel
      generalize hR : hashR seed s.data.toList = R at *
      have HR := Lib.hid hR
      clear hR
      generalize eatH (2166136261 ^^^ seed) s.data.toList = h at *
      clear hte hlt
      go_wp2
      go_ret
      exact ⟨by rw [HR.out]; rfl, HB.out⟩

set_option maxHeartbeats 400000 in
set_option maxRecDepth 100000 in
theorem xHash (seed : Nat) (hs : seed < 4294967296) (s : ByteArray) (hz : s.size ≤ maxLen) (w : World) :
    Calls Try.prog 10 #[.int .u32 seed, .string s] w fun e w' => e = .returned (.int .u32 (hashR seed s.data.toList)) ∧ w = w' := by
  unfold maxLen at hz
  have hsv := seed_val seed hs
  go_enter Try.func10, Try.ntmps10
  go_wp2
  clear hsv
  go_loop [5, 6] (fun v i => ∃ k : Nat, k ≤ s.size ∧ i = .int .i64 k ∧ v = .int .u32 (eatH (2166136261 ^^^ seed) (s.data.toList.take k))) (fun _ i => s.size - (intOf i).toNat)
  case atStart => exact ⟨0, Nat.zero_le _, rfl, by simp [eatH]⟩
  case round =>
    obtain ⟨k, hk, rfl, rfl⟩ := hrel
    have hel := eatH_lt (seed_lt seed hs) (s.data.toList.take k)
    by_cases hlt : k < s.size
    · have HE := Lib.hid (eatH_take (2166136261 ^^^ seed) s k hlt)
      generalize hx : s[k] = x
      generalize he : eatH (2166136261 ^^^ seed) (s.data.toList.take k) = v at hel
      rw [hx, he] at HE
      have hxl := x.toNat_lt
      have h1 : bits .xor .u32 (v : Int) (x.toNat : Int) = ((v ^^^ x.toNat : Nat) : Int) := b32_xor _ _ hel (by omega)
      have hyl : v ^^^ x.toNat < 4294967296 := Nat.xor_lt_two_pow (n := 32) hel (by omega)
      have HM := Lib.hid (show mix v x.toNat = (v ^^^ x.toNat) * 16777619 % 4294967296 from rfl)
      generalize v ^^^ x.toNat = y at h1 hyl HM
      obtain ⟨h2, h3⟩ := mix_val y
      generalize y * 16777619 % 4294967296 = m at h2 h3 HM
      go_wp2
      go_round
      case rel => exact ⟨k + 1, by omega, by go_num, by rw [HE.out, HM.out]⟩
      case measure => simp [intOf]; omega
    · obtain rfl : k = s.size := by omega
      have hte : s.data.toList.take s.size = s.data.toList := List.take_of_length_le (by simp)
      rw [hte] at hel ⊢
      obtain ⟨y1, h1, y2, h2, a1, a2, a3, a4, a5, a6, a7, a8, a9, a10, a11⟩ := hash_steps seed _ s.data.toList rfl hel
      generalize hR : hashR seed s.data.toList = R at *
      have HR := Lib.hid hR
      clear hR
      generalize eatH (2166136261 ^^^ seed) s.data.toList = h at *
      clear hte hlt
      go_wp2
      go_ret
      exact ⟨by rw [HR.out]; rfl, rfl⟩
end Go.Proofs.Ytplegohebfajlaa
