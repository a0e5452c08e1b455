/- Plain law of layer 13: what a filter was made of may have changed by it. -/
import Derived.Test.YtplegohebfajlaaBlW10
set_option linter.unusedVariables false
set_option linter.unusedSimpArgs false
namespace Go.Proofs.Ytplegohebfajlaa
open Go.RowKit BlMath Go.Maps

theorem bit_of (f : Nat → Bool) (n y : Nat) (h : y / 8 < n) : bitAt ⟨(bytesB f n).toArray⟩ y = f y := by
  unfold bitAt
  have e : (ByteArray.mk (bytesB f n).toArray).data.toList = bytesB f n := by simp
  have hn : y / 8 < (bytesB f n).length := by rw [bytesB_length]; exact h
  rw [e, List.getD_eq_getElem?_getD, List.getElem?_eq_getElem hn]
  have hl := byteB_lt f (y / 8)
  have e2 : ((some (bytesB f n)[y / 8]).getD 0).toNat = byteB f (y / 8) := by
    simp [bytesB]
    omega
  rw [e2, byteB_at]
  cases f y <;> rfl
theorem fbits_len (H P S : Nat) (l : List ByteArray) : (fbits H P S l).size = roomB (uniq l).length P := fbits_size H P S l
theorem room_le {u P : Nat} (hu : u ≤ 512) (hP : P ≤ 64) : roomB u P ≤ 4100 := by
  have : u * P ≤ 512 * 64 := Nat.mul_le_mul hu hP
  unfold roomB
  omega
theorem room_pos (u P : Nat) : 1 ≤ roomB u P := by unfold roomB; omega
theorem make_size {H P M : Int} {S : Nat} {l : List ByteArray} : (makeR H P M S l).2.2.size ≤ 4100 := by
  unfold makeR
  split
  · exact Nat.zero_le _
  · rename_i hc
    have hz := chk_zero (by simpa using hc)
    split
    · exact Nat.zero_le _
    · show (fbits _ _ _ _).size ≤ 4100
      rw [fbits_len]
      exact room_le (by omega) (by omega)
theorem make_may {H P M : Int} {S : Nat} {l : List ByteArray} {p : ByteArray} (hp : p ∈ l) : mayR H P M S ((makeR H P M S l).2.1 : Nat) (makeR H P M S l).2.2 p = true := by
  by_cases hc : chkR H P M = 0
  · have hz := chk_zero hc
    by_cases hb : M < (uniq l).length
    · rw [mk_large hc hb]; exact may_other (by decide)
    · rw [mk_small hc hb]
      show mayR H P M S 1 (fbits H.toNat P.toNat S l) p = true
      rw [may_small, fbits_len]
      have hr := room_le (u := (uniq l).length) (P := P.toNat) (by omega) (by omega)
      have hr1 := room_pos (uniq l).length P.toNat
      have e : plR H P M S (8 * ((roomB (uniq l).length P.toNat : Nat) : Int)) p = pl H.toNat S (8 * roomB (uniq l).length P.toNat) p := by
        unfold plR
        rw [if_pos ⟨hc, by omega, by omega⟩]
        congr 1
      rw [e, List.all_eq_true]
      intro y hy
      have hyl := pl_lt (show 0 < 8 * roomB (uniq l).length P.toNat by omega) p y hy
      unfold fbits
      rw [bit_of _ _ _ (by omega)]
      exact setF_iff.2 ⟨p, hp, hy⟩
  · rw [mk_bad hc]; exact may_other (by decide)
end Go.Proofs.Ytplegohebfajlaa
