/- Plain law of layer 7: what bytes are read as, by their sizes. -/
import Derived.Test.YtlnekfdamdfelaaFrMath5
set_option linter.unusedVariables false
set_option linter.unusedSimpArgs false
namespace Go.Proofs.Ytlnekfdamdfelaa.FrMath
open PackMath SumMath

/-- The length that the head tells. -/
def hd4 (s : ByteArray) : Nat := num ((s.data.toList.drop 1).take 4)
theorem hd4_lt (s : ByteArray) : hd4 s < 4294967296 :=
  Nat.lt_of_lt_of_le (num_lt _) (Nat.le_trans (Nat.pow_le_pow_right (by decide) (show ((s.data.toList.drop 1).take 4).length ≤ 4 by rw [List.length_take]; omega)) (by decide))
theorem first_num {s : ByteArray} (h : 0 < s.size) : numR s 0 0 1 = ((s[0].toNat, 0), (1, 0)) := by
  rw [numR_ok (by omega), List.drop_zero]
  have e : s.data.toList.take 1 = [s[0]] := by
    have := take_byte s 0 h
    simpa using this
  rw [e]
  simp [num]
theorem head_num {s : ByteArray} (h : 5 ≤ s.size) : numR s 1 0 4 = ((hd4 s, 0), (5, 0)) := by rw [numR_ok (by omega)]; rfl
theorem dz_none {s : ByteArray} (h : s.size < 1) : decP s = (2, (0, (⟨#[]⟩, 0))) := by
  have h0 : numR s 0 0 1 = ((0, 2), (0, 2)) := numR_short (by omega)
  exact dp_len h0 (numR_err (by decide)) (by omega) (by decide)
theorem dz_zero {s : ByteArray} (h : 0 < s.size) (hz : s[0].toNat = 0) : decP s = (3, (0, (⟨#[]⟩, 0))) := dp_zero (first_num h) ⟨rfl, hz⟩
theorem dz_head {s : ByteArray} (h : 0 < s.size) (hz : s[0].toNat ≠ 0) (h5 : s.size < 5) : decP s = (2, (0, (⟨#[]⟩, 0))) :=
  dp_len (first_num h) (numR_short (by omega)) (fun e => hz e.2) (by decide)
theorem dz_great {s : ByteArray} (h5 : 5 ≤ s.size) (hz : s[0].toNat ≠ 0) (hn : 1048576 < hd4 s) : decP s = (3, (0, (⟨#[]⟩, 0))) :=
  dp_great (first_num (by omega)) (head_num h5) (fun e => hz e.2) rfl hn
theorem dz_short {s : ByteArray} (h5 : 5 ≤ s.size) (hz : s[0].toNat ≠ 0) (hn : ¬ 1048576 < hd4 s) (hs : s.size < hd4 s + 9) : decP s = (2, (0, (⟨#[]⟩, 0))) := by
  by_cases hb : 5 + hd4 s ≤ s.size
  · exact dp_short (first_num (by omega)) (head_num h5) (rawR_ok hb) (numR_short (by omega)) (fun e => hz e.2) rfl hn (by decide)
  · exact dp_short (first_num (by omega)) (head_num h5) (rawR_short (by omega) (by omega)) (numR_err (by decide)) (fun e => hz e.2) rfl hn (by decide)
theorem dz_sum {s : ByteArray} (h5 : 5 ≤ s.size) (hz : s[0].toNat ≠ 0) (hn : ¬ 1048576 < hd4 s) (hs : ¬ s.size < hd4 s + 9) (he : s.extract (hd4 s + 5) (hd4 s + 9) ≠ ⟨(be (crc (s.extract 0 (hd4 s + 5)).data.toList) 4).toArray⟩) : decP s = (4, (0, (⟨#[]⟩, 0))) := by
  refine dp_sum (first_num (by omega)) (head_num h5) (rawR_ok (m := hd4 s) (by omega)) (numR_ok (by omega)) (fun e => hz e.2) rfl hn rfl ?_
  rw [show 5 + hd4 s + 4 - 4 = hd4 s + 5 from by omega]
  intro hc
  apply he
  have hl : ((s.data.toList.drop (5 + hd4 s)).take 4).length = 4 := by rw [List.length_take, List.length_drop, size_list]; omega
  have hb := be_num ((s.data.toList.drop (5 + hd4 s)).take 4)
  rw [hl, hc] at hb
  have e1 : (s.extract (hd4 s + 5) (hd4 s + 9)).data.toList = (s.data.toList.drop (5 + hd4 s)).take 4 := by
    rw [extract_list, show hd4 s + 9 - (hd4 s + 5) = 4 from by omega, Nat.add_comm 5]
  have h2 := e1.trans hb.symm
  exact ByteArray.ext (Array.toList_inj.1 (by simpa using h2))
theorem dz_ok {s : ByteArray} (h5 : 5 ≤ s.size) (hz : s[0].toNat ≠ 0) (hn : ¬ 1048576 < hd4 s) (hs : ¬ s.size < hd4 s + 9) (he : s.extract (hd4 s + 5) (hd4 s + 9) = ⟨(be (crc (s.extract 0 (hd4 s + 5)).data.toList) 4).toArray⟩) : decP s = (0, (s[0].toNat, (s.extract 5 (hd4 s + 5), hd4 s + 9))) := by
  have h := dp_ok (s := s) (first_num (by omega)) (head_num h5) (rawR_ok (m := hd4 s) (by omega)) (numR_ok (a := 5 + hd4 s) (n := 4) (by omega)) (fun e => hz e.2) rfl hn rfl ?_
  · rw [h, show 5 + hd4 s + 4 = hd4 s + 9 from by omega, Nat.add_comm 5 (hd4 s)]
  · rw [show 5 + hd4 s + 4 - 4 = hd4 s + 5 from by omega]
    have e1 : (s.extract (hd4 s + 5) (hd4 s + 9)).data.toList = (s.data.toList.drop (5 + hd4 s)).take 4 := by
      rw [extract_list, show hd4 s + 9 - (hd4 s + 5) = 4 from by omega, Nat.add_comm 5]
    rw [← e1, he]
    show num (be _ 4).toArray.toList = _
    rw [List.toList_toArray, num_be _ _ (crc_lt _)]
end Go.Proofs.Ytlnekfdamdfelaa.FrMath
