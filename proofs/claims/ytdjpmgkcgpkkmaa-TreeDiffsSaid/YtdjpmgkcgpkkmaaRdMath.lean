/- Plain law of layer 2: what a reader answers, no program in sight. -/
import Derived.Test.YtdjpmgkcgpkkmaaPackMath
set_option linter.unusedVariables false
set_option linter.unusedSimpArgs false
namespace Go.Proofs.Ytdjpmgkcgpkkmaa.PackMath

/-- What a reading leaves: its error, its place. A number or a text ahead of it. -/
def rawR (s : ByteArray) (at_ e : Nat) (n : Int) : (ByteArray × Nat) × (Nat × Nat) :=
  if e ≠ 0 then ((⟨#[]⟩, e), (at_, e)) else if n < 0 then ((⟨#[]⟩, 1), (at_, 1)) else if (s.size : Int) - at_ < n then ((⟨#[]⟩, 2), (at_, 2))
  else ((s.extract at_ (at_ + n.toNat), 0), (at_ + n.toNat, 0))

theorem rawR_err {s : ByteArray} {a e : Nat} {n : Int} (h : e ≠ 0) : rawR s a e n = ((⟨#[]⟩, e), (a, e)) := by unfold rawR; rw [if_pos h]
theorem rawR_neg {s : ByteArray} {a : Nat} {n : Int} (h : n < 0) : rawR s a 0 n = ((⟨#[]⟩, 1), (a, 1)) := by unfold rawR; rw [if_neg (by simp), if_pos h]
theorem rawR_short {s : ByteArray} {a : Nat} {n : Int} (h : ¬ n < 0) (h2 : (s.size : Int) - a < n) : rawR s a 0 n = ((⟨#[]⟩, 2), (a, 2)) := by unfold rawR; rw [if_neg (by simp), if_neg h, if_pos h2]
theorem rawR_ok {s : ByteArray} {a m : Nat} (h : a + m ≤ s.size) : rawR s a 0 m = ((s.extract a (a + m), 0), (a + m, 0)) := by
  unfold rawR; rw [if_neg (by simp), if_neg (by omega), if_neg (by omega)]; simp

/-- The number of some bytes, the greatest first. -/
def num (l : List UInt8) : Nat := l.foldl (fun v b => v * 256 + b.toNat) 0

def numR (s : ByteArray) (at_ e n : Nat) : (Nat × Nat) × (Nat × Nat) :=
  if e ≠ 0 then ((0, e), (at_, e)) else if s.size - at_ < n then ((0, 2), (at_, 2))
  else ((num (s.data.toList.drop at_ |>.take n), 0), (at_ + n, 0))

def shortGo (at_ : Nat) : List UInt8 → Nat → Nat → (Nat × Nat) × (Nat × Nat)
  | [], _, _ => ((0, 2), (at_, 2))
  | c :: r, i, v => if i = 9 ∧ 1 < c.toNat ∨ 0 < i ∧ c.toNat = 0 then ((0, 3), (at_, 3))
    else if c.toNat < 128 then ((v + c.toNat % 128 * 2 ^ (7 * i), 0), (at_ + i + 1, 0)) else shortGo at_ r (i + 1) (v + c.toNat % 128 * 2 ^ (7 * i))

def shortR (s : ByteArray) (at_ e : Nat) : (Nat × Nat) × (Nat × Nat) :=
  if e ≠ 0 then ((0, e), (at_, e)) else shortGo at_ (s.data.toList.drop at_) 0 0

def textR (s : ByteArray) (at_ e : Nat) (most : Int) : (ByteArray × Nat) × (Nat × Nat) :=
  let R := shortR s at_ e
  if R.1.2 ≠ 0 then ((⟨#[]⟩, R.1.2), R.2) else if most.toNat < R.1.1 then ((⟨#[]⟩, 5), (at_, 5)) else if s.size - R.2.1 < R.1.1 then ((⟨#[]⟩, 2), (at_, 2))
  else rawR s R.2.1 0 R.1.1

end Go.Proofs.Ytdjpmgkcgpkkmaa.PackMath
