/- Plain law of layer 13: filters of the same paths are the same; more paths take no yes away. An append of whatever slice. -/
import Derived.Test.YtplegohebfajlaaBlW11
import Derived.Maps.AppendAt
import Derived.Laws.AppendOwnNone
set_option linter.unusedVariables false
set_option linter.unusedSimpArgs false
namespace Go.Proofs.Ytplegohebfajlaa
open Go.RowKit BlMath Go.Maps

theorem nodup_fold : ∀ (l acc : List ByteArray), acc.Nodup → (l.foldl addP acc).Nodup
  | [], _, h => h
  | x :: r, acc, h => by
    rw [List.foldl_cons]
    refine nodup_fold r _ ?_
    by_cases hx : x ∈ acc
    · rw [addP_in hx]; exact h
    · rw [addP_out hx]
      refine List.nodup_append.2 ⟨h, by simp, fun a ha b hb e => ?_⟩
      rw [List.mem_singleton] at hb
      subst hb; subst e
      exact hx ha
theorem uniq_nodup (l : List ByteArray) : (uniq l).Nodup := nodup_fold l [] (by simp)
theorem uniq_congr {l m : List ByteArray} (h : ∀ p, p ∈ l ↔ p ∈ m) : (uniq l).length = (uniq m).length :=
  ((List.perm_ext_iff_of_nodup (uniq_nodup l) (uniq_nodup m)).2 (fun a => by rw [mem_uniq, mem_uniq]; exact h a)).length_eq
theorem makeR_congr {H P M : Int} {S : Nat} {l m : List ByteArray} (h : ∀ p, p ∈ l ↔ p ∈ m) : makeR H P M S l = makeR H P M S m := by
  unfold makeR
  rw [uniq_congr h]
  have e : fbits H.toNat P.toNat S l = fbits H.toNat P.toNat S m := by
    unfold fbits
    rw [uniq_congr h, bytesB_congr _ (fun i => setF_congr h i)]
  rw [e]
/-- A good filter's error and state. -/
theorem makeR_good {H P M : Int} {S : Nat} {l : List ByteArray} (hc : chkR H P M = 0) : ∃ st b, makeR H P M S l = (0, (st, b)) ∧ (st = 1 ∨ (st = 2 ∧ M < (uniq l).length)) := by
  by_cases hb : M < (uniq l).length
  · exact ⟨2, _, mk_large hc hb, .inr ⟨rfl, hb⟩⟩
  · exact ⟨1, _, mk_small hc hb, .inl rfl⟩
theorem byte_sub {f g : Nat → Bool} (h : ∀ i, f i = true → g i = true) (j : Nat) : byteB f j &&& (255 - byteB g j) = 0 := by
  apply Nat.eq_of_testBit_eq
  intro i
  rw [Nat.testBit_and, Nat.zero_testBit]
  have hg := byteB_lt g j
  have e : (255 - byteB g j).testBit i = (decide (i < 8) && !(byteB g j).testBit i) := by
    rw [show (255 : Nat) - byteB g j = 2 ^ 8 - (byteB g j + 1) from by omega, Nat.testBit_two_pow_sub_succ hg]
  rw [e]
  unfold byteB
  rw [numB_bit, numB_bit]
  by_cases hi : i < 8
  · simp only [hi, decide_true, Bool.true_and]
    cases hf : f (8 * j + i) with
    | false => simp
    | true => rw [h _ hf]; simp
  · simp [hi]
/-- The bits of fewer paths are among those of more. -/
def SubB (b c : ByteArray) : Prop := ∀ j (h : j < b.size) (k : j < c.size), bits .andNot .u8 ((b[j].toNat : Nat) : Int) ((c[j].toNat : Nat) : Int) = 0
theorem sub_bytes {f g : Nat → Bool} (n : Nat) (h : ∀ i, f i = true → g i = true) : SubB ⟨(bytesB f n).toArray⟩ ⟨(bytesB g n).toArray⟩ := by
  intro j h1 h2
  have hn : j < n := by
    have : (ByteArray.mk (bytesB f n).toArray).size = n := by show (bytesB f n).toArray.size = n; rw [List.size_toArray, bytesB_length]
    omega
  have e1 : ((ByteArray.mk (bytesB f n).toArray)[j]).toNat = byteB f j := by
    have hl := byteB_lt f j
    show ((bytesB f n).toArray[j]).toNat = byteB f j
    simp [bytesB]
    omega
  have e2 : ((ByteArray.mk (bytesB g n).toArray)[j]).toNat = byteB g j := by
    have hl := byteB_lt g j
    show ((bytesB g n).toArray[j]).toNat = byteB g j
    simp [bytesB]
    omega
  rw [e1, e2, u8_andNot_nat _ _ (byteB_lt f j) (byteB_lt g j), byte_sub h]
  rfl
theorem make_sub {H P M : Int} {S : Nat} {l m : List ByteArray} {st : Nat} {b c : ByteArray} (h : ∀ p ∈ l, p ∈ m) (h1 : makeR H P M S l = (0, (st, b))) (h2 : makeR H P M S m = (0, (st, c))) (hs : b.size = c.size) : SubB b c := by
  by_cases hc : chkR H P M = 0
  · by_cases hb : M < (uniq l).length
    · rw [mk_large hc hb] at h1
      simp only [Prod.mk.injEq] at h1
      obtain ⟨_, _, rfl⟩ := h1
      intro j hj
      exact absurd hj (by simp [ByteArray.size])
    · rw [mk_small hc hb] at h1
      simp only [Prod.mk.injEq] at h1
      obtain ⟨_, rfl, rfl⟩ := h1
      by_cases hb2 : M < (uniq m).length
      · rw [mk_large hc hb2] at h2
        simp at h2
      · rw [mk_small hc hb2] at h2
        simp only [Prod.mk.injEq] at h2
        obtain ⟨_, _, rfl⟩ := h2
        rw [fbits_len, fbits_len] at hs
        unfold fbits
        rw [hs]
        refine sub_bytes _ (fun i hi => ?_)
        obtain ⟨p, hp, hy⟩ := setF_iff.1 hi
        exact setF_iff.2 ⟨p, h p hp, hy⟩
  · rw [mk_bad hc] at h1
    simp at h1

/-- An append of whatever slice (nil too) to a row that the call owns. -/
theorem wpList_append_src {P : Program} (w : World) {ops : Array Oper} {rest : List Oper} {o : Oper} {a : Act} {Q : Exit → Act → World → Prop} (hgd : o.guard = none) (s x : Operand) (t : TypeId)
    (ho : o.op = .call { callee := .builtin .append, args := #[s, x], argTypes := #[t, t] })
    (base : Nat) (e : TypeId) (i : TypeInfo) (z : Value) (bytes : Nat) (ht : P.underlying t = some (.slice e)) (hi : P.info? e = some i) (hz : i.zero = some z)
    (hsize : i.size = 1) (hby : i.bytes = bytes) (hzs : z.cells.size = 1)
    (v : Value) (n : Nat) (xs : List Value) (hs : a.eval s = v) (hown : w.ownsRow base e 1 v n xs)
    (ao : Option Addr) (m c : Nat) (news : List Value) (hx : a.eval x = .slice ao m c) (hl : news.length = m) (hnone : ao = none → m = 0 ∧ c = 0) (hc : ∀ ad, ao = some ad → ∀ j u, news[j]? = some u → w.cell? (ad.add j) = some u)
    (h1 : ∀ u ∈ news, u.oneCell' = true) (h63 : n + m ≤ maxLen) (hbytes : (n + m) * bytes ≤ 140737488355328) (hbase : base ≤ w.heap.size)
    (h : ∀ v' w', w'.ownsRow base e 1 v' (n + m) (xs ++ news) → w.grownBy w' v.ownBlock → (v'.ownBlock = v.ownBlock ∨ v'.ownBlock = some w.heap.size) → wpList P ops Q rest (a.put o.dst v') w') :
    wpList P ops Q (o :: rest) a w := by
  cases ao with
  | some ad => exact wpList_append_own_at w hgd s x t ho base e i z 1 bytes ht hi hz hsize hby hzs (by decide) v n xs hs hown ad m c news hx (by omega) (hc ad rfl) h1 h63 hbytes hbase (fun v' w' k1 k2 _ k4 => h v' w' k1 k2 k4)
  | none =>
    obtain ⟨rfl, rfl⟩ := hnone rfl
    have hn : news = [] := List.eq_nil_of_length_eq_zero hl
    subst hn
    exact wpList_append_own_none hgd s x t ho base e i 1 ht hi v n xs hs hown hx (h v w (by simpa using hown) (World.grownBy.refl w _) (.inl rfl))
end Go.Proofs.Ytplegohebfajlaa
