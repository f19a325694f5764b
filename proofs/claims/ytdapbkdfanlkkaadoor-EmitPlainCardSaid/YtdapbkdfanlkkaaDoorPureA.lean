/- Plain words: octal numbers, sums of headers, headers. Nothing of the program stands here. -/
namespace Go.Pan

/-- how many octal digits -/
def odig (n : Nat) : Nat := if n < 8 then 1 else odig (n / 8) + 1
  termination_by n
  decreasing_by omega
def ofits (n w : Int) : Bool := decide (0 ≤ n) && (decide (2 ≤ w) && decide ((odig n.toNat : Int) < w))
/-- k octal digits -/
def ofmt (n : Nat) : Nat → List UInt8
  | 0 => []
  | k + 1 => ofmt (n / 8) k ++ [(48 + n % 8).toUInt8]
theorem ofmt_length (n k : Nat) : (ofmt n k).length = k := by
  induction k generalizing n with
  | zero => rfl
  | succ k ih => simp [ofmt, ih]
theorem odig_pos (n : Nat) : 1 ≤ odig n := by
  unfold odig; split <;> omega
theorem odig_big {n : Nat} (h : ¬ n < 8) : odig n = odig (n / 8) + 1 := by
  rw [odig, if_neg h]
theorem odig_small {n : Nat} (h : n < 8) : odig n = 1 := by
  rw [odig, if_pos h]
theorem odig_le {n : Nat} : ∀ {k : Nat}, odig n ≤ k → n < 8 ^ k := by
  intro k
  induction k generalizing n with
  | zero => intro h; have := odig_pos n; omega
  | succ k ih =>
    intro h
    by_cases h8 : n < 8
    · rw [Nat.pow_succ]; have : 0 < 8 ^ k := Nat.pow_pos (by omega); omega
    · rw [odig_big h8] at h
      have := ih (n := n / 8) (by omega)
      rw [Nat.pow_succ]; omega
theorem odig_lt {n : Nat} : ∀ {k : Nat}, 1 ≤ k → n < 8 ^ k → odig n ≤ k := by
  intro k
  induction k generalizing n with
  | zero => omega
  | succ k ih =>
    intro _ h
    by_cases h8 : n < 8
    · rw [odig_small h8]; omega
    · rw [odig_big h8]
      rw [Nat.pow_succ] at h
      by_cases hk : k = 0
      · subst hk; omega
      · have := ih (n := n / 8) (by omega) (by omega)
        omega
/-- a header's sum -/
def sum8 : Nat → List UInt8 → Nat
  | _, [] => 0
  | i, c :: l => (if 148 ≤ i ∧ i < 156 then 32 else c.toNat) + sum8 (i + 1) l
theorem sum8_le (i : Nat) (l : List UInt8) : sum8 i l ≤ 255 * l.length := by
  induction l generalizing i with
  | nil => simp [sum8]
  | cons c l ih =>
    have := ih (i + 1)
    have hc := c.toNat_lt
    simp only [sum8, List.length_cons]
    split <;> omega
theorem sum8_append (i : Nat) (l m : List UInt8) : sum8 i (l ++ m) = sum8 i l + sum8 (i + l.length) m := by
  induction l generalizing i with
  | nil => simp [sum8]
  | cons c l ih =>
    simp only [List.cons_append, sum8, List.length_cons, ih]
    rw [show i + 1 + l.length = i + (l.length + 1) by omega]; omega
/-- a header that bears its sum -/
def seal8 (l : List UInt8) : List UInt8 := l.take 148 ++ (ofmt (sum8 0 l) 6 ++ [0, 32]) ++ l.drop 156

theorem ofmt_left (n : Nat) : ∀ t, ofmt n (t + 1) = (48 + n / 8 ^ t % 8).toUInt8 :: ofmt n t := by
  intro t
  induction t generalizing n with
  | zero => simp [ofmt]
  | succ t ih =>
    rw [ofmt, ih, ofmt, List.cons_append]
    congr 1
    rw [Nat.div_div_eq_div_mul, Nat.pow_succ, Nat.mul_comm]
/-- what fills so many up to a whole block -/
def padn (n : Nat) : Nat := (512 - n % 512) % 512
theorem sum8_take {l : List UInt8} {i : Nat} (h : i < l.length) : sum8 0 (l.take (i + 1)) = sum8 0 (l.take i) + (if 148 ≤ i ∧ i < 156 then 32 else l[i].toNat) := by
  rw [List.take_succ_eq_append_getElem h, sum8_append]
  simp [sum8, show min i l.length = i by omega]
end Go.Pan
