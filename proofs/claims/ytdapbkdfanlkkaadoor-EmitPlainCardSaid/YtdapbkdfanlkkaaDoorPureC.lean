/- Unlike entries have unlike headers: the plain law. -/
import Derived.Test.YtdapbkdfanlkkaaDoorPureB
set_option maxRecDepth 10000
set_option linter.unusedVariables false
set_option linter.unusedSimpArgs false
namespace Go.Proofs.YtdapbkdfanlkkaaDoor
open Go Go.Pan Go.RowKit

/-! ### numbers' texts -/
theorem dec_small {u : Nat} (h : u < 10) : Lib.decDigits u = [UInt8.ofNat (48 + u)] := by rw [Lib.decDigits, dif_pos h]
theorem dec_big {u : Nat} (h : ¬ u < 10) : Lib.decDigits u = Lib.decDigits (u / 10) ++ [UInt8.ofNat (48 + u % 10)] := by rw [Lib.decDigits, dif_neg h]
theorem dec_ne (u : Nat) : Lib.decDigits u ≠ [] := by
  by_cases h : u < 10
  · rw [dec_small h]; simp
  · rw [dec_big h]; simp
theorem ofNat_digit {a b : Nat} (ha : a < 10) (hb : b < 10) (h : UInt8.ofNat (48 + a) = UInt8.ofNat (48 + b)) : a = b := by
  have := congrArg UInt8.toNat h
  simp only [UInt8.toNat_ofNat'] at this
  omega
theorem dec_inj : ∀ (u v : Nat), Lib.decDigits u = Lib.decDigits v → u = v := by
  intro u
  induction u using Nat.strongRecOn with
  | _ u ih =>
    intro v h
    by_cases hu : u < 10
    · by_cases hv : v < 10
      · rw [dec_small hu, dec_small hv] at h
        exact ofNat_digit hu hv (List.cons.inj h).1
      · rw [dec_small hu, dec_big hv] at h
        have := congrArg List.length h
        have h2 := List.length_pos_iff.2 (dec_ne (v / 10))
        rw [List.length_append] at this
        simp only [List.length_cons, List.length_nil] at this
        omega
    · by_cases hv : v < 10
      · rw [dec_big hu, dec_small hv] at h
        have := congrArg List.length h
        have h2 := List.length_pos_iff.2 (dec_ne (u / 10))
        rw [List.length_append] at this
        simp only [List.length_cons, List.length_nil] at this
        omega
      · rw [dec_big hu, dec_big hv] at h
        obtain ⟨h1, h2⟩ := List.append_inj' h rfl
        have h3 := ih (u / 10) (by omega) (v / 10) h1
        have h4 := ofNat_digit (by omega) (by omega) (List.cons.inj h2).1
        omega
theorem dec_digit (u : Nat) : ∀ c ∈ Lib.decDigits u, 48 ≤ c.toNat ∧ c.toNat < 58 := by
  induction u using Nat.strongRecOn with
  | _ u ih =>
    intro c hc
    by_cases hu : u < 10
    · rw [dec_small hu] at hc
      simp only [List.mem_singleton] at hc
      subst hc
      simp only [UInt8.toNat_ofNat']
      omega
    · rw [dec_big hu, List.mem_append] at hc
      rcases hc with hc | hc
      · exact ih (u / 10) (by omega) c hc
      · simp only [List.mem_singleton] at hc
        subst hc
        simp only [UInt8.toNat_ofNat']
        omega
theorem itoa_list (n : Int) : (itoa n).data.toList = Lib.itoa n := rfl
theorem itoa_inj {n m : Int} (h : itoa n = itoa m) : n = m := by
  have h : Lib.itoa n = Lib.itoa m := by rw [← itoa_list, h, itoa_list]
  have hd : ∀ u v : Nat, ¬ 45 :: Lib.decDigits u = Lib.decDigits v := fun u v h => by
    have := dec_digit v 45 (by rw [← h]; simp)
    simp at this
  unfold Lib.itoa at h
  split at h
  · split at h
    · have := dec_inj _ _ (List.cons.inj h).2
      omega
    · exact absurd h (hd _ _)
  · split at h
    · exact absurd h.symm (hd _ _)
    · have := dec_inj _ _ h
      omega
theorem itoaN_list (n : Nat) : (itoa n).data.toList = Lib.decDigits n := by
  rw [itoa_list]
  unfold Lib.itoa
  rw [if_neg (by omega), Int.toNat_natCast]
theorem itoaN_size (n : Nat) : (itoa n).size = Lib.nDigits n := by
  have h := itoaN_list n
  have : (itoa n).size = (itoa n).data.toList.length := by rw [Array.length_toList]; rfl
  rw [this, h, Lib.decDigits_length]
theorem nDigits_mono : ∀ (v u : Nat), u ≤ v → Lib.nDigits u ≤ Lib.nDigits v := by
  intro v
  induction v using Nat.strongRecOn with
  | _ v ih =>
    intro u h
    by_cases hu : u < 10
    · rw [Lib.nDigits_small hu]; exact Lib.nDigits_pos v
    · rw [Lib.nDigits_big hu, Lib.nDigits_big (show ¬ v < 10 by omega)]
      have := ih (v / 10) (by omega) (u / 10) (by omega)
      omega
/-! ### records -/
def plenN (n : Nat) : Nat := n + if Lib.nDigits n < Lib.nDigits (n + Lib.nDigits n) then Lib.nDigits n + 1 else Lib.nDigits n
theorem plen_plenN (r : ByteArray × ByteArray) : plen r = plenN (r.1.size + r.2.size + 3) := by
  unfold plen plenN
  simp only [itoaN_size]
theorem plenN_lt {n m : Nat} (h : n < m) : plenN n < plenN m := by
  have h1 := nDigits_mono m n (by omega)
  have h2 := nDigits_mono (m + Lib.nDigits m) (n + Lib.nDigits n) (by omega)
  unfold plenN
  split <;> split <;> omega
theorem plenN_inj {n m : Nat} (h : plenN n = plenN m) : n = m := by
  rcases Nat.lt_trichotomy n m with h1 | h1 | h1
  · have := plenN_lt h1; omega
  · exact h1
  · have := plenN_lt h1; omega
theorem cut_at {c : UInt8} : ∀ {a b x y : List UInt8}, c ∉ a → c ∉ b → a ++ c :: x = b ++ c :: y → a = b ∧ x = y
  | [], [], x, y, _, _, h => ⟨rfl, (List.cons.inj h).2⟩
  | [], d :: b, x, y, _, hb, h => absurd (by rw [(List.cons.inj h).1]; simp) hb
  | d :: a, [], x, y, ha, _, h => absurd (by rw [← (List.cons.inj h).1]; simp) ha
  | d :: a, e :: b, x, y, ha, hb, h => by
    obtain ⟨h1, h2⟩ := List.cons.inj h
    obtain ⟨h3, h4⟩ := cut_at (fun h => ha (by simp [h])) (fun h => hb (by simp [h])) h2
    exact ⟨by rw [h1, h3], h4⟩
theorem pline_list (r : ByteArray × ByteArray) : (pline r).data.toList = Lib.decDigits (plen r) ++ 32 :: (r.1.data.toList ++ 61 :: (r.2.data.toList ++ [10])) := by
  simp only [pline, ByteArray.data_append, Array.toList_append, itoaN_list]
  simp only [List.append_assoc]
  rfl
theorem bytes_ext {s u : ByteArray} (h : s.data.toList = u.data.toList) : s = u := by
  obtain ⟨⟨x⟩⟩ := s
  obtain ⟨⟨y⟩⟩ := u
  simp only at h
  rw [h]
theorem size_list (s : ByteArray) : s.data.toList.length = s.size := Array.length_toList
theorem pline_inj {r q : ByteArray × ByteArray} {x y : List UInt8} (hr : 61 ∉ r.1.data.toList) (hq : 61 ∉ q.1.data.toList) (h : (pline r).data.toList ++ x = (pline q).data.toList ++ y) : r = q ∧ x = y := by
  have hsp : ∀ u, (32 : UInt8) ∉ Lib.decDigits u := fun u hu => by
    have := dec_digit u 32 hu
    simp at this
  rw [pline_list, pline_list] at h
  simp only [List.append_assoc, List.cons_append] at h
  obtain ⟨h1, h2⟩ := cut_at (hsp _) (hsp _) h
  obtain ⟨h3, h4⟩ := cut_at hr hq h2
  have h5 := dec_inj _ _ h1
  rw [plen_plenN, plen_plenN] at h5
  have h6 := plenN_inj h5
  have h7 := bytes_ext h3
  have h8 : r.2.data.toList.length = q.2.data.toList.length := by
    rw [size_list, size_list]
    rw [h7] at h6
    omega
  obtain ⟨h9, h10⟩ := List.append_inj h4 h8
  refine ⟨Prod.ext h7 (bytes_ext h9), ?_⟩
  simpa using h10
theorem paxs_cons_eq (r : ByteArray × ByteArray) (l : List (ByteArray × ByteArray)) : paxs (r :: l) = (pline r).data.toList ++ paxs l := rfl
theorem pline_ne (r : ByteArray × ByteArray) : (pline r).data.toList ≠ [] := by
  rw [pline_list]; simp
theorem paxs_inj : ∀ {l m : List (ByteArray × ByteArray)}, (∀ r ∈ l, 61 ∉ r.1.data.toList) → (∀ r ∈ m, 61 ∉ r.1.data.toList) → paxs l = paxs m → l = m
  | [], [], _, _, _ => rfl
  | [], q :: m, _, _, h => by
    rw [paxs_cons_eq] at h
    have := List.append_eq_nil_iff.1 h.symm
    exact absurd this.1 (pline_ne q)
  | r :: l, [], _, _, h => by
    rw [paxs_cons_eq] at h
    have := List.append_eq_nil_iff.1 h
    exact absurd this.1 (pline_ne r)
  | r :: l, q :: m, hl, hm, h => by
    rw [paxs_cons_eq, paxs_cons_eq] at h
    obtain ⟨h1, h2⟩ := pline_inj (hl r (by simp)) (hm q (by simp)) h
    rw [h1, paxs_inj (fun x hx => hl x (by simp [hx])) (fun x hx => hm x (by simp [hx])) h2]
/-! ### a header's fields -/
def seg (l : List UInt8) (off n : Nat) : List UInt8 := (l.drop off).take n
theorem seg_off {l m : List UInt8} {o off n : Nat} (hl : o + m.length ≤ l.length) (h : off + n ≤ o ∨ o + m.length ≤ off) : seg (put8 l o m) off n = seg l off n := by
  apply List.ext_getElem?
  intro i
  simp only [seg, put8, List.getElem?_take, List.getElem?_drop]
  split
  · rename_i hi
    rcases h with h | h
    · rw [List.append_assoc, List.getElem?_append_left (by simp; omega), List.getElem?_take, if_pos (by omega)]
    · rw [List.getElem?_append_right (by simp; omega), List.getElem?_drop]
      congr 1
      simp
      omega
  · rfl
theorem seg_at {l m : List UInt8} {o n : Nat} (hl : o + n ≤ l.length) (h : m.length ≤ n) : seg (put8 l o m) o n = m ++ seg l (o + m.length) (n - m.length) := by
  have h1 : (l.take o).length = o := by simp; omega
  unfold seg put8
  rw [List.append_assoc, List.drop_left' h1, List.take_append, List.take_of_length_le h]
theorem seg_zero {off n k : Nat} (h : off + n ≤ k) : seg (List.replicate k (0 : UInt8)) off n = List.replicate n 0 := by
  simp [seg]
  omega
theorem seg_seal {l : List UInt8} (hl : l.length = 512) {off n : Nat} (h : off + n ≤ 148 ∨ 156 ≤ off) : seg (seal8 l) off n = seg l off n := by
  apply List.ext_getElem?
  intro i
  simp only [seg, seal8, List.getElem?_take, List.getElem?_drop]
  split
  · rename_i hi
    have e8 : (ofmt (sum8 0 l) 6 ++ [0, 32]).length = 8 := by simp [ofmt_length]
    rcases h with h | h
    · rw [List.append_assoc, List.getElem?_append_left (by simp; omega), List.getElem?_take, if_pos (by omega)]
    · rw [List.getElem?_append_right (by rw [List.length_append, e8]; simp; omega), List.getElem?_drop, List.length_append, e8]
      congr 1
      simp
      omega
  · rfl
theorem strip0 : ∀ {a b : List UInt8} {n m : Nat}, 0 ∉ a → 0 ∉ b → a ++ List.replicate n 0 = b ++ List.replicate m 0 → a = b
  | [], [], _, _, _, _, _ => rfl
  | [], d :: b, n, m, _, hb, h => by
    cases n with
    | zero => simp at h
    | succ n =>
      rw [List.replicate_succ] at h
      exact absurd (by rw [← (List.cons.inj h).1]; simp) hb
  | d :: a, [], n, m, ha, _, h => by
    cases m with
    | zero => simp at h
    | succ m =>
      rw [List.replicate_succ] at h
      exact absurd (by rw [(List.cons.inj h).1]; simp) ha
  | d :: a, e :: b, n, m, ha, hb, h => by
    obtain ⟨h1, h2⟩ := List.cons.inj h
    rw [h1, strip0 (fun h => ha (by simp [h])) (fun h => hb (by simp [h])) h2]
theorem ofmt_inj : ∀ {k n m : Nat}, n < 8 ^ k → m < 8 ^ k → ofmt n k = ofmt m k → n = m
  | 0, n, m, hn, hm, _ => by simp at hn hm; omega
  | k + 1, n, m, hn, hm, h => by
    rw [ofmt, ofmt] at h
    obtain ⟨h1, h2⟩ := List.append_inj' h rfl
    have h3 := ofmt_inj (k := k) (by rw [Nat.pow_succ] at hn; omega) (by rw [Nat.pow_succ] at hm; omega) h1
    have h4 := congrArg UInt8.toNat (List.cons.inj h2).1
    simp only [Nat.toUInt8, UInt8.toNat_ofNat'] at h4
    omega
/-- What stands in a header's fields. -/
theorem chain_fields {L0 L1 L2 L3 L4 L5 L6 L7 L8 L9 L10 L11 L12 : List UInt8} {a1 a2 a3 a4 a5 b1 b2 b3 b4 b5 c1 g1 : List UInt8} (ha1 : a1.length ≤ 100) (ha2 : a2.length ≤ 100) (ha3 : a3.length ≤ 31) (ha4 : a4.length ≤ 31) (ha5 : a5.length ≤ 155) (hb1 : b1.length = 8) (hb2 : b2.length = 8) (hb3 : b3.length = 8) (hb4 : b4.length = 12) (hb5 : b5.length = 12) (hc1 : c1.length = 1) (hg1 : g1.length = 8) (e0 : L0 = List.replicate 512 0) (e1 : L1 = put8 L0 0 a1) (e2 : L2 = put8 L1 157 a2) (e3 : L3 = put8 L2 265 a3) (e4 : L4 = put8 L3 297 a4) (e5 : L5 = put8 L4 345 a5) (e6 : L6 = put8 L5 100 b1) (e7 : L7 = put8 L6 108 b2) (e8 : L8 = put8 L7 116 b3) (e9 : L9 = put8 L8 124 b4) (e10 : L10 = put8 L9 136 b5) (e11 : L11 = put8 L10 156 c1) (e12 : L12 = put8 L11 257 g1) :
    L12.length = 512 ∧ seg L12 0 100 = a1 ++ List.replicate (100 - a1.length) 0 ∧ seg L12 157 100 = a2 ++ List.replicate (100 - a2.length) 0 ∧ seg L12 265 32 = a3 ++ List.replicate (32 - a3.length) 0 ∧ seg L12 297 32 = a4 ++ List.replicate (32 - a4.length) 0 ∧ seg L12 345 155 = a5 ++ List.replicate (155 - a5.length) 0 ∧ seg L12 100 8 = b1 ∧ seg L12 108 8 = b2 ∧ seg L12 116 8 = b3 ∧ seg L12 124 12 = b4 ∧ seg L12 136 12 = b5 ∧ seg L12 156 1 = c1 := by
  have n0 : L0.length = 512 := by rw [e0]; exact List.length_replicate
  have n1 : L1.length = 512 := by rw [e1]; exact put8_512 n0 (by omega)
  have n2 : L2.length = 512 := by rw [e2]; exact put8_512 n1 (by omega)
  have n3 : L3.length = 512 := by rw [e3]; exact put8_512 n2 (by omega)
  have n4 : L4.length = 512 := by rw [e4]; exact put8_512 n3 (by omega)
  have n5 : L5.length = 512 := by rw [e5]; exact put8_512 n4 (by omega)
  have n6 : L6.length = 512 := by rw [e6]; exact put8_512 n5 (by omega)
  have n7 : L7.length = 512 := by rw [e7]; exact put8_512 n6 (by omega)
  have n8 : L8.length = 512 := by rw [e8]; exact put8_512 n7 (by omega)
  have n9 : L9.length = 512 := by rw [e9]; exact put8_512 n8 (by omega)
  have n10 : L10.length = 512 := by rw [e10]; exact put8_512 n9 (by omega)
  have n11 : L11.length = 512 := by rw [e11]; exact put8_512 n10 (by omega)
  have n12 : L12.length = 512 := by rw [e12]; exact put8_512 n11 (by omega)
  have z : ∀ {off n : Nat}, off + n ≤ 512 → seg L0 off n = List.replicate n 0 := fun h => by rw [e0]; exact seg_zero h
  have s1 : ∀ {off n : Nat}, (off + n ≤ 0 ∨ 0 + a1.length ≤ off) → seg L1 off n = seg L0 off n := fun h => by rw [e1]; exact seg_off (by omega) h
  have s2 : ∀ {off n : Nat}, (off + n ≤ 157 ∨ 157 + a2.length ≤ off) → seg L2 off n = seg L1 off n := fun h => by rw [e2]; exact seg_off (by omega) h
  have s3 : ∀ {off n : Nat}, (off + n ≤ 265 ∨ 265 + a3.length ≤ off) → seg L3 off n = seg L2 off n := fun h => by rw [e3]; exact seg_off (by omega) h
  have s4 : ∀ {off n : Nat}, (off + n ≤ 297 ∨ 297 + a4.length ≤ off) → seg L4 off n = seg L3 off n := fun h => by rw [e4]; exact seg_off (by omega) h
  have s5 : ∀ {off n : Nat}, (off + n ≤ 345 ∨ 345 + a5.length ≤ off) → seg L5 off n = seg L4 off n := fun h => by rw [e5]; exact seg_off (by omega) h
  have s6 : ∀ {off n : Nat}, (off + n ≤ 100 ∨ 100 + b1.length ≤ off) → seg L6 off n = seg L5 off n := fun h => by rw [e6]; exact seg_off (by omega) h
  have s7 : ∀ {off n : Nat}, (off + n ≤ 108 ∨ 108 + b2.length ≤ off) → seg L7 off n = seg L6 off n := fun h => by rw [e7]; exact seg_off (by omega) h
  have s8 : ∀ {off n : Nat}, (off + n ≤ 116 ∨ 116 + b3.length ≤ off) → seg L8 off n = seg L7 off n := fun h => by rw [e8]; exact seg_off (by omega) h
  have s9 : ∀ {off n : Nat}, (off + n ≤ 124 ∨ 124 + b4.length ≤ off) → seg L9 off n = seg L8 off n := fun h => by rw [e9]; exact seg_off (by omega) h
  have s10 : ∀ {off n : Nat}, (off + n ≤ 136 ∨ 136 + b5.length ≤ off) → seg L10 off n = seg L9 off n := fun h => by rw [e10]; exact seg_off (by omega) h
  have s11 : ∀ {off n : Nat}, (off + n ≤ 156 ∨ 156 + c1.length ≤ off) → seg L11 off n = seg L10 off n := fun h => by rw [e11]; exact seg_off (by omega) h
  have s12 : ∀ {off n : Nat}, (off + n ≤ 257 ∨ 257 + g1.length ≤ off) → seg L12 off n = seg L11 off n := fun h => by rw [e12]; exact seg_off (by omega) h
  have t1 : ∀ {n : Nat}, 0 + n ≤ 512 → a1.length ≤ n → seg L1 0 n = a1 ++ seg L0 (0 + a1.length) (n - a1.length) := fun h1 h2 => by rw [e1]; exact seg_at (by omega) h2
  have t2 : ∀ {n : Nat}, 157 + n ≤ 512 → a2.length ≤ n → seg L2 157 n = a2 ++ seg L1 (157 + a2.length) (n - a2.length) := fun h1 h2 => by rw [e2]; exact seg_at (by omega) h2
  have t3 : ∀ {n : Nat}, 265 + n ≤ 512 → a3.length ≤ n → seg L3 265 n = a3 ++ seg L2 (265 + a3.length) (n - a3.length) := fun h1 h2 => by rw [e3]; exact seg_at (by omega) h2
  have t4 : ∀ {n : Nat}, 297 + n ≤ 512 → a4.length ≤ n → seg L4 297 n = a4 ++ seg L3 (297 + a4.length) (n - a4.length) := fun h1 h2 => by rw [e4]; exact seg_at (by omega) h2
  have t5 : ∀ {n : Nat}, 345 + n ≤ 512 → a5.length ≤ n → seg L5 345 n = a5 ++ seg L4 (345 + a5.length) (n - a5.length) := fun h1 h2 => by rw [e5]; exact seg_at (by omega) h2
  have t6 : ∀ {n : Nat}, 100 + n ≤ 512 → b1.length ≤ n → seg L6 100 n = b1 ++ seg L5 (100 + b1.length) (n - b1.length) := fun h1 h2 => by rw [e6]; exact seg_at (by omega) h2
  have t7 : ∀ {n : Nat}, 108 + n ≤ 512 → b2.length ≤ n → seg L7 108 n = b2 ++ seg L6 (108 + b2.length) (n - b2.length) := fun h1 h2 => by rw [e7]; exact seg_at (by omega) h2
  have t8 : ∀ {n : Nat}, 116 + n ≤ 512 → b3.length ≤ n → seg L8 116 n = b3 ++ seg L7 (116 + b3.length) (n - b3.length) := fun h1 h2 => by rw [e8]; exact seg_at (by omega) h2
  have t9 : ∀ {n : Nat}, 124 + n ≤ 512 → b4.length ≤ n → seg L9 124 n = b4 ++ seg L8 (124 + b4.length) (n - b4.length) := fun h1 h2 => by rw [e9]; exact seg_at (by omega) h2
  have t10 : ∀ {n : Nat}, 136 + n ≤ 512 → b5.length ≤ n → seg L10 136 n = b5 ++ seg L9 (136 + b5.length) (n - b5.length) := fun h1 h2 => by rw [e10]; exact seg_at (by omega) h2
  have t11 : ∀ {n : Nat}, 156 + n ≤ 512 → c1.length ≤ n → seg L11 156 n = c1 ++ seg L10 (156 + c1.length) (n - c1.length) := fun h1 h2 => by rw [e11]; exact seg_at (by omega) h2
  have t12 : ∀ {n : Nat}, 257 + n ≤ 512 → g1.length ≤ n → seg L12 257 n = g1 ++ seg L11 (257 + g1.length) (n - g1.length) := fun h1 h2 => by rw [e12]; exact seg_at (by omega) h2
  refine ⟨n12, ?_, ?_, ?_, ?_, ?_, ?_, ?_, ?_, ?_, ?_, ?_⟩
  · rw [s12 (by omega), s11 (by omega), s10 (by omega), s9 (by omega), s8 (by omega), s7 (by omega), s6 (by omega), s5 (by omega), s4 (by omega), s3 (by omega), s2 (by omega), t1 (by omega) (by omega), z (by omega)]
  · rw [s12 (by omega), s11 (by omega), s10 (by omega), s9 (by omega), s8 (by omega), s7 (by omega), s6 (by omega), s5 (by omega), s4 (by omega), s3 (by omega), t2 (by omega) (by omega), s1 (by omega), z (by omega)]
  · rw [s12 (by omega), s11 (by omega), s10 (by omega), s9 (by omega), s8 (by omega), s7 (by omega), s6 (by omega), s5 (by omega), s4 (by omega), t3 (by omega) (by omega), s2 (by omega), s1 (by omega), z (by omega)]
  · rw [s12 (by omega), s11 (by omega), s10 (by omega), s9 (by omega), s8 (by omega), s7 (by omega), s6 (by omega), s5 (by omega), t4 (by omega) (by omega), s3 (by omega), s2 (by omega), s1 (by omega), z (by omega)]
  · rw [s12 (by omega), s11 (by omega), s10 (by omega), s9 (by omega), s8 (by omega), s7 (by omega), s6 (by omega), t5 (by omega) (by omega), s4 (by omega), s3 (by omega), s2 (by omega), s1 (by omega), z (by omega)]
  · rw [s12 (by omega), s11 (by omega), s10 (by omega), s9 (by omega), s8 (by omega), s7 (by omega), t6 (by omega) (by omega), s5 (by omega), s4 (by omega), s3 (by omega), s2 (by omega), s1 (by omega), z (by omega), show 8 - b1.length = 0 by omega]; simp
  · rw [s12 (by omega), s11 (by omega), s10 (by omega), s9 (by omega), s8 (by omega), t7 (by omega) (by omega), s6 (by omega), s5 (by omega), s4 (by omega), s3 (by omega), s2 (by omega), s1 (by omega), z (by omega), show 8 - b2.length = 0 by omega]; simp
  · rw [s12 (by omega), s11 (by omega), s10 (by omega), s9 (by omega), t8 (by omega) (by omega), s7 (by omega), s6 (by omega), s5 (by omega), s4 (by omega), s3 (by omega), s2 (by omega), s1 (by omega), z (by omega), show 8 - b3.length = 0 by omega]; simp
  · rw [s12 (by omega), s11 (by omega), s10 (by omega), t9 (by omega) (by omega), s8 (by omega), s7 (by omega), s6 (by omega), s5 (by omega), s4 (by omega), s3 (by omega), s2 (by omega), s1 (by omega), z (by omega), show 12 - b4.length = 0 by omega]; simp
  · rw [s12 (by omega), s11 (by omega), t10 (by omega) (by omega), s9 (by omega), s8 (by omega), s7 (by omega), s6 (by omega), s5 (by omega), s4 (by omega), s3 (by omega), s2 (by omega), s1 (by omega), z (by omega), show 12 - b5.length = 0 by omega]; simp
  · rw [s12 (by omega), t11 (by omega) (by omega), s10 (by omega), s9 (by omega), s8 (by omega), s7 (by omega), s6 (by omega), s5 (by omega), s4 (by omega), s3 (by omega), s2 (by omega), s1 (by omega), z (by omega), show 1 - c1.length = 0 by omega]; simp
theorem hblock_fields {name link user group pre : ByteArray} {mode uid gid size mtime : Nat} {ty : UInt8} (z1 : name.size ≤ 100) (z2 : link.size ≤ 100) (z3 : user.size ≤ 31) (z4 : group.size ≤ 31) (z5 : pre.size ≤ 155) {L : List UInt8} (hL : L = hblock name link user group pre mode uid gid size mtime ty) :
    L.length = 512 ∧ seg L 0 100 = name.data.toList ++ List.replicate (100 - name.data.toList.length) 0 ∧ seg L 157 100 = link.data.toList ++ List.replicate (100 - link.data.toList.length) 0 ∧ seg L 265 32 = user.data.toList ++ List.replicate (32 - user.data.toList.length) 0 ∧ seg L 297 32 = group.data.toList ++ List.replicate (32 - group.data.toList.length) 0 ∧ seg L 345 155 = pre.data.toList ++ List.replicate (155 - pre.data.toList.length) 0 ∧
      seg L 100 8 = ofmt mode 7 ++ [0] ∧ seg L 108 8 = ofmt uid 7 ++ [0] ∧ seg L 116 8 = ofmt gid 7 ++ [0] ∧ seg L 124 12 = ofmt size 11 ++ [0] ∧ seg L 136 12 = ofmt mtime 11 ++ [0] ∧ seg L 156 1 = [ty] := by
  unfold hblock at hL
  generalize e0 : List.replicate 512 (0 : UInt8) = L0 at hL
  generalize e1 : put8 L0 0 name.data.toList = L1 at hL
  generalize e2 : put8 L1 157 link.data.toList = L2 at hL
  generalize e3 : put8 L2 265 user.data.toList = L3 at hL
  generalize e4 : put8 L3 297 group.data.toList = L4 at hL
  generalize e5 : put8 L4 345 pre.data.toList = L5 at hL
  generalize e6 : put8 L5 100 (ofmt mode 7 ++ [0]) = L6 at hL
  generalize e7 : put8 L6 108 (ofmt uid 7 ++ [0]) = L7 at hL
  generalize e8 : put8 L7 116 (ofmt gid 7 ++ [0]) = L8 at hL
  generalize e9 : put8 L8 124 (ofmt size 11 ++ [0]) = L9 at hL
  generalize e10 : put8 L9 136 (ofmt mtime 11 ++ [0]) = L10 at hL
  generalize e11 : put8 L10 156 [ty] = L11 at hL
  have g8 : ([117, 115, 116, 97, 114, 0, 48, 48] : List UInt8).length = 8 := rfl
  have c1 : ([ty] : List UInt8).length = 1 := rfl
  exact @chain_fields L0 L1 L2 L3 L4 L5 L6 L7 L8 L9 L10 L11 L name.data.toList link.data.toList user.data.toList group.data.toList pre.data.toList (ofmt mode 7 ++ [0]) (ofmt uid 7 ++ [0]) (ofmt gid 7 ++ [0]) (ofmt size 11 ++ [0]) (ofmt mtime 11 ++ [0]) [ty] [117, 115, 116, 97, 114, 0, 48, 48] (by rw [size_list]; exact z1) (by rw [size_list]; exact z2) (by rw [size_list]; exact z3) (by rw [size_list]; exact z4) (by rw [size_list]; exact z5)
    (by rw [List.length_append, ofmt_length]; rfl) (by rw [List.length_append, ofmt_length]; rfl) (by rw [List.length_append, ofmt_length]; rfl) (by rw [List.length_append, ofmt_length]; rfl) (by rw [List.length_append, ofmt_length]; rfl) c1 g8 e0.symm e1.symm e2.symm e3.symm e4.symm e5.symm e6.symm e7.symm e8.symm e9.symm e10.symm e11.symm hL
/-- The same of a header that bears its sum. -/
theorem sealed_fields {name link user group pre : ByteArray} {mode uid gid size mtime : Nat} {ty : UInt8} (z1 : name.size ≤ 100) (z2 : link.size ≤ 100) (z3 : user.size ≤ 31) (z4 : group.size ≤ 31) (z5 : pre.size ≤ 155) {L : List UInt8} (hL : L = seal8 (hblock name link user group pre mode uid gid size mtime ty)) :
    seg L 0 100 = name.data.toList ++ List.replicate (100 - name.data.toList.length) 0 ∧ seg L 157 100 = link.data.toList ++ List.replicate (100 - link.data.toList.length) 0 ∧ seg L 265 32 = user.data.toList ++ List.replicate (32 - user.data.toList.length) 0 ∧ seg L 297 32 = group.data.toList ++ List.replicate (32 - group.data.toList.length) 0 ∧ seg L 345 155 = pre.data.toList ++ List.replicate (155 - pre.data.toList.length) 0 ∧
      seg L 100 8 = ofmt mode 7 ++ [0] ∧ seg L 108 8 = ofmt uid 7 ++ [0] ∧ seg L 116 8 = ofmt gid 7 ++ [0] ∧ seg L 124 12 = ofmt size 11 ++ [0] ∧ seg L 136 12 = ofmt mtime 11 ++ [0] ∧ seg L 156 1 = [ty] := by
  generalize hM : hblock name link user group pre mode uid gid size mtime ty = M at hL
  obtain ⟨h0, h1, h2, h3, h4, h5, h6, h7, h8, h9, h10, h11⟩ := hblock_fields z1 z2 z3 z4 z5 hM.symm
  subst hL
  exact ⟨(seg_seal h0 (by decide)).trans h1, (seg_seal h0 (by decide)).trans h2, (seg_seal h0 (by decide)).trans h3, (seg_seal h0 (by decide)).trans h4, (seg_seal h0 (by decide)).trans h5, (seg_seal h0 (by decide)).trans h6, (seg_seal h0 (by decide)).trans h7, (seg_seal h0 (by decide)).trans h8, (seg_seal h0 (by decide)).trans h9, (seg_seal h0 (by decide)).trans h10, (seg_seal h0 (by decide)).trans h11⟩
end Go.Proofs.YtdapbkdfanlkkaaDoor
