/- The document's reading of a header: texts and numbers. -/
import Derived.Test.YtdapbkdfanlkkaaDoorWalkM
import Derived.Test.YtdapbkdfanlkkaaDoorPureD
set_option maxRecDepth 10000
set_option linter.unusedVariables false
set_option linter.unusedSimpArgs false
namespace Go.Proofs.YtdapbkdfanlkkaaDoor
open Go Go.Pan Go.RowKit

/-- A text up to its first byte 0. -/
def textp (s : ByteArray) : ByteArray := ⟨(s.data.toList.takeWhile fun c => c != 0).toArray⟩
theorem list_at {s : ByteArray} {i : Nat} {c : UInt8} (h : s[i]? = some c) : s.data.toList[i]? = some c := by rw [← h]; simp [getElem?_def, ByteArray.getElem_eq_getElem_data]
theorem at_list {s : ByteArray} {i : Nat} {c : UInt8} (h : s.data.toList[i]? = some c) : s[i]? = some c := by rw [← h]; simp [getElem?_def, ByteArray.getElem_eq_getElem_data]
theorem takeWhile_at {l : List UInt8} {i : Nat} (h0 : l[i]? = some 0) (hlt : ∀ j c, j < i → l[j]? = some c → c ≠ 0) : l.takeWhile (fun c => c != 0) = l.take i := by
  induction l generalizing i with
  | nil => simp at h0
  | cons x l ih =>
    cases i with
    | zero =>
      simp only [List.getElem?_cons_zero, Option.some.injEq] at h0
      subst h0; simp
    | succ i =>
      have hx : x ≠ 0 := hlt 0 x (by omega) rfl
      rw [List.takeWhile_cons, if_pos (by simp [hx]), List.take_succ_cons, ih (by simpa using h0) (fun j c hj hc => hlt (j + 1) c (by omega) (by simpa using hc))]
theorem takeWhile_all {l : List UInt8} (h : ∀ (j : Nat) c, l[j]? = some c → c ≠ 0) : l.takeWhile (fun c => c != 0) = l := by
  induction l with
  | nil => rfl
  | cons x l ih =>
    have hx : x ≠ 0 := h 0 x rfl
    rw [List.takeWhile_cons, if_pos (by simp [hx]), ih (fun j c hc => h (j + 1) c (by simpa using hc))]
theorem ref_text (s : ByteArray) (hsz : s.size ≤ 1000000) (w0 : World) (hs : Hs) : CallsF Tryd.prog 18 [.string s] w0 hs (Same (.string (textp s)) hs) := by
  refine CallsF.enter [(0, _)] rfl Tryd.func18 rfl rfl rfl rfl ?_
  (repeat refine WC.seq ?_); refine WC.region ?_
  refine WL.pures rfl rfl rfl rfl rfl ?_
  refine WL.goes (fun _ _ => rfl) ?_
  (repeat refine WC.seq ?_); refine WC.region ?_
  refine WL.pures rfl rfl rfl rfl rfl ?_
  refine WL.goes (fun _ _ => rfl) ?_
  (repeat refine WC.seq ?_); refine WC.block ?_
  refine WC.loopS (σ := Nat) (fun i => [(0, .string s), (3, .int .i64 i)]) (fun _ => hs) (fun i => i ≤ s.size ∧ ∀ j c, j < i → s.data.toList[j]? = some c → c ≠ 0) (fun i => s.size - i) 0 ⟨rfl, rfl, trivial⟩ (.refl _) ⟨Nat.zero_le _, fun j c hj _ => absurd hj (by omega)⟩ ?_
  rintro i ⟨hi, hlt⟩
  (repeat refine WC.seq ?_); refine WC.region ?_
  refine WL.pures rfl rfl rfl rfl rfl ?_
  refine WL.lens' rfl rfl rfl rfl rfl rfl ?_
  refine WL.pures rfl rfl rfl rfl rfl ?_
  refine WL.goes (fun _ _ => rfl) ?_
  (repeat refine WC.seq ?_); refine WC.ite rfl (fun c => ?_) (fun c => ?_)
  · have hil : i < s.size := by omega
    have hch : s[i]? = some (s[i]'hil) := by simp [hil]
    have hch' := list_at hch
    generalize s[i]'hil = ch at hch hch'
    refine WC.goes (fun _ _ => rfl) ?_
    (repeat refine WC.seq ?_); refine WC.block ?_
    (repeat refine WC.seq ?_); refine WC.region ?_
    refine WL.pures rfl rfl rfl rfl rfl ?_
    refine WL.char' rfl rfl rfl (by omega) hch rfl rfl ?_
    refine WL.pures rfl rfl rfl rfl rfl ?_
    refine WL.goes (fun _ _ => rfl) ?_
    (repeat refine WC.seq ?_); refine WC.ite rfl (fun c2 => ?_) (fun c2 => ?_)
    · have h0 : ch = 0 := UInt8.toNat_inj.1 (by simpa using c2)
      subst h0
      (repeat refine WC.seq ?_); refine WC.region ?_
      refine WL.pures rfl rfl rfl rfl rfl ?_
      refine WL.cutS' (l := 0) (h := i) rfl rfl rfl rfl (by decide) (by omega) (by omega) rfl rfl ?_
      refine WL.pures rfl rfl rfl rfl rfl ?_
      refine WL.goes (fun _ _ => rfl) ?_
      refine WC.doneS (fun _ _ => rfl) rfl (.refl _) ⟨congrArg Value.string (bytes_ext ?_), rfl⟩
      rw [ByteArray.data_extract, Array.toList_extract, List.extract_eq_take_drop]
      show List.take (i - 0) (List.drop 0 s.data.toList) = s.data.toList.takeWhile _
      rw [takeWhile_at hch' hlt]; rfl
    · have h0 : ch ≠ 0 := fun h => c2 (by subst h; rfl)
      refine WC.goes (fun _ _ => rfl) ?_
      (repeat refine WC.seq ?_); refine WC.region ?_
      refine WL.pures rfl rfl rfl rfl rfl ?_
      refine WL.arith' rfl rfl (binV_i64 rfl (by omega)) rfl rfl ?_
      refine WL.pures rfl rfl rfl rfl rfl ?_
      refine WL.again (i + 1) (fun _ _ => rfl) ⟨rfl, rfl, trivial⟩ (.refl _) ⟨hil, fun j c hj hc => ?_⟩ (by omega)
      rcases Nat.lt_or_ge j i with h | h
      · exact hlt j c h hc
      · obtain rfl : j = i := by omega
        rw [hch'] at hc
        exact Option.some.inj hc ▸ h0
  · obtain rfl : i = s.size := by omega
    refine WC.exits (fun _ _ => rfl) ?_
    (repeat refine WC.seq ?_); refine WC.region ?_
    refine WL.pures rfl rfl rfl rfl rfl ?_
    refine WL.goes (fun _ _ => rfl) ?_
    refine WC.doneS (fun _ _ => rfl) rfl (.refl _) ⟨congrArg Value.string (bytes_ext ?_), rfl⟩
    show s.data.toList = s.data.toList.takeWhile _
    rw [takeWhile_all]
    intro j c hc
    have := (List.getElem?_eq_some_iff.1 hc).1
    rw [size_list] at this
    exact hlt j c this hc
theorem tw_mem {x : UInt8} : ∀ {l : List UInt8}, x ∈ l.takeWhile (fun c => c != 0) → x ≠ 0
  | [], h => by simp at h
  | y :: l, h => by
    rw [List.takeWhile_cons] at h
    split at h
    · rename_i hy
      rcases List.mem_cons.1 h with rfl | h
      · simpa using hy
      · exact tw_mem h
    · simp at h
theorem textp_eq {s : ByteArray} : textp s = s ↔ nul s = false := by
  constructor
  · intro h
    cases hn : nul s with
    | false => rfl
    | true =>
      have h1 := congrArg (fun x : ByteArray => x.data.toList) h
      simp only [textp] at h1
      have h2 := nul_iff.1 hn
      rw [← h1] at h2
      exact absurd rfl (tw_mem h2)
  · intro h
    refine bytes_ext ?_
    show s.data.toList.takeWhile _ = s.data.toList
    exact takeWhile_all fun j c hc h0 => no0 h (by subst h0; exact List.mem_of_getElem? hc)

/-! ### octal numbers -/
/-- k octal digits of n, and what follows a number. -/
def numf (s : ByteArray) (n k : Nat) : Prop := 1 ≤ k ∧ k ≤ 11 ∧ n < 8 ^ k ∧ (s.data.toList = ofmt n k ++ [0] ∨ s.data.toList = ofmt n k ++ [0, 32])
theorem ofmt_get : ∀ (k n i : Nat), i < k → (ofmt n k)[i]? = some (48 + n / 8 ^ (k - 1 - i) % 8).toUInt8
  | k + 1, n, 0, _ => by rw [ofmt_left]; rfl
  | k + 1, n, i + 1, h => by
    rw [ofmt_left, List.getElem?_cons_succ, ofmt_get k n i (by omega)]
    rw [show k + 1 - 1 - (i + 1) = k - 1 - i by omega]
theorem numf_digit {s : ByteArray} {n k : Nat} (h : numf s n k) {i : Nat} (hi : i < k) : s[i]? = some (48 + n / 8 ^ (k - 1 - i) % 8).toUInt8 := by
  obtain ⟨_, _, _, h | h⟩ := h <;> (apply at_list; rw [h, List.getElem?_append_left (by rw [ofmt_length]; exact hi)]; exact ofmt_get k n i hi)
theorem numf_end {s : ByteArray} {n k : Nat} (h : numf s n k) : s[k]? = some 0 := by
  obtain ⟨_, _, _, h | h⟩ := h <;> (apply at_list; rw [h, List.getElem?_append_right (by rw [ofmt_length]; exact Nat.le_refl _), ofmt_length, Nat.sub_self]; rfl)
theorem numf_size {s : ByteArray} {n k : Nat} (h : numf s n k) : s.size = k + 1 ∨ s.size = k + 2 := by
  obtain ⟨_, _, _, h | h⟩ := h
  · left; rw [← size_list, h]; simp [ofmt_length]
  · right; rw [← size_list, h]; simp [ofmt_length]
theorem numf_last {s : ByteArray} {n k : Nat} (h : numf s n k) (hs : s.size = k + 2) : s[k + 1]? = some 32 := by
  obtain ⟨_, _, _, h | h⟩ := h
  · rw [← size_list, h] at hs; simp [ofmt_length] at hs
  · apply at_list; rw [h, List.getElem?_append_right (by rw [ofmt_length]; omega), ofmt_length, show k + 1 - k = 1 by omega]; rfl
theorem digit_nat (m : Nat) : ((48 + m % 8).toUInt8.toNat : Int) = 48 + ((m % 8 : Nat) : Int) := by
  rw [Nat.toUInt8, UInt8.toNat_ofNat']
  omega
set_option maxHeartbeats 1000000 in
theorem ref_Parse (s : ByteArray) (n k : Nat) (hnf : numf s n k) (w0 : World) (hs : Hs) : CallsF Tryd.prog 20 [.string s] w0 hs (Same (.tuple #[.int .i64 n, .int .i64 0]) hs) := by
  obtain ⟨hk1, hk2, hn, _⟩ := id hnf
  have hsz := numf_size hnf
  have hdig := fun {i : Nat} (hi : i < k) => numf_digit hnf hi
  have hend := numf_end hnf
  have hne : ¬ s = ⟨#[]⟩ := fun e => by subst e; have e0 : (⟨#[]⟩ : ByteArray).size = 0 := rfl; omega
  have d0 : ∃ c, s[0]? = some c ∧ 48 ≤ c.toNat ∧ c.toNat < 56 := ⟨_, hdig (i := 0) (by omega), by have := digit_nat (n / 8 ^ (k - 1 - 0)); omega, by have := digit_nat (n / 8 ^ (k - 1 - 0)); omega⟩
  obtain ⟨c0, hc0, hl0, hh0⟩ := d0
  refine CallsF.enter [(0, _)] rfl Tryd.func20 rfl rfl rfl rfl ?_
  (repeat refine WC.seq ?_); refine WC.region ?_
  refine WL.pures rfl rfl rfl rfl rfl ?_
  refine WL.goes (fun _ _ => rfl) ?_
  (repeat refine WC.seq ?_); refine WC.region ?_
  refine WL.pure rfl rfl rfl rfl ?_
  refine WL.pure rfl rfl rfl rfl ?_
  refine WL.pure rfl rfl rfl rfl ?_
  refine WL.splitP rfl rfl rfl (fun h => ?_) (fun h => absurd (Decidable.not_not.1 h) hne); refine WL.pures rfl rfl rfl rfl rfl ?_
  refine WL.char' rfl rfl rfl (by decide) hc0 rfl rfl ?_
  refine WL.pure rfl rfl rfl rfl ?_
  refine WL.pures rfl rfl rfl rfl rfl ?_
  refine WL.goes (fun _ _ => rfl) ?_
  (repeat refine WC.seq ?_); refine WC.ite rfl (fun c => ?_) (fun c => ?_)
  · exfalso; omega
  refine WC.goes (fun _ _ => rfl) ?_
  (repeat refine WC.seq ?_); refine WC.region ?_
  refine WL.pures rfl rfl rfl rfl rfl ?_
  refine WL.goes (fun _ _ => rfl) ?_
  (repeat refine WC.seq ?_); refine WC.block ?_
  refine WC.rounds 1 (WR.succ ?_)
  (repeat refine WC.seq ?_); refine WC.region ?_
  refine WL.pures rfl rfl rfl rfl rfl ?_
  refine WL.lens' rfl rfl rfl rfl rfl rfl ?_
  refine WL.pure rfl rfl rfl rfl ?_
  refine WL.pure rfl rfl rfl rfl ?_
  refine WL.splitP rfl rfl rfl (fun h => ?_) (fun h => absurd h (by omega)); refine WL.pure rfl rfl rfl rfl ?_
  refine WL.pure rfl rfl rfl rfl ?_
  refine WL.char' rfl rfl rfl (by decide) hc0 rfl rfl ?_
  refine WL.pure rfl rfl rfl rfl ?_
  refine WL.pures rfl rfl rfl rfl rfl ?_
  refine WL.goes (fun _ _ => rfl) ?_
  (repeat refine WC.seq ?_); refine WC.ite rfl (fun c => ?_) (fun c => ?_)
  · exfalso; omega
  refine WC.exits (fun _ _ => rfl) ?_
  (repeat refine WC.seq ?_); refine WC.region ?_
  refine WL.pures rfl rfl rfl rfl rfl ?_
  refine WL.goes (fun _ _ => rfl) ?_
  (repeat refine WC.seq ?_)
  refine WC.cutB (σ := Unit) (x := .block 2 _) (fun _ => [(0, .string s), (6, .int .i64 0), (7, .int .i64 k)]) (fun _ => hs) (fun _ => True) ?_ ?_
  · refine WC.block ?_
    refine WC.loopS (σ := Nat) (fun to => [(0, .string s), (6, .int .i64 0), (7, .int .i64 to)]) (fun _ => hs) (fun to => to ≤ k) (fun to => k - to) 0 ⟨rfl, rfl, rfl, trivial⟩ (.refl _) (Nat.zero_le _) ?_
    intro to hto
    rcases Nat.lt_or_eq_of_le hto with hlt | rfl
    · have hc := hdig hlt
      have hv := digit_nat (n / 8 ^ (k - 1 - to))
      generalize (48 + n / 8 ^ (k - 1 - to) % 8).toUInt8 = ch at hc hv
      (repeat refine WC.seq ?_); refine WC.region ?_
      refine WL.pures rfl rfl rfl rfl rfl ?_
      refine WL.lens' rfl rfl rfl rfl rfl rfl ?_
      refine WL.pure rfl rfl rfl rfl ?_
      refine WL.pure rfl rfl rfl rfl ?_
      refine WL.splitP rfl rfl rfl (fun h => ?_) (fun h => absurd h (by omega)); refine WL.pure rfl rfl rfl rfl ?_
      refine WL.pure rfl rfl rfl rfl ?_
      refine WL.char' rfl rfl rfl (by omega) hc rfl rfl ?_
      refine WL.pure rfl rfl rfl rfl ?_
      refine WL.pure rfl rfl rfl rfl ?_
      refine WL.pure rfl rfl rfl rfl ?_
      refine WL.splitP rfl rfl rfl (fun h => ?_) (fun h => absurd h (by omega)); refine WL.pure rfl rfl rfl rfl ?_
      refine WL.pure rfl rfl rfl rfl ?_
      refine WL.char' rfl rfl rfl (by omega) hc rfl rfl ?_
      refine WL.pure rfl rfl rfl rfl ?_
      refine WL.pures rfl rfl rfl rfl rfl ?_
      refine WL.goes (fun _ _ => rfl) ?_
      (repeat refine WC.seq ?_); refine WC.ite rfl (fun c => ?_) (fun c => ?_)
      · refine WC.goes (fun _ _ => rfl) ?_
        (repeat refine WC.seq ?_); refine WC.block ?_
        (repeat refine WC.seq ?_); refine WC.region ?_
        refine WL.pures rfl rfl rfl rfl rfl ?_
        refine WL.arith' rfl rfl (binV_i64 rfl (by omega)) rfl rfl ?_
        refine WL.pures rfl rfl rfl rfl rfl ?_
        refine WL.again (to + 1) (fun _ _ => rfl) ⟨rfl, rfl, rfl, trivial⟩ (.refl _) hlt (by omega)
      · exfalso; omega
    · (repeat refine WC.seq ?_); refine WC.region ?_
      refine WL.pures rfl rfl rfl rfl rfl ?_
      refine WL.lens' rfl rfl rfl rfl rfl rfl ?_
      refine WL.pure rfl rfl rfl rfl ?_
      refine WL.pure rfl rfl rfl rfl ?_
      refine WL.splitP rfl rfl rfl (fun h => ?_) (fun h => absurd h (by omega)); refine WL.pure rfl rfl rfl rfl ?_
      refine WL.pure rfl rfl rfl rfl ?_
      refine WL.char' rfl rfl rfl (by omega) hend rfl rfl ?_
      refine WL.pure rfl rfl rfl rfl ?_
      refine WL.pure rfl rfl rfl rfl ?_
      refine WL.pure rfl rfl rfl rfl ?_
      refine WL.pass rfl rfl ?_
      refine WL.pass rfl rfl ?_
      refine WL.pass rfl rfl ?_
      refine WL.pass rfl rfl ?_
      refine WL.pures rfl rfl rfl rfl rfl ?_
      refine WL.goes (fun _ _ => rfl) ?_
      (repeat refine WC.seq ?_); refine WC.no rfl ?_
      refine WC.meetx () (fun _ _ => rfl) ⟨rfl, rfl, rfl, trivial⟩ (.refl _) trivial
  rintro _ -
  (repeat refine WC.seq ?_); refine WC.region ?_
  refine WL.pures rfl rfl rfl rfl rfl ?_
  refine WL.goes (fun _ _ => rfl) ?_
  (repeat refine WC.seq ?_)
  refine WC.cutB (σ := Unit) (x := .block 4 _) (fun _ => [(0, .string s), (6, .int .i64 0), (7, .int .i64 k)]) (fun _ => hs) (fun _ => True) ?_ ?_
  · refine WC.block ?_
    refine WC.loopS (σ := Nat) (fun i => [(0, .string s), (6, .int .i64 0), (7, .int .i64 k), (8, .int .i64 i)]) (fun _ => hs) (fun i => k ≤ i ∧ i ≤ s.size) (fun i => s.size - i) k ⟨rfl, rfl, rfl, rfl, trivial⟩ (.refl _) ⟨Nat.le_refl _, by omega⟩ ?_
    rintro i ⟨hi, hi2⟩
    (repeat refine WC.seq ?_); refine WC.region ?_
    refine WL.pures rfl rfl rfl rfl rfl ?_
    refine WL.lens' rfl rfl rfl rfl rfl rfl ?_
    refine WL.pures rfl rfl rfl rfl rfl ?_
    refine WL.goes (fun _ _ => rfl) ?_
    (repeat refine WC.seq ?_); refine WC.ite rfl (fun c => ?_) (fun c => ?_)
    · have hi3 : i = k ∨ (i = k + 1 ∧ s.size = k + 2) := by omega
      refine WC.goes (fun _ _ => rfl) ?_
      (repeat refine WC.seq ?_); refine WC.block ?_
      rcases hi3 with rfl | ⟨rfl, hs2⟩
      · (repeat refine WC.seq ?_); refine WC.region ?_
        refine WL.pures rfl rfl rfl rfl rfl ?_
        refine WL.char' rfl rfl rfl (by omega) hend rfl rfl ?_
        refine WL.pure rfl rfl rfl rfl ?_
        refine WL.pure rfl rfl rfl rfl ?_
        refine WL.pass rfl rfl ?_
        refine WL.pass rfl rfl ?_
        refine WL.pass rfl rfl ?_
        refine WL.pass rfl rfl ?_
        refine WL.pures rfl rfl rfl rfl rfl ?_
        refine WL.goes (fun _ _ => rfl) ?_
        (repeat refine WC.seq ?_); refine WC.no rfl ?_
        refine WC.goes (fun _ _ => rfl) ?_
        (repeat refine WC.seq ?_); refine WC.region ?_
        refine WL.pures rfl rfl rfl rfl rfl ?_
        refine WL.arith' rfl rfl (binV_i64 rfl (by omega)) rfl rfl ?_
        refine WL.pures rfl rfl rfl rfl rfl ?_
        refine WL.again (i + 1) (fun _ _ => rfl) ⟨rfl, rfl, rfl, rfl, trivial⟩ (.refl _) ⟨by omega, by omega⟩ (by omega)
      · have h32 := numf_last hnf hs2
        (repeat refine WC.seq ?_); refine WC.region ?_
        refine WL.pures rfl rfl rfl rfl rfl ?_
        refine WL.char' rfl rfl rfl (by omega) h32 rfl rfl ?_
        refine WL.pures rfl rfl rfl rfl rfl ?_
        refine WL.char' rfl rfl rfl (by omega) h32 rfl rfl ?_
        refine WL.pures rfl rfl rfl rfl rfl ?_
        refine WL.goes (fun _ _ => rfl) ?_
        (repeat refine WC.seq ?_); refine WC.no rfl ?_
        refine WC.goes (fun _ _ => rfl) ?_
        (repeat refine WC.seq ?_); refine WC.region ?_
        refine WL.pures rfl rfl rfl rfl rfl ?_
        refine WL.arith' rfl rfl (binV_i64 rfl (by omega)) rfl rfl ?_
        refine WL.pures rfl rfl rfl rfl rfl ?_
        refine WL.again (k + 1 + 1) (fun _ _ => rfl) ⟨rfl, rfl, rfl, rfl, trivial⟩ (.refl _) ⟨by omega, by omega⟩ (by omega)
    · refine WC.meetx () (fun _ _ => rfl) ⟨rfl, rfl, rfl, trivial⟩ (.refl _) trivial
  rintro _ -
  (repeat refine WC.seq ?_)
  refine WC.cutB (σ := Nat) (x := .block 6 _) (fun f => [(0, .string s), (6, .int .i64 f), (7, .int .i64 k)]) (fun _ => hs) (fun f => f ≤ k ∧ n / 8 ^ (k - f) = 0) ?_ ?_
  · refine WC.block ?_
    refine WC.loopS (σ := Nat) (fun f => [(0, .string s), (6, .int .i64 f), (7, .int .i64 k)]) (fun _ => hs) (fun f => f ≤ k ∧ n / 8 ^ (k - f) = 0) (fun f => k - f) 0 ⟨rfl, rfl, rfl, trivial⟩ (.refl _) ⟨Nat.zero_le _, by rw [Nat.sub_zero]; exact Nat.div_eq_of_lt hn⟩ ?_
    rintro f ⟨hf, hz⟩
    rcases Nat.lt_or_eq_of_le hf with hlt | rfl
    · have hc := hdig hlt
      have hv := digit_nat (n / 8 ^ (k - 1 - f))
      have hstep : n / 8 ^ (k - f) = n / 8 ^ (k - 1 - f) / 8 := by rw [Nat.div_div_eq_div_mul, ← Nat.pow_succ, show (k - 1 - f).succ = k - f by omega]
      generalize (48 + n / 8 ^ (k - 1 - f) % 8).toUInt8 = ch at hc hv
      (repeat refine WC.seq ?_); refine WC.region ?_
      refine WL.pure rfl rfl rfl rfl ?_
      refine WL.pure rfl rfl rfl rfl ?_
      refine WL.pure rfl rfl rfl rfl ?_
      refine WL.pure rfl rfl rfl rfl ?_
      refine WL.splitP rfl rfl rfl (fun h => ?_) (fun h => absurd h (by omega)); refine WL.pure rfl rfl rfl rfl ?_
      refine WL.pure rfl rfl rfl rfl ?_
      refine WL.char' rfl rfl rfl (by omega) hc rfl rfl ?_
      refine WL.pure rfl rfl rfl rfl ?_
      refine WL.pures rfl rfl rfl rfl rfl ?_
      refine WL.goes (fun _ _ => rfl) ?_
      (repeat refine WC.seq ?_); refine WC.ite rfl (fun c => ?_) (fun c => ?_)
      · refine WC.goes (fun _ _ => rfl) ?_
        (repeat refine WC.seq ?_); refine WC.block ?_
        have hz' : n / 8 ^ (k - (f + 1)) = 0 := by
          rw [show k - (f + 1) = k - 1 - f by omega]
          omega
        (repeat refine WC.seq ?_); refine WC.region ?_
        refine WL.pures rfl rfl rfl rfl rfl ?_
        refine WL.arith' rfl rfl (binV_i64 rfl (by omega)) rfl rfl ?_
        refine WL.pures rfl rfl rfl rfl rfl ?_
        refine WL.again (f + 1) (fun _ _ => rfl) ⟨rfl, rfl, rfl, trivial⟩ (.refl _) ⟨hlt, hz'⟩ (by omega)
      · refine WC.meetx f (fun _ _ => rfl) ⟨rfl, rfl, rfl, trivial⟩ (.refl _) ⟨hf, hz⟩
    · (repeat refine WC.seq ?_); refine WC.region ?_
      refine WL.pure rfl rfl rfl rfl ?_
      refine WL.pure rfl rfl rfl rfl ?_
      refine WL.pure rfl rfl rfl rfl ?_
      refine WL.pure rfl rfl rfl rfl ?_
      refine WL.splitP rfl rfl rfl (fun h => absurd h (by omega)) (fun h => ?_); refine WL.pass rfl rfl ?_
      refine WL.pass rfl rfl ?_
      refine WL.pass rfl rfl ?_
      refine WL.pass rfl rfl ?_
      refine WL.pures rfl rfl rfl rfl rfl ?_
      refine WL.goes (fun _ _ => rfl) ?_
      (repeat refine WC.seq ?_); refine WC.no rfl ?_
      refine WC.meetx f (fun _ _ => rfl) ⟨rfl, rfl, rfl, trivial⟩ (.refl _) ⟨hf, hz⟩
  rintro f ⟨hf, hz⟩
  (repeat refine WC.seq ?_); refine WC.region ?_
  refine WL.pures rfl rfl rfl rfl rfl ?_
  refine WL.arith' rfl rfl (binV_i64 rfl (by omega)) rfl rfl ?_
  refine WL.pures rfl rfl rfl rfl rfl ?_
  refine WL.goes (fun _ _ => rfl) ?_
  (repeat refine WC.seq ?_); refine WC.ite rfl (fun c => ?_) (fun c => ?_)
  · exfalso; omega
  refine WC.goes (fun _ _ => rfl) ?_
  (repeat refine WC.seq ?_); refine WC.region ?_
  refine WL.pures rfl rfl rfl rfl rfl ?_
  refine WL.goes (fun _ _ => rfl) ?_
  (repeat refine WC.seq ?_); refine WC.region ?_
  refine WL.pures rfl rfl rfl rfl rfl ?_
  refine WL.goes (fun _ _ => rfl) ?_
  (repeat refine WC.seq ?_); refine WC.block ?_
  refine WC.loopS (σ := Nat) (fun i => [(0, .string s), (7, .int .i64 k), (9, .int .i64 ((n / 8 ^ (k - i) : Nat) : Int)), (10, .int .i64 i)]) (fun _ => hs) (fun i => i ≤ k) (fun i => k - i) f ⟨rfl, rfl, (by rw [hz]; rfl), rfl, trivial⟩ (.refl _) hf ?_
  intro i hi
  have hbig : n < 8 ^ 11 := Nat.lt_of_lt_of_le hn (Nat.pow_le_pow_right (by decide) hk2)
  (repeat refine WC.seq ?_); refine WC.region ?_
  refine WL.pures rfl rfl rfl rfl rfl ?_
  refine WL.goes (fun _ _ => rfl) ?_
  (repeat refine WC.seq ?_); refine WC.ite rfl (fun c => ?_) (fun c => ?_)
  · have hlt : i < k := by omega
    have hc := hdig hlt
    have hv := digit_nat (n / 8 ^ (k - 1 - i))
    have hstep : n / 8 ^ (k - i) = n / 8 ^ (k - 1 - i) / 8 := by rw [Nat.div_div_eq_div_mul, ← Nat.pow_succ, show (k - 1 - i).succ = k - i by omega]
    have hle : n / 8 ^ (k - 1 - i) ≤ n := Nat.div_le_self _ _
    have hnn : (0 : Int) ≤ ((n / 8 ^ (k - 1 - i) : Nat) : Int) := Int.natCast_nonneg _
    have hnext : n / 8 ^ (k - (i + 1)) = n / 8 ^ (k - 1 - i) := by rw [show k - (i + 1) = k - 1 - i by omega]
    generalize (48 + n / 8 ^ (k - 1 - i) % 8).toUInt8 = ch at hc hv
    refine WC.goes (fun _ _ => rfl) ?_
    (repeat refine WC.seq ?_); refine WC.block ?_
    (repeat refine WC.seq ?_); refine WC.region ?_
    refine WL.pures rfl rfl rfl rfl rfl ?_
    refine WL.arith' rfl rfl (binV_i64 rfl (by omega)) rfl rfl ?_
    refine WL.pures rfl rfl rfl rfl rfl ?_
    refine WL.char' rfl rfl rfl (by omega) hc rfl rfl ?_
    refine WL.arith' (r := ((n / 8 ^ (k - 1 - i) % 8 : Nat) : Int)) rfl rfl (by show some (IntKind.u8.wrap _) = _; rw [IntWalk.u8_in _ (by omega)]; congr 1; omega) rfl rfl ?_
    refine WL.conv' rfl rfl rfl (IntWalk.i64_in _ (by omega)) rfl rfl ?_
    refine WL.arith' rfl rfl (binV_i64 rfl (by omega)) rfl rfl ?_
    refine WL.pures rfl rfl rfl rfl rfl ?_
    refine WL.goes (fun _ _ => rfl) ?_
    (repeat refine WC.seq ?_); refine WC.region ?_
    refine WL.pures rfl rfl rfl rfl rfl ?_
    refine WL.arith' rfl rfl (binV_i64 rfl (by omega)) rfl rfl ?_
    refine WL.pures rfl rfl rfl rfl rfl ?_
    refine WL.again (i + 1) (fun _ _ => rfl) ⟨rfl, rfl, ?_, rfl, trivial⟩ (.refl _) hlt (by omega)
    show some _ = some _
    congr 2
    omega
  · obtain rfl : i = k := by omega
    refine WC.exits (fun _ _ => rfl) ?_
    (repeat refine WC.seq ?_); refine WC.region ?_
    refine WL.pures rfl rfl rfl rfl rfl ?_
    refine WL.goes (fun _ _ => rfl) ?_
    refine WC.doneS (fun _ _ => rfl) rfl (.refl _) ⟨?_, rfl⟩
    rw [Nat.sub_self, Nat.pow_zero, Nat.div_one]; rfl
end Go.Proofs.YtdapbkdfanlkkaaDoor
