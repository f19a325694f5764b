/- What is plain of entries: texts without a byte 0, and what fits. -/
import Derived.Test.YtdapbkdfanlkkaaDoorWalkJ
set_option maxRecDepth 10000
set_option linter.unusedVariables false
set_option linter.unusedSimpArgs false
namespace Go.Proofs.YtdapbkdfanlkkaaDoor
open Go Go.Pan Go.RowKit

theorem index0 (l : List UInt8) : 0 ≤ Lib.indexByte l 0 ↔ 0 ∈ l := by
  induction l with
  | nil => simp [Lib.indexByte]
  | cons b l ih =>
    have hge := Lib.indexByte_ge l 0
    by_cases hb : b = 0
    · subst hb; simp [Lib.indexByte]
    · by_cases h : Lib.indexByte l 0 = -1
      · rw [h] at ih
        simp [Lib.indexByte, hb, h]
        exact ⟨fun h => hb h.symm, fun hm => absurd (ih.2 hm) (by omega)⟩
      · have h0 : 0 ≤ Lib.indexByte l 0 := by omega
        have : 0 ∈ l := ih.1 h0
        simp [Lib.indexByte, hb, h, this]
        omega
theorem nul_iff {s : ByteArray} : nul s = true ↔ 0 ∈ s.data.toList := by
  simp only [nul, decide_eq_true_eq]; exact index0 _
theorem nul_sub {s u : ByteArray} (h : nul s = false) (hs : ∀ b ∈ u.data.toList, b ∈ s.data.toList) : nul u = false := by
  cases hu : nul u with
  | false => rfl
  | true => rw [← h]; exact (nul_iff.2 (hs _ (nul_iff.1 hu))).symm
theorem mem_extract {s : ByteArray} {i j : Nat} {b : UInt8} (h : b ∈ (s.extract i j).data.toList) : b ∈ s.data.toList := by
  rw [ByteArray.data_extract, Array.toList_extract] at h
  exact List.mem_of_mem_drop (List.mem_of_mem_take h)
theorem nul_append {s u : ByteArray} (h : nul (s ++ u) = false) : nul s = false ∧ nul u = false := by
  refine ⟨nul_sub h fun b hb => ?_, nul_sub h fun b hb => ?_⟩ <;> (rw [ByteArray.data_append, Array.toList_append]; simp [hb])
theorem fitsb_of {s : ByteArray} {n : Int} (h1 : (s.size : Int) ≤ n) (h2 : nul s = false) : fitsb s n = true := by simp [fitsb, h1, h2]
theorem fitsb_nil {n : Int} (h : 0 ≤ n) : fitsb ⟨#[]⟩ n = true := fitsb_of h (by rfl)
theorem fitsb_cutS {s : ByteArray} {n : Int} (h : 0 ≤ n) : fitsb (cutS s n) n = true := by
  unfold cutS
  split
  · assumption
  · exact fitsb_nil h
theorem splitp_fits {s p n : ByteArray} (h : splitp s = some (p, n)) : fitsb n 100 = true ∧ fitsb p 155 = true := by
  unfold splitp at h
  split at h
  · cases h
  · rename_i h0
    have hn : nul s = false := by
      cases hx : nul s with
      | false => rfl
      | true => exact absurd (.inr hx) h0
    split at h
    · rename_i h1
      simp only [Option.some.injEq, Prod.mk.injEq] at h
      obtain ⟨rfl, rfl⟩ := h
      exact ⟨fitsb_of (by omega) hn, fitsb_nil (by omega)⟩
    · rename_i h1
      split at h
      · cases h
      · rename_i i hi
        split at h
        · rename_i hi155
          simp only [Option.some.injEq, Prod.mk.injEq] at h
          obtain ⟨rfl, rfl⟩ := h
          have hg := List.find?_some hi
          have hr : i < s.size := by simpa using List.mem_of_find?_eq_some hi
          simp only [sgood, Bool.and_eq_true, decide_eq_true_eq] at hg
          refine ⟨fitsb_of ?_ (nul_sub hn fun b hb => mem_extract hb), fitsb_of ?_ (nul_sub hn fun b hb => mem_extract hb)⟩
          · rw [ByteArray.size_extract]; omega
          · rw [ByteArray.size_extract]; omega
        · cases h
theorem sname_fits (e : Ent) : fitsb e.sname 100 = true := by
  unfold Ent.sname
  split
  · rename_i h; exact (splitp_fits h).1
  · exact fitsb_of (by decide) (by rfl)
theorem spre_fits (e : Ent) : fitsb e.spre 155 = true := by
  unfold Ent.spre
  split
  · rename_i h; exact (splitp_fits h).2
  · exact fitsb_nil (by omega)
theorem ofits_0 {w : Int} (h : 2 ≤ w) : ofits 0 w = true := by
  simp [ofits, h, odig_small]; omega
theorem ofits_cutN {n w : Int} (h : 2 ≤ w) : ofits (cutN n w) w = true := by
  unfold cutN
  split
  · assumption
  · exact ofits_0 h
theorem ofits_nonneg {n w : Int} (h : ofits n w = true) : 0 ≤ n := by
  simp only [ofits, Bool.and_eq_true, decide_eq_true_eq] at h
  exact h.1
theorem ofits_lt {n : Nat} {w : Nat} (hw : 2 ≤ w) (h : n < 8 ^ (w - 1)) : ofits n w = true := by
  have := odig_lt (n := n) (k := w - 1) (by omega) h
  simp [ofits, hw]; omega
theorem cutN_le {n w : Int} (h : n ≤ 9223372036854775807) : cutN n w ≤ 9223372036854775807 := by
  unfold cutN; split <;> omega
theorem put8_512 {l : List UInt8} {off : Nat} {m : List UInt8} (hl : l.length = 512) (h : off + m.length ≤ 512) : (put8 l off m).length = 512 := by
  rw [put8_length (by omega), hl]
theorem hblock_length {name link user group pre : ByteArray} {mode uid gid size mtime : Nat} {ty : UInt8} (z1 : name.size ≤ 100) (z2 : link.size ≤ 100) (z3 : user.size ≤ 31) (z4 : group.size ≤ 31) (z5 : pre.size ≤ 155) : (hblock name link user group pre mode uid gid size mtime ty).length = 512 := by
  have e : ∀ s : ByteArray, s.data.toList.length = s.size := fun s => Array.length_toList
  unfold hblock
  repeat' first | apply put8_512 | exact List.length_replicate
  all_goals (simp only [List.length_append, List.length_cons, List.length_nil, ofmt_length, e]; omega)
theorem seal8_length {l : List UInt8} (h : l.length = 512) : (seal8 l).length = 512 := by
  simp [seal8, ofmt_length, h]
/-- A header's type as a byte. -/
def tyB (k : Int) : UInt8 := (typ k).toNat.toUInt8
theorem tyB_typ (k : Int) : typ k = (tyB k).toNat := by
  unfold tyB typ
  split
  · rfl
  split
  · rfl
  split
  · rfl
  split
  · rfl
  · rfl
theorem lkS_mem {k v : ByteArray} : ∀ {m : List (ByteArray × ByteArray)}, lkS k m = some v → ∃ k', (k', v) ∈ m
  | p :: m, h => by
    simp only [lkS] at h
    split at h
    · simp only [Option.some.injEq] at h; subst h; exact ⟨p.1, by simp⟩
    · obtain ⟨k', h'⟩ := lkS_mem h; exact ⟨k', by simp [h']⟩
theorem opt_mem {b : Bool} {k v : ByteArray} {p : ByteArray × ByteArray} (h : p ∈ opt b k v) : p = (k, v) := by
  cases b <;> simp [opt] at h; exact h
theorem recs_mem {e : Ent} {r : ByteArray × ByteArray} (h : r ∈ e.recs) : r.1 ∈ keysL ∧ lkS r.1 e.m7 = some r.2 := by
  simp only [Ent.recs, recsOf, List.mem_filterMap, Option.map_eq_some_iff] at h
  obtain ⟨k, hk, v, hv, rfl⟩ := h
  exact ⟨hk, hv⟩
theorem recs_good {e : Ent} : ∀ r ∈ e.recs, kgood r.1 = true := fun r h => List.all_eq_true.1 (by kernel_rfl : keysL.all kgood = true) _ (recs_mem h).1
theorem recs_size {e : Ent} (hsm : e.small) (hr : e.inr) : ∀ r ∈ e.recs, r.2.size ≤ 100000 := fun r h => by
  obtain ⟨s1, s2, s3, s4⟩ := hsm
  obtain ⟨⟨q1, q1'⟩, ⟨q2, q2'⟩, ⟨q3, q3'⟩, ⟨q4, q4'⟩, ⟨q5, q5'⟩⟩ := hr
  obtain ⟨k', hm⟩ := lkS_mem (recs_mem h).2
  have i2 := itoa_size _ q2 q2'
  have i3 := itoa_size _ q3 q3'
  have i4 := itoa_size _ q4 q4'
  have i5 := itoa_size _ q5 q5'
  simp only [Ent.m7, Ent.m6, Ent.m5, Ent.m4, Ent.m3, Ent.m2, Ent.m1, Ent.m0, List.mem_append] at hm
  have key : ∀ {b k v}, (k', r.2) ∈ opt b k v → r.2 = v := fun h => (Prod.mk.inj (opt_mem h)).2
  rcases hm with ((((((h | h) | h) | h) | h) | h) | h) | h <;> (rw [key h]; omega)
theorem recs_len (e : Ent) : e.recs.length ≤ 8 := recsOf_length _ _
end Go.Proofs.YtdapbkdfanlkkaaDoor
