/- A header that is written is right by the document; and when records stand ahead. -/
import Derived.Test.YtdapbkdfanlkkaaDoorWalkS
set_option maxRecDepth 10000
set_option linter.unusedVariables false
set_option linter.unusedSimpArgs false
namespace Go.Proofs.YtdapbkdfanlkkaaDoor
open Go Go.Pan Go.RowKit

theorem ofits_iff {n : Int} {w : Nat} (hw : 2 ≤ w) : ofits n w = true ↔ 0 ≤ n ∧ n < 8 ^ (w - 1) := by
  constructor
  · intro h
    have h0 := ofits_nonneg h
    obtain ⟨m, rfl⟩ := Int.eq_ofNat_of_zero_le h0
    have := ofits_pow hw h
    exact ⟨h0, by exact_mod_cast this⟩
  · rintro ⟨h0, h1⟩
    obtain ⟨m, rfl⟩ := Int.eq_ofNat_of_zero_le h0
    exact ofits_lt hw (by exact_mod_cast h1)
theorem fitsb_iff {s : ByteArray} {n : Int} (h : nul s = false) : fitsb s n = true ↔ (s.size : Int) ≤ n := by
  simp [fitsb, h]
theorem ofits8 {n : Int} : ofits n 8 = true ↔ 0 ≤ n ∧ n < 2097152 := by
  have h := ofits_iff (n := n) (w := 8) (by decide)
  rw [show ((8 : Int) ^ (8 - 1)) = 2097152 by decide] at h
  exact h
theorem ofits12 {n : Int} : ofits n 12 = true ↔ 0 ≤ n ∧ n < 8589934592 := by
  have h := ofits_iff (n := n) (w := 12) (by decide)
  rw [show ((8 : Int) ^ (12 - 1)) = 8589934592 by decide] at h
  exact h
/-- When no records stand ahead. -/
theorem plain_iff (e : Ent) (hok : e.ok) : e.recs = [] ↔ ((splitp e.path).isSome = true ∧ (e.link.size : Int) ≤ 100 ∧ (e.user.size : Int) ≤ 31 ∧ (e.group.size : Int) ≤ 31 ∧ e.uid < 2097152 ∧ e.gid < 2097152 ∧ e.size < 8589934592 ∧ 0 ≤ e.mtime ∧ e.mtime < 8589934592) := by
  obtain ⟨⟨_, _, _, hu, hg, hs⟩, _, _, _, hnul⟩ := id hok
  obtain ⟨hn1, hn2⟩ := nul_append hnul
  obtain ⟨hn3, hn4⟩ := nul_append hn1
  obtain ⟨hn5, hn6⟩ := nul_append hn3
  obtain ⟨a1, a2, a3, a4, a5, a6, a7, a8⟩ := lk_all e
  have hall : e.recs = [] ↔ ∀ k ∈ keysL, lkS k e.m7 = none := by
    constructor
    · intro h k hk
      cases hv : lkS k e.m7 with
      | none => rfl
      | some v =>
        have hm : (k, v) ∈ e.recs := by
          simp only [Ent.recs, recsOf, List.mem_filterMap, Option.map_eq_some_iff]
          exact ⟨k, hk, v, hv, rfl⟩
        rw [h] at hm; cases hm
    · intro h
      apply List.eq_nil_iff_forall_not_mem.2
      intro r hr
      have := recs_mem hr
      rw [h _ this.1] at this
      cases this.2
  have I : ∀ {b : Bool} {v : ByteArray}, (if b = true then none else some v) = none ↔ b = true := fun {b v} => by cases b <;> simp
  rw [hall]
  simp only [keysL, List.mem_cons, List.not_mem_nil, or_false, forall_eq_or_imp, forall_eq, a1, a2, a3, a4, a5, a6, a7, a8, I]
  rw [fitsb_iff hn6, fitsb_iff hn4, fitsb_iff hn2, ofits8, ofits8, ofits12, ofits12]
  constructor
  · rintro ⟨⟨_, h1⟩, h2, h3, ⟨_, h4⟩, h5, ⟨_, h6⟩, ⟨_, h7⟩, h8⟩
    exact ⟨h5, h3, h8, h2, h7, h1, h6, by omega, h4⟩
  · rintro ⟨h5, h3, h8, h2, h7, h1, h6, h9, h4⟩
    exact ⟨⟨hg, h1⟩, h2, h3, ⟨h9, h4⟩, h5, ⟨hs, h6⟩, ⟨hu, h7⟩, h8⟩
theorem sum8_blank : ∀ (l : List UInt8) (i : Nat), 148 ≤ i → i + l.length ≤ 156 → sum8 i l = 32 * l.length
  | [], _, _, _ => rfl
  | c :: l, i, h1, h2 => by
    simp only [List.length_cons] at h2
    simp only [sum8, List.length_cons]
    rw [if_pos (by omega), sum8_blank l (i + 1) (by omega) (by omega)]
    omega
theorem sum8_seal {l : List UInt8} (h : l.length = 512) : sum8 0 (seal8 l) = sum8 0 l := by
  have e1 : l = l.take 148 ++ ((l.drop 148).take 8 ++ l.drop 156) := by
    have h1 := List.take_append_drop 148 l
    have h2 := List.take_append_drop 8 (l.drop 148)
    rw [List.drop_drop] at h2
    rw [h2, h1]
  have e8 : (ofmt (sum8 0 l) 6 ++ [0, 32]).length = 8 := by simp [ofmt_length]
  have e9 : ((l.drop 148).take 8).length = 8 := by simp; omega
  have e10 : (l.take 148).length = 148 := by simp; omega
  have key : sum8 0 (seal8 l) = sum8 0 (l.take 148 ++ ((l.drop 148).take 8 ++ l.drop 156)) := by
    rw [seal8, List.append_assoc, sum8_append, sum8_append, sum8_append 0 (l.take 148), sum8_append (0 + (l.take 148).length) ((l.drop 148).take 8)]
    rw [sum8_blank (ofmt (sum8 0 l) 6 ++ [0, 32]) (0 + (l.take 148).length) (by omega) (by omega), sum8_blank ((l.drop 148).take 8) (0 + (l.take 148).length) (by omega) (by omega), e8, e9]
  rw [key, ← e1]
theorem seg_sum {l : List UInt8} (h : l.length = 512) : seg (seal8 l) 148 8 = ofmt (sum8 0 l) 6 ++ [0, 32] := by
  have e8 : (ofmt (sum8 0 l) 6 ++ [0, 32]).length = 8 := by simp [ofmt_length]
  have e10 : (l.take 148).length = 148 := by simp; omega
  unfold seg seal8
  rw [List.append_assoc, List.drop_left' e10, List.take_left' e8]
theorem ex_seg (s : ByteArray) (a b : Nat) : (s.extract a b).data.toList = seg s.data.toList a (b - a) := by
  rw [ByteArray.data_extract, Array.toList_extract, List.extract_eq_take_drop]; rfl
/-- A header that is written is right by the document. -/
theorem good_head {name link user group pre : ByteArray} {mode uid gid size mtime : Nat} {ty : UInt8} (z1 : name.size ≤ 100) (z2 : link.size ≤ 100) (z3 : user.size ≤ 31) (z4 : group.size ≤ 31) (z5 : pre.size ≤ 155)
    (g1 : mode < 8 ^ 7) (g2 : uid < 8 ^ 7) (g3 : gid < 8 ^ 7) (g4 : size < 8 ^ 11) (g5 : mtime < 8 ^ 11) {L : List UInt8} (hL : L = seal8 (hblock name link user group pre mode uid gid size mtime ty)) : GoodH ⟨L.toArray⟩ ty mode uid gid size mtime := by
  have hlen := hblock_length (mode := mode) (uid := uid) (gid := gid) (size := size) (mtime := mtime) (ty := ty) z1 z2 z3 z4 z5
  obtain ⟨_, _, _, _, _, h6, h7, h8, h9, h10, h11⟩ := sealed_fields z1 z2 z3 z4 z5 hL
  have hus : seg (hblock name link user group pre mode uid gid size mtime ty) 257 8 = [117, 115, 116, 97, 114, 0, 48, 48] := by
    unfold hblock at hlen ⊢
    rw [seg_at (by rw [put8_length (by
      have := hlen
      rw [put8, List.length_append, List.length_append] at this
      simp at this
      simp
      omega)] at hlen; omega) (by decide)]
    simp [seg]
  generalize hM : hblock name link user group pre mode uid gid size mtime ty = M at hL hlen hus
  have hs8 : seg L 148 8 = ofmt (sum8 0 M) 6 ++ [0, 32] := by rw [hL]; exact seg_sum hlen
  have hsum : sum8 0 L = sum8 0 M := by rw [hL]; exact sum8_seal hlen
  have hlt : sum8 0 M < 8 ^ 6 := by
    have := sum8_le 0 M
    rw [hlen] at this
    omega
  have hus' : seg L 257 8 = [117, 115, 116, 97, 114, 0, 48, 48] := by rw [hL, seg_seal hlen (by decide)]; exact hus
  have hsz : L.length = 512 := by rw [hL]; exact seal8_length hlen
  refine ⟨by show L.toArray.size = 512; simp [hsz], ⟨by decide, by decide, by rw [show (ByteArray.mk L.toArray).data.toList = L from rfl, hsum]; exact hlt, .inr ?_⟩, ⟨by decide, by decide, g1, .inl ?_⟩, ⟨by decide, by decide, g2, .inl ?_⟩, ⟨by decide, by decide, g3, .inl ?_⟩, ⟨by decide, by decide, g4, .inl ?_⟩, ⟨by decide, by decide, g5, .inl ?_⟩, bytes_ext ?_, at_list ?_⟩
  · rw [ex_seg]
    show seg L 148 8 = ofmt (sum8 0 L) 6 ++ [0, 32]
    rw [hsum]; exact hs8
  · rw [ex_seg]; exact h6
  · rw [ex_seg]; exact h7
  · rw [ex_seg]; exact h8
  · rw [ex_seg]; exact h9
  · rw [ex_seg]; exact h10
  · rw [ex_seg]; exact hus'
  · show L[156]? = some ty
    have := congrArg (fun l : List UInt8 => l[0]?) h11
    simpa [seg] using this
end Go.Proofs.YtdapbkdfanlkkaaDoor
