/- The document's splitting of a path. -/
import Derived.Test.YtdapbkdfanlkkaaDoorWalkR
set_option maxRecDepth 10000
set_option linter.unusedVariables false
set_option linter.unusedSimpArgs false
namespace Go.Proofs.YtdapbkdfanlkkaaDoor
open Go Go.Pan Go.RowKit

/-- A path may be split at a byte, by the document. -/
def rgood (s : ByteArray) (i : Nat) : Prop := i + 1 < s.size ∧ s[i]? = some 47 ∧ s.size - i - 1 ≤ 100
theorem rgood_sgood {s : ByteArray} {i : Nat} (h1 : 1 ≤ i) (h : rgood s i) : sgood s i = true := by
  obtain ⟨h2, h3, h4⟩ := h
  simp only [sgood, h3, Bool.and_eq_true, decide_eq_true_eq, beq_self_eq_true, true_and]
  omega
theorem sgood_rgood {s : ByteArray} {i : Nat} (hi : i < s.size) (h : sgood s i = true) : 1 ≤ i ∧ rgood s i := by
  simp only [sgood, Bool.and_eq_true, decide_eq_true_eq, beq_iff_eq] at h
  exact ⟨by omega, by omega, h.1, h.2.2.1⟩
theorem sp_some {s : ByteArray} {i : Nat} (h0 : ¬ (s.size = 0 ∨ nul s = true)) (h1 : ¬ s.size ≤ 100) (hi : 1 ≤ i) (hi2 : i ≤ 155) (h : rgood s i) : (splitp s).isSome = true := by
  have hs := rgood_sgood hi h
  have hlt : i < s.size := by have := h.1; omega
  unfold splitp
  rw [if_neg h0, if_neg h1]
  cases hf : (List.range s.size).find? (sgood s) with
  | none =>
    have := List.find?_eq_none.1 hf i (by simpa using hlt)
    exact absurd hs this
  | some j =>
    have hj := List.find?_range_eq_some.1 hf
    have : j ≤ i := by
      rcases Nat.lt_or_ge i j with h | h
      · have := hj.2.2 i h
        rw [hs] at this; cases this
      · exact h
    simp only
    rw [if_pos (by omega)]; rfl
theorem sp_none {s : ByteArray} (h1 : ¬ s.size ≤ 100) (h : ∀ i, 1 ≤ i → i ≤ 155 → ¬ rgood s i) : splitp s = none := by
  unfold splitp
  by_cases h0 : s.size = 0 ∨ nul s = true
  · rw [if_pos h0]
  rw [if_neg h0, if_neg h1]
  cases hf : (List.range s.size).find? (sgood s) with
  | none => rfl
  | some j =>
    have hj := List.find?_range_eq_some.1 hf
    obtain ⟨a, b⟩ := sgood_rgood (by simpa using hj.2.1) hj.1
    simp only
    rw [if_neg (fun h155 => h j a h155 b)]
theorem ref_Split (s : ByteArray) (hsz : s.size ≤ 1000000) (w0 : World) (hs : Hs) : CallsF Tryd.prog 9 [.string s] w0 hs (fun v hs' => ∃ p n, v = .tuple #[.string p, .string n, .bool (splitp s).isSome] ∧ hs' = hs) := by
  refine CallsF.enter [(0, _)] rfl Tryd.func9 rfl rfl rfl rfl ?_
  (repeat refine WC.seq ?_); refine WC.region ?_
  refine WL.pures rfl rfl rfl rfl rfl ?_
  refine WL.goes (fun _ _ => rfl) ?_
  by_cases h0 : s = ⟨#[]⟩
  · have hsp : splitp s = none := by unfold splitp; rw [if_pos (.inl (bempty.2 h0))]
    (repeat refine WC.seq ?_); refine WC.region ?_
    refine WL.pure rfl rfl rfl rfl ?_
    refine WL.pure rfl rfl rfl rfl ?_
    refine WL.pure rfl rfl rfl rfl ?_
    refine WL.splitP rfl rfl rfl (fun h => ?_) (fun h => absurd h0 h); refine WL.pass rfl rfl ?_
    refine WL.pass rfl rfl ?_
    refine WL.pass rfl rfl ?_
    refine WL.pass rfl rfl ?_
    refine WL.pures rfl rfl rfl rfl rfl ?_
    refine WL.goes (fun _ _ => rfl) ?_
    (repeat refine WC.seq ?_); refine WC.yes rfl ?_
    (repeat refine WC.seq ?_); refine WC.region ?_
    refine WL.pures rfl rfl rfl rfl rfl ?_
    refine WL.goes (fun _ _ => rfl) ?_
    exact WC.done (fun _ _ => rfl) rfl ⟨_, _, by rw [hsp]; rfl, rfl⟩
  have hz : ¬ s.size = 0 := fun h => h0 (bempty.1 h)
  (repeat refine WC.seq ?_); refine WC.region ?_
  refine WL.pure rfl rfl rfl rfl ?_
  refine WL.pure rfl rfl rfl rfl ?_
  refine WL.pure rfl rfl rfl rfl ?_
  refine WL.splitP rfl rfl rfl (fun h => absurd h h0) (fun h => ?_); refine WL.pure rfl rfl rfl rfl ?_
  refine WL.callS' rfl rfl cf18 (ref_text s hsz _ _) rfl rfl ?_
  refine WL.pure rfl rfl rfl rfl ?_
  refine WL.pure rfl rfl rfl rfl ?_
  refine WL.pures rfl rfl rfl rfl rfl ?_
  refine WL.goes (fun _ _ => rfl) ?_
  (repeat refine WC.seq ?_); refine WC.ite rfl (fun c => ?_) (fun c => ?_)
  · have hn : nul s = true := by
      cases hn : nul s with
      | true => rfl
      | false => exact absurd (textp_eq.2 hn) c
    have hsp : splitp s = none := by unfold splitp; rw [if_pos (.inr hn)]
    (repeat refine WC.seq ?_); refine WC.region ?_
    refine WL.pures rfl rfl rfl rfl rfl ?_
    refine WL.goes (fun _ _ => rfl) ?_
    exact WC.done (fun _ _ => rfl) rfl ⟨_, _, by rw [hsp]; rfl, rfl⟩
  have hn : nul s = false := textp_eq.1 (Decidable.not_not.1 c)
  have hnot : ¬ (s.size = 0 ∨ nul s = true) := fun h => by
    rcases h with h | h
    · exact hz h
    · rw [hn] at h; cases h
  refine WC.goes (fun _ _ => rfl) ?_
  (repeat refine WC.seq ?_); refine WC.region ?_
  refine WL.pures rfl rfl rfl rfl rfl ?_
  refine WL.lens' rfl rfl rfl rfl rfl rfl ?_
  refine WL.pures rfl rfl rfl rfl rfl ?_
  refine WL.goes (fun _ _ => rfl) ?_
  (repeat refine WC.seq ?_); refine WC.ite rfl (fun c => ?_) (fun c => ?_)
  · have hsp : (splitp s).isSome = true := by unfold splitp; rw [if_neg hnot, if_pos (by omega)]; rfl
    (repeat refine WC.seq ?_); refine WC.region ?_
    refine WL.pures rfl rfl rfl rfl rfl ?_
    refine WL.goes (fun _ _ => rfl) ?_
    exact WC.done (fun _ _ => rfl) rfl ⟨_, _, by rw [hsp]; rfl, rfl⟩
  have h100 : ¬ s.size ≤ 100 := by omega
  refine WC.goes (fun _ _ => rfl) ?_
  (repeat refine WC.seq ?_); refine WC.region ?_
  refine WL.pures rfl rfl rfl rfl rfl ?_
  refine WL.goes (fun _ _ => rfl) ?_
  (repeat refine WC.seq ?_)
  refine WC.cutB (σ := Unit) (x := .block 0 _) (fun _ => [(0, .string s)]) (fun _ => hs) (fun _ => splitp s = none) ?_ ?_
  · refine WC.block ?_
    refine WC.loopS (σ := Nat) (fun i => [(0, .string s), (5, .int .i64 i)]) (fun _ => hs) (fun i => 1 ≤ i ∧ i ≤ 156 ∧ ∀ j, 1 ≤ j → j < i → ¬ rgood s j) (fun i => 156 - i) 1 ⟨rfl, rfl, trivial⟩ (.refl _) ⟨by omega, by omega, fun j h1 h2 => by omega⟩ ?_
    rintro i ⟨hi1, hi2, hlt⟩
    by_cases h155 : i ≤ 155
    · (repeat refine WC.seq ?_); refine WC.region ?_
      refine WL.pure rfl rfl rfl rfl ?_
      refine WL.pure rfl rfl rfl rfl ?_
      refine WL.pure rfl rfl rfl rfl ?_
      refine WL.splitP rfl rfl rfl (fun h => ?_) (fun h => absurd h (by omega)); refine WL.pure rfl rfl rfl rfl ?_
      refine WL.pure rfl rfl rfl rfl ?_
      refine WL.lens' rfl rfl rfl rfl rfl rfl ?_
      refine WL.arith' rfl rfl (binV_i64 rfl (by omega)) rfl rfl ?_
      refine WL.pure rfl rfl rfl rfl ?_
      refine WL.pures rfl rfl rfl rfl rfl ?_
      refine WL.goes (fun _ _ => rfl) ?_
      (repeat refine WC.seq ?_); refine WC.ite rfl (fun c => ?_) (fun c => ?_)
      · have hil : i < s.size := by omega
        have hch : s[i]? = some (s[i]'hil) := by simp [hil]
        generalize s[i]'hil = ch at hch
        refine WC.goes (fun _ _ => rfl) ?_
        (repeat refine WC.seq ?_); refine WC.block ?_
        have next : (¬ rgood s i) → ∀ j, 1 ≤ j → j < i + 1 → ¬ rgood s j := fun hg j h1 h2 => by
          rcases Nat.lt_or_ge j i with h | h
          · exact hlt j h1 h
          · obtain rfl : j = i := by omega
            exact hg
        by_cases h47 : (ch.toNat : Int) = 47
        · have hch47 : s[i]? = some 47 := by
            have h47' : ch.toNat = 47 := by omega
            rw [hch]; congr 1; exact UInt8.toNat_inj.1 (by rw [h47']; rfl)
          (repeat refine WC.seq ?_); refine WC.region ?_
          refine WL.pures rfl rfl rfl rfl rfl ?_
          refine WL.char' rfl rfl rfl (by omega) hch rfl rfl ?_
          refine WL.pure rfl rfl rfl rfl ?_
          refine WL.pure rfl rfl rfl rfl ?_
          refine WL.splitP rfl rfl rfl (fun h => ?_) (fun h => absurd h47 h); refine WL.pure rfl rfl rfl rfl ?_
          refine WL.lens' rfl rfl rfl rfl rfl rfl ?_
          refine WL.pure rfl rfl rfl rfl ?_
          refine WL.arith' rfl rfl (binV_i64 rfl (by omega)) rfl rfl ?_
          refine WL.arith' rfl rfl (binV_i64 rfl (by omega)) rfl rfl ?_
          refine WL.pure rfl rfl rfl rfl ?_
          refine WL.pures rfl rfl rfl rfl rfl ?_
          refine WL.goes (fun _ _ => rfl) ?_
          (repeat refine WC.seq ?_); refine WC.ite rfl (fun c2 => ?_) (fun c2 => ?_)
          · have hsp : (splitp s).isSome = true := sp_some hnot h100 hi1 h155 ⟨by omega, hch47, by omega⟩
            (repeat refine WC.seq ?_)
            refine WC.quiet mixed (by kernel_rfl) ?_
            refine WQ.pures rfl rfl rfl rfl rfl ?_
            refine WQ.cutS' (l := 0) (h := i) rfl rfl rfl rfl (by decide) (by omega) (by omega) rfl rfl ?_
            refine WQ.pures rfl rfl rfl rfl rfl ?_
            refine WQ.arith' rfl rfl (binV_i64 rfl (by omega)) rfl rfl ?_
            refine WQ.cutS' (l := (i : Int) + 1) (h := s.size) rfl rfl rfl rfl (by omega) (by omega) (by omega) rfl rfl ?_
            refine WQ.pures rfl rfl rfl rfl rfl ?_
            refine WQ.goes (fun _ _ => rfl) ?_
            exact WC.done (fun _ _ => rfl) rfl ⟨_, _, by rw [hsp]; rfl, rfl⟩
          · refine WC.goes (fun _ _ => rfl) ?_
            (repeat refine WC.seq ?_); refine WC.region ?_
            refine WL.pures rfl rfl rfl rfl rfl ?_
            refine WL.arith' rfl rfl (binV_i64 rfl (by omega)) rfl rfl ?_
            refine WL.pures rfl rfl rfl rfl rfl ?_
            refine WL.again (i + 1) (fun _ _ => rfl) ⟨rfl, rfl, trivial⟩ (.refl _) ⟨by omega, by omega, next (fun hg => by have := hg.2.2; omega)⟩ (by omega)
        · (repeat refine WC.seq ?_); refine WC.region ?_
          refine WL.pures rfl rfl rfl rfl rfl ?_
          refine WL.char' rfl rfl rfl (by omega) hch rfl rfl ?_
          refine WL.pure rfl rfl rfl rfl ?_
          refine WL.pure rfl rfl rfl rfl ?_
          refine WL.splitP rfl rfl rfl (fun h => absurd h h47) (fun h => ?_); refine WL.pass rfl rfl ?_
          refine WL.pass rfl rfl ?_
          refine WL.pass rfl rfl ?_
          refine WL.pass rfl rfl ?_
          refine WL.pass rfl rfl ?_
          refine WL.pass rfl rfl ?_
          refine WL.pures rfl rfl rfl rfl rfl ?_
          refine WL.goes (fun _ _ => rfl) ?_
          (repeat refine WC.seq ?_); refine WC.no rfl ?_
          refine WC.goes (fun _ _ => rfl) ?_
          (repeat refine WC.seq ?_); refine WC.region ?_
          refine WL.pures rfl rfl rfl rfl rfl ?_
          refine WL.arith' rfl rfl (binV_i64 rfl (by omega)) rfl rfl ?_
          refine WL.pures rfl rfl rfl rfl rfl ?_
          refine WL.again (i + 1) (fun _ _ => rfl) ⟨rfl, rfl, trivial⟩ (.refl _) ⟨by omega, by omega, next (fun hg => h47 (by have := hg.2.1; rw [hch] at this; rw [Option.some.inj this]; rfl))⟩ (by omega)
      · refine WC.meetx () (fun _ _ => rfl) ⟨rfl, trivial⟩ (.refl _) (sp_none h100 fun j h1 h2 hg => ?_)
        rcases Nat.lt_or_ge j i with h | h
        · exact hlt j h1 h hg
        · have := hg.1; omega
    · (repeat refine WC.seq ?_); refine WC.region ?_
      refine WL.pure rfl rfl rfl rfl ?_
      refine WL.pure rfl rfl rfl rfl ?_
      refine WL.pure rfl rfl rfl rfl ?_
      refine WL.splitP rfl rfl rfl (fun h => absurd h (by omega)) (fun h => ?_); refine WL.pass rfl rfl ?_
      refine WL.pass rfl rfl ?_
      refine WL.pass rfl rfl ?_
      refine WL.pass rfl rfl ?_
      refine WL.pass rfl rfl ?_
      refine WL.pures rfl rfl rfl rfl rfl ?_
      refine WL.goes (fun _ _ => rfl) ?_
      (repeat refine WC.seq ?_); refine WC.no rfl ?_
      refine WC.meetx () (fun _ _ => rfl) ⟨rfl, trivial⟩ (.refl _) (sp_none h100 fun j h1 h2 hg => hlt j h1 (by omega) hg)
  rintro _ hsp
  (repeat refine WC.seq ?_); refine WC.region ?_
  refine WL.pures rfl rfl rfl rfl rfl ?_
  refine WL.goes (fun _ _ => rfl) ?_
  exact WC.done (fun _ _ => rfl) rfl ⟨_, _, by rw [hsp]; rfl, rfl⟩
end Go.Proofs.YtdapbkdfanlkkaaDoor
