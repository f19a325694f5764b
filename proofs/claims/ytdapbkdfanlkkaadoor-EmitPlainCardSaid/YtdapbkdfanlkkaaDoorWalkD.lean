/- Headers: what fits, how a path is split, and how a header is written. -/
import Derived.Test.YtdapbkdfanlkkaaDoorWalkC
set_option maxRecDepth 10000
set_option linter.unusedVariables false
set_option linter.unusedSimpArgs false
namespace Go.Proofs.YtdapbkdfanlkkaaDoor
open Go Go.Pan

def fitsb (s : ByteArray) (n : Int) : Bool := decide ((s.size : Int) ≤ n) && !nul s
theorem head_Fits (s : ByteArray) (n : Int) (w0 : World) (hs : Hs) : CallsF Tryd.prog 25 [.string s, .int .i64 n] w0 hs (Same (.bool (fitsb s n)) hs) := by
  refine CallsF.enter [(0, _), (1, _)] rfl Tryd.func25 rfl rfl rfl rfl ?_
  repeat' (first
    | (show WL _ _ _ _ _ (_ :: _) _ _; first
      | refine WL.pures rfl rfl rfl rfl rfl ?_
      | refine WL.pure rfl rfl rfl rfl ?_
      | refine WL.loadAll' rfl rfl (by (repeat (first | exact AllAt.head rfl | apply AllAt.tail | apply AllAt.right))) rfl rfl ?_
      | refine WL.load' rfl rfl (by (repeat (first | exact LdAt.head rfl | apply LdAt.tail | apply LdAt.right))) rfl rfl ?_
      | refine WL.pass rfl rfl ?_
      | refine WL.arith' rfl rfl (binV_i64 rfl (by omega)) rfl rfl ?_
      | refine WL.lens' rfl rfl rfl rfl rfl rfl ?_
      | refine WL.lenl' rfl rfl rfl rfl rfl rfl ?_
      | (refine WL.splitP rfl rfl rfl (fun _ => ?_) (fun _ => ?_) <;> (try (exfalso; omega)))
      | refine WL.box' rfl rfl rfl (fun _ => ?_)
      | refine WL.alloc' rfl rfl rfl (fun _ => ?_)
      | refine WL.store' rfl rfl rfl rfl (List.all_eq_true.1 (by kernel_rfl)) (by (repeat (first | exact Upd.head | apply Upd.tail | apply Upd.right))) (by decide) rfl rfl ?_
      | refine WL.buildA' rfl rfl rfl rfl (by kernel_rfl) rfl rfl ?_
      | refine WL.litA' rfl rfl rfl rfl rfl (by kernel_rfl) rfl rfl (fun _ => ?_)
      | refine WL.build' rfl rfl rfl rfl rfl rfl ?_
      | refine WL.callS' rfl rfl cf22 (str_Contains s _ _) rfl rfl ?_)
    | (show WL _ _ _ _ _ [] _ _; first
      | refine WL.done ?_
      | refine WL.goes (fun _ _ => rfl) ?_)
    | (show WC _ _ _ _ _ _ _; first
      | refine WC.seq (WC.region ?_)
      | refine WC.seq ?_
      | refine WC.region ?_
      | refine WC.block ?_
      | refine WC.yes rfl ?_
      | refine WC.no rfl ?_
      | (refine WC.ite rfl (fun _ => ?_) (fun _ => ?_) <;> (try (exfalso; omega)))
      | refine WC.goes (fun _ _ => rfl) ?_
      | refine WC.exits (fun _ _ => rfl) ?_
      | refine WC.done (fun _ _ => rfl) rfl ⟨?_, rfl⟩))
  all_goals (simp [tupV, fitsb, *])

/-- May a path be split at a byte? -/
def sgood (s : ByteArray) (i : Nat) : Bool := (s[i]? == some 47) && (decide (i ≠ 0) && (decide (s.size - i - 1 ≤ 100) && decide (i ≠ s.size - 1)))
def splitp (s : ByteArray) : Option (ByteArray × ByteArray) :=
  if s.size = 0 ∨ nul s = true then none else if s.size ≤ 100 then some (⟨#[]⟩, s) else
    match (List.range s.size).find? (sgood s) with
    | none => none
    | some i => if i ≤ 155 then some (s.extract 0 i, s.extract (i + 1) s.size) else none
def splitV : Option (ByteArray × ByteArray) → Value
  | some (p, n) => .tuple #[.string p, .string n, .bool true]
  | none => .tuple #[.string ⟨#[]⟩, .string ⟨#[]⟩, .bool false]
theorem splitp_at {s : ByteArray} {i : Nat} (h0 : ¬ s = ⟨#[]⟩) (hn : nul s = false) (h1 : ¬ s.size ≤ 100) (hi : i < s.size) (hlt : ∀ j, j < i → sgood s j = false) (hg : sgood s i = true) :
    splitp s = if i ≤ 155 then some (s.extract 0 i, s.extract (i + 1) s.size) else none := by
  have : (List.range s.size).find? (sgood s) = some i := by
    rw [List.find?_range_eq_some]
    exact ⟨hg, by simpa using hi, fun j hj => by simp [hlt j hj]⟩
  unfold splitp
  rw [if_neg (by rintro (h | h) <;> (first | omega | (rw [hn] at h; cases h))), if_neg h1, this]
theorem splitp_none {s : ByteArray} (hn : nul s = false) (h1 : ¬ s.size ≤ 100) (hlt : ∀ j, j < s.size → sgood s j = false) : splitp s = none := by
  have : (List.range s.size).find? (sgood s) = none := by
    rw [List.find?_eq_none]
    intro x hx
    simp [hlt x (by simpa using hx)]
  unfold splitp
  rw [if_neg (by rintro (h | h) <;> (first | omega | (rw [hn] at h; cases h))), if_neg h1, this]
theorem bempty {s : ByteArray} : s.size = 0 ↔ s = ⟨#[]⟩ := by
  obtain ⟨⟨l⟩⟩ := s
  cases l <;> simp [ByteArray.size]
set_option maxHeartbeats 1000000 in
theorem head_Split (s : ByteArray) (hsz : s.size ≤ 1000000) (w0 : World) (hs : Hs) : CallsF Tryd.prog 24 [.string s] w0 hs (Same (splitV (splitp s)) hs) := by
  refine CallsF.enter [(0, _)] rfl Tryd.func24 rfl rfl rfl rfl ?_
  repeat' (first
    | (show WL _ _ _ _ _ (_ :: _) _ _; first
      | refine WL.pures rfl rfl rfl rfl rfl ?_
      | refine WL.pure rfl rfl rfl rfl ?_
      | refine WL.loadAll' rfl rfl (by (repeat (first | exact AllAt.head rfl | apply AllAt.tail | apply AllAt.right))) rfl rfl ?_
      | refine WL.load' rfl rfl (by (repeat (first | exact LdAt.head rfl | apply LdAt.tail | apply LdAt.right))) rfl rfl ?_
      | refine WL.pass rfl rfl ?_
      | refine WL.arith' rfl rfl (binV_i64 rfl (by omega)) rfl rfl ?_
      | refine WL.lens' rfl rfl rfl rfl rfl rfl ?_
      | refine WL.lenl' rfl rfl rfl rfl rfl rfl ?_
      | (refine WL.splitP rfl rfl rfl (fun _ => ?_) (fun _ => ?_) <;> (try (exfalso; omega)))
      | refine WL.box' rfl rfl rfl (fun _ => ?_)
      | refine WL.alloc' rfl rfl rfl (fun _ => ?_)
      | refine WL.store' rfl rfl rfl rfl (List.all_eq_true.1 (by kernel_rfl)) (by (repeat (first | exact Upd.head | apply Upd.tail | apply Upd.right))) (by decide) rfl rfl ?_
      | refine WL.buildA' rfl rfl rfl rfl (by kernel_rfl) rfl rfl ?_
      | refine WL.litA' rfl rfl rfl rfl rfl (by kernel_rfl) rfl rfl (fun _ => ?_)
      | refine WL.build' rfl rfl rfl rfl rfl rfl ?_
      | refine WL.callS' rfl rfl cf22 (str_Contains s _ _) rfl rfl ?_)
    | (show WL _ _ _ _ _ [] _ _; first
      | refine WL.done ?_
      | refine WL.goes (fun _ _ => rfl) ?_)
    | (show WC _ _ _ _ _ _ _; first
      | refine WC.seq (WC.region ?_)
      | refine WC.seq ?_
      | refine WC.region ?_
      | refine WC.block ?_
      | refine WC.yes rfl ?_
      | refine WC.no rfl ?_
      | (refine WC.ite rfl (fun _ => ?_) (fun _ => ?_) <;> (try (exfalso; omega)))
      | refine WC.goes (fun _ _ => rfl) ?_
      | refine WC.exits (fun _ _ => rfl) ?_
      | refine WC.done (fun _ _ => rfl) rfl ⟨?_, rfl⟩
      | refine WC.loopS (σ := Nat) (fun i => [(0, .string s), (17, .int .i64 s.size), (18, .int .i64 i)]) (fun _ => hs) (fun i => i ≤ s.size ∧ ∀ j, j < i → sgood s j = false) (fun i => s.size - i) 0 ⟨rfl, rfl, rfl, trivial⟩ (.refl _) ⟨Nat.zero_le _, fun j hj => absurd hj (Nat.not_lt_zero j)⟩ ?_))
  · rename_i h
    rw [splitp, if_pos (.inl (bempty.2 h))]; rfl
  · rename_i h0 h
    have hn : nul s = true := decide_eq_true h
    rw [splitp, if_pos (.inr hn)]; rfl
  · rename_i h0 h h1
    have hn : nul s = false := decide_eq_false h
    rw [splitp, if_neg (by rw [hn, bempty]; simp [h0]), if_pos (by omega)]
    rfl
  · rename_i h0 h h1
    have hn : nul s = false := decide_eq_false h
    rintro i ⟨hi, hlt⟩
    by_cases hil : i < s.size
    · have hnext : sgood s i = false → ∀ j, j < i + 1 → sgood s j = false := fun hf j hj => by
        rcases Nat.lt_or_ge j i with h | h
        · exact hlt j h
        · obtain rfl : j = i := by omega
          exact hf
      have hch : s[i]? = some (s[i]'hil) := by simp [hil]
      have hfin := fun hg => splitp_at (s := s) (i := i) h0 hn (by omega) hil hlt hg
      generalize s[i]'hil = ch at hch
      have hsg : sgood s i = ((ch == 47) && (decide (i ≠ 0) && (decide (s.size - i - 1 ≤ 100) && decide (i ≠ s.size - 1)))) := by
        unfold sgood; rw [hch]; rfl
      repeat' (first
        | (show WL _ _ _ _ _ (_ :: _) _ _; first
          | refine WL.pures rfl rfl rfl rfl rfl ?_
          | refine WL.pure rfl rfl rfl rfl ?_
          | refine WL.loadAll' rfl rfl (by (repeat (first | exact AllAt.head rfl | apply AllAt.tail | apply AllAt.right))) rfl rfl ?_
          | refine WL.load' rfl rfl (by (repeat (first | exact LdAt.head rfl | apply LdAt.tail | apply LdAt.right))) rfl rfl ?_
          | refine WL.pass rfl rfl ?_
          | refine WL.arith' rfl rfl (binV_i64 rfl (by omega)) rfl rfl ?_
          | refine WL.lens' rfl rfl rfl rfl rfl rfl ?_
          | refine WL.lenl' rfl rfl rfl rfl rfl rfl ?_
          | (refine WL.splitP rfl rfl rfl (fun _ => ?_) (fun _ => ?_) <;> (try (exfalso; omega)))
          | refine WL.box' rfl rfl rfl (fun _ => ?_)
          | refine WL.alloc' rfl rfl rfl (fun _ => ?_)
          | refine WL.store' rfl rfl rfl rfl (List.all_eq_true.1 (by kernel_rfl)) (by (repeat (first | exact Upd.head | apply Upd.tail | apply Upd.right))) (by decide) rfl rfl ?_
          | refine WL.buildA' rfl rfl rfl rfl (by kernel_rfl) rfl rfl ?_
          | refine WL.litA' rfl rfl rfl rfl rfl (by kernel_rfl) rfl rfl (fun _ => ?_)
          | refine WL.build' rfl rfl rfl rfl rfl rfl ?_
          | refine WL.char' rfl rfl rfl (by omega) hch rfl rfl ?_)
        | (show WL _ _ _ _ _ [] _ _; first
          | refine WL.again (i + 1) (fun _ _ => rfl) ⟨rfl, rfl, rfl, trivial⟩ (.refl _) ⟨by omega, hnext ?_⟩ (by omega)
          | refine WL.done ?_
          | refine WL.goes (fun _ _ => rfl) ?_)
        | (show WC _ _ _ _ _ _ _; first
          | refine WC.quiet mixed (by kernel_rfl) ?_
          | refine WC.seq (WC.region ?_)
          | refine WC.seq ?_
          | refine WC.region ?_
          | refine WC.block ?_
          | refine WC.yes rfl ?_
          | refine WC.no rfl ?_
          | (refine WC.ite rfl (fun _ => ?_) (fun _ => ?_) <;> (try (exfalso; omega)))
          | refine WC.goes (fun _ _ => rfl) ?_
          | refine WC.exits (fun _ _ => rfl) ?_
          | refine WC.done (fun _ _ => rfl) rfl ⟨?_, rfl⟩))
      · rw [hsg]; simp only [Bool.and_eq_false_iff]; left
        rename_i hx
        rw [beq_eq_false_iff_ne]; rintro rfl; exact hx rfl
      · rw [hsg]; simp; omega
      · rw [hsg]; simp; omega
      · rw [hsg]; simp; omega
      all_goals
        rw [hfin (by
          rw [hsg]
          simp only [Bool.and_eq_true, beq_iff_eq, decide_eq_true_eq]
          refine ⟨?_, by omega, by omega, by omega⟩
          rw [← UInt8.toNat_inj]; show ch.toNat = 47; omega)]
      · rw [if_neg (by omega)]; rfl
      · rw [if_pos (by omega)]
        refine WQ.pure rfl rfl rfl rfl ?_
        refine WQ.pure rfl rfl rfl rfl ?_
        refine WQ.cutS' rfl rfl rfl rfl (by omega) (by omega) (by omega) rfl rfl ?_
        refine WQ.pure rfl rfl rfl rfl ?_
        refine WQ.pure rfl rfl rfl rfl ?_
        refine WQ.arith' rfl rfl (binV_i64 rfl (by omega)) rfl rfl ?_
        refine WQ.cutS' rfl rfl rfl rfl (by omega) (by omega) (by omega) rfl rfl ?_
        refine WQ.pures rfl rfl rfl rfl rfl ?_
        refine WQ.goes (fun _ _ => rfl) (WC.done (fun _ _ => rfl) rfl ⟨?_, rfl⟩)
        rfl
    · obtain rfl : i = s.size := by omega
      repeat' (first
        | (show WL _ _ _ _ _ (_ :: _) _ _; first
          | refine WL.pures rfl rfl rfl rfl rfl ?_
          | refine WL.pure rfl rfl rfl rfl ?_
          | refine WL.loadAll' rfl rfl (by (repeat (first | exact AllAt.head rfl | apply AllAt.tail | apply AllAt.right))) rfl rfl ?_
          | refine WL.load' rfl rfl (by (repeat (first | exact LdAt.head rfl | apply LdAt.tail | apply LdAt.right))) rfl rfl ?_
          | refine WL.pass rfl rfl ?_
          | refine WL.arith' rfl rfl (binV_i64 rfl (by omega)) rfl rfl ?_
          | refine WL.lens' rfl rfl rfl rfl rfl rfl ?_
          | refine WL.lenl' rfl rfl rfl rfl rfl rfl ?_
          | (refine WL.splitP rfl rfl rfl (fun _ => ?_) (fun _ => ?_) <;> (try (exfalso; omega)))
          | refine WL.box' rfl rfl rfl (fun _ => ?_)
          | refine WL.alloc' rfl rfl rfl (fun _ => ?_)
          | refine WL.store' rfl rfl rfl rfl (List.all_eq_true.1 (by kernel_rfl)) (by (repeat (first | exact Upd.head | apply Upd.tail | apply Upd.right))) (by decide) rfl rfl ?_
          | refine WL.buildA' rfl rfl rfl rfl (by kernel_rfl) rfl rfl ?_
          | refine WL.litA' rfl rfl rfl rfl rfl (by kernel_rfl) rfl rfl (fun _ => ?_)
          | refine WL.build' rfl rfl rfl rfl rfl rfl ?_)
        | (show WL _ _ _ _ _ [] _ _; first
          | refine WL.done ?_
          | refine WL.goes (fun _ _ => rfl) ?_)
        | (show WC _ _ _ _ _ _ _; first
          | refine WC.done (fun _ _ => rfl) rfl ⟨?_, rfl⟩
          | refine WC.seq (WC.region ?_)
          | refine WC.seq ?_
          | refine WC.region ?_
          | refine WC.block ?_
          | refine WC.yes rfl ?_
          | refine WC.no rfl ?_
          | (refine WC.ite rfl (fun _ => ?_) (fun _ => ?_) <;> (try (exfalso; omega)))
          | refine WC.goes (fun _ _ => rfl) ?_
          | refine WC.exits (fun _ _ => rfl) ?_))
      rw [splitp_none hn (by omega) hlt]
      rfl

end Go.Proofs.YtdapbkdfanlkkaaDoor
