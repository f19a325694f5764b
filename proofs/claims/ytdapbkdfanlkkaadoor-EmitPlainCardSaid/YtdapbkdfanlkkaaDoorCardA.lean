/- From the row's memory to the walks' lists of blocks, and back. -/
import Derived.Test.YtdapbkdfanlkkaaDoorTie
import Derived.Test.YtdapbkdfanlkkaaDoorCards
import Derived.Test.YtdapbkdfanlkkaaDoorWalkN
import Derived.ProofKit
import Derived.OpenShut
import Derived.LaidMore
import Derived.Lay
import Derived.SevenTiedAt
import Derived.Stop.Joined
import Derived.Carry
import Derived.LaidSub
import Derived.Lib.LaidTab
set_option maxRecDepth 10000
set_option linter.unusedVariables false
set_option linter.unusedSimpArgs false
namespace Go.Proofs.YtdapbkdfanlkkaaDoor
open Go Go.Pan Go.ChangeShapes Go.WideShapes Go.ChangeAt Go.RowKit

theorem own : ownKnob Tryd.prog.godebug = none := by kernel_rfl
theorem laidOut : laidOutB Tryd.prog = true := by kernel_rfl
/-- All blocks. -/
def olds (H : Array Obj) : Hs := H.toList.zipIdx.map fun p => (p.2, p.1)
theorem olds_mem {H : Array Obj} {b : Nat} {o : Obj} : (b, o) ∈ olds H ↔ H[b]? = some o := by
  simp only [olds, List.mem_map, Prod.mk.injEq]
  constructor
  · rintro ⟨⟨x, i⟩, hm, rfl, rfl⟩
    have := List.mem_zipIdx_iff_getElem?.1 hm
    simpa using this
  · intro h
    exact ⟨(o, b), List.mem_zipIdx_iff_getElem?.2 (by simpa using h), rfl, rfl⟩
theorem olds_keys (H : Array Obj) : ((olds H).map (·.1)).Nodup := by
  have : (olds H).map (·.1) = List.range' 0 H.size := by
    simp only [olds, List.map_map]
    have h := List.zipIdx_map_snd 0 H.toList
    rw [Array.length_toList] at h
    exact h
  rw [this]; exact List.nodup_range'
theorem olds_hf (H : Array Obj) : HF H (olds H) := ⟨olds_keys H, fun b o h => olds_mem.1 h⟩
theorem olds_below {W : World} {H' : Array Obj} {n' : Nat} (hf : HF H' (olds W.heap)) : Below W.heap.size W (wd W H' n') := by
  have hb : ∀ k, k < W.heap.size → H'[k]? = W.heap[k]? := fun k hk => by
    obtain ⟨o, ho⟩ : ∃ o, W.heap[k]? = some o := ⟨W.heap[k], by simp [hk]⟩
    rw [ho]; exact hf.at_ k o (olds_mem.2 ho)
  refine ⟨rfl, rfl, rfl, ?_, hb⟩
  show W.heap.size ≤ H'.size
  rcases Nat.eq_zero_or_pos W.heap.size with h | h
  · omega
  · have h1 := hb (W.heap.size - 1) (by omega)
    have h2 : W.heap[W.heap.size - 1]? = some (W.heap[W.heap.size - 1]'(by omega)) := by simp [show W.heap.size - 1 < W.heap.size by omega]
    rw [h2] at h1
    have := (Array.getElem?_eq_some_iff.1 h1).1
    omega
theorem below_kept {W W' : World} (h : Below W.heap.size W W') (may : MemPlace → Prop) : W.keptBut W' may := by
  refine ⟨h.os, h.output, fun i hi => ?_⟩
  rw [h.block i hi]
  cases W.heap[i]? with
  | none => rfl
  | some o => cases o <;> first | rfl | exact ⟨rfl, rfl, rfl, fun _ _ => rfl⟩ | exact .inr ⟨rfl, rfl⟩
theorem gTab : Tryd.prog.globalNamed "internal/strconv.uint64pow10" = some 1 := by kernel_rfl
def laid3 : List (String × DataW Unit) := [("math/bits.deBruijn32tab", Rows.laid_math_bits_deBruijn32tab), ("math/bits.deBruijn64tab", Rows.laid_math_bits_deBruijn64tab), ("internal/strconv.uint64pow10", Rows.laid_internal_strconv_uint64pow10)]
/-- What the row's condition says of the library's table. -/
theorem hasT_of_laid {W : World} (h : laidMetH Tryd.prog laid3 W) : HasT (olds W.heap) := by
  have h1 := h.filter (fun x => x.1 == "internal/strconv.uint64pow10")
  rw [show laid3.filter (fun x => x.1 == "internal/strconv.uint64pow10") = [("internal/strconv.uint64pow10", Lib.tabData .u64 Lib.pow10Tab)] by kernel_rfl, MakeChecks.laidMetH_plain _ _ _ (by kernel_rfl)] at h1
  have h2 : Lib.TabIs Tryd.prog W "internal/strconv.uint64pow10" .u64 Lib.pow10Tab := Lib.tabIs_of_head (t := 111) (e := 98) (n := 20) gTab (by kernel_rfl) (by kernel_rfl) (by kernel_rfl) (by kernel_rfl) (by kernel_rfl) h1
  have h3 : ∀ w : World, Lib.TabIs Tryd.prog w "internal/strconv.uint64pow10" .u64 Lib.pow10Tab ↔ (match w.heap[1]? with | some (Obj.cells cs _ _) => some cs | _ => none) = some (Lib.pow10Tab.map fun z => Value.int .u64 z).toArray := fun w => by
    unfold Lib.TabIs World.var?
    rw [gTab]; rfl
  have h4 := (h3 W).1 h2
  cases ho : W.heap[1]? with
  | none => rw [ho] at h4; cases h4
  | some o =>
    refine ⟨_, o, .of_mem (olds_mem.2 ho), fun w hw => (h3 w).2 ?_⟩
    rw [hw, ← ho]; exact h4
theorem cell_string {P : Program} {w : World} {r : Reach} {base : Nat} {t : TypeId} {v : Value} (ht : P.underlying t = some .string) (h : Cell.okWide P w r base t v) : ∃ s, v = .string s := by
  simp only [Cell.okWide, ht] at h
  cases v <;> simp_all [Cell.ok]
theorem cell_int {P : Program} {w : World} {r : Reach} {base : Nat} {t : TypeId} {v : Value} (ht : P.underlying t = some (.int .i64)) (h : Cell.okWide P w r base t v) : ∃ n, v = .int .i64 n ∧ -9223372036854775808 ≤ n ∧ n ≤ 9223372036854775807 := by
  simp only [Cell.okWide, ht] at h
  have h1 : IntKind.i64.min = -9223372036854775808 := rfl
  have h2 : IntKind.i64.max = 9223372036854775807 := rfl
  cases v <;> simp_all [Cell.ok, IntKind.has]
/-- An argument that is an entry. -/
theorem ent_of {W : World} {r : Reach} {base : Nat} {v : Value} (h : Value.okWide Tryd.prog W r base 23 v) : ∃ e : Ent, v = e.val ∧ e.inr := by
  simp only [Value.okWide, Tryd.underlying23] at h
  obtain ⟨cs, rfl, hsz, ts, hts, _, hat⟩ := h
  rw [show Tryd.prog.cellsOf 23 = 10 by kernel_rfl] at hsz
  obtain rfl : ts = [9, 9, 3, 3, 2, 2, 2, 2, 9, 9] := Option.some.inj (hts.symm.trans (by kernel_rfl))
  obtain ⟨l⟩ := cs
  match l, hsz with
  | [c0, c1, c2, c3, c4, c5, c6, c7, c8, c9], _ =>
    have S : ∀ {v : Value} {i : Nat}, (#[c0, c1, c2, c3, c4, c5, c6, c7, c8, c9] : Array Value)[i]? = some v → ([9, 9, 3, 3, 2, 2, 2, 2, 9, 9] : List TypeId)[i % 10]? = some 9 → ∃ s, v = .string s := fun hv hu => by
      obtain ⟨u, h1, h2⟩ := hat _ _ hv
      obtain rfl := Option.some.inj (h1.symm.trans hu)
      exact cell_string Tryd.underlying9 h2
    have I : ∀ {v : Value} {i : Nat}, (#[c0, c1, c2, c3, c4, c5, c6, c7, c8, c9] : Array Value)[i]? = some v → (([9, 9, 3, 3, 2, 2, 2, 2, 9, 9] : List TypeId)[i % 10]? = some 3 ∨ ([9, 9, 3, 3, 2, 2, 2, 2, 9, 9] : List TypeId)[i % 10]? = some 2) → ∃ n, v = .int .i64 n ∧ -9223372036854775808 ≤ n ∧ n ≤ 9223372036854775807 := fun hv hu => by
      obtain ⟨u, h1, h2⟩ := hat _ _ hv
      rcases hu with hu | hu
      · obtain rfl := Option.some.inj (h1.symm.trans hu)
        exact cell_int Tryd.underlying3 h2
      · obtain rfl := Option.some.inj (h1.symm.trans hu)
        exact cell_int Tryd.underlying2 h2
    obtain ⟨s0, rfl⟩ := S (i := 0) rfl rfl
    obtain ⟨s1, rfl⟩ := S (i := 1) rfl rfl
    obtain ⟨n2, rfl, _⟩ := I (i := 2) rfl (.inl rfl)
    obtain ⟨n3, rfl, b3⟩ := I (i := 3) rfl (.inl rfl)
    obtain ⟨n4, rfl, b4⟩ := I (i := 4) rfl (.inr rfl)
    obtain ⟨n5, rfl, b5⟩ := I (i := 5) rfl (.inr rfl)
    obtain ⟨n6, rfl, b6⟩ := I (i := 6) rfl (.inr rfl)
    obtain ⟨n7, rfl, b7⟩ := I (i := 7) rfl (.inr rfl)
    obtain ⟨s8, rfl⟩ := S (i := 8) rfl rfl
    obtain ⟨s9, rfl⟩ := S (i := 9) rfl rfl
    exact ⟨⟨s0, s1, n2, n3, n4, n5, n6, n7, s8, s9⟩, rfl, b3, b4, b5, b7, b6⟩
end Go.Proofs.YtdapbkdfanlkkaaDoor
