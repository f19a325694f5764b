/- What strings.Contains comes to at the string of one byte 0, and emit.Check. -/
import Derived.Test.YtdapbkdfanlkkaaDoorWalkA
import Derived.Lib.Bytealg
set_option maxRecDepth 10000
set_option linter.unusedVariables false
set_option linter.unusedSimpArgs false
namespace Go.Proofs.YtdapbkdfanlkkaaDoor
open Go Go.Pan

/-- Has a text a byte 0? -/
def nul (s : ByteArray) : Bool := decide (0 ≤ Lib.indexByte s.data.toList 0)
theorem idx0 (s : ByteArray) (w : World) : (callFunc 68 #[.string s, .int .u8 0]).run Tryd.prog w = .ok (.value (.int .i64 (Lib.indexByte s.data.toList 0))) w := by
  rw [ex68, Lib.run_indexByteString]
  rfl
theorem str_IndexByte (s : ByteArray) (w0 : World) (hs : Hs) : CallsF Tryd.prog 55 [.string s, .int .u8 0] w0 hs (Same (.int .i64 (Lib.indexByte s.data.toList 0)) hs) := by
  refine CallsF.enter [(0, _), (1, _)] rfl Tryd.func55 rfl rfl rfl rfl ?_
  repeat' (first
    | (show WL _ _ _ _ _ (_ :: _) _ _; first
      | refine WL.pures rfl rfl rfl rfl rfl ?_
      | refine WL.pure rfl rfl rfl rfl ?_
      | refine WL.loadAll' rfl rfl (by (repeat (first | exact AllAt.head rfl | apply AllAt.tail | apply AllAt.right))) rfl rfl ?_
      | refine WL.load' rfl rfl (by (repeat (first | exact LdAt.head rfl | apply LdAt.tail | apply LdAt.right))) rfl rfl ?_
      | refine WL.pass rfl rfl ?_
      | refine WL.arith' rfl rfl (binV_i64 rfl (by omega)) rfl rfl ?_
      | refine WL.lens' rfl rfl rfl rfl rfl rfl ?_
      | refine WL.lenl' rfl rfl rfl rfl rfl rfl ?_
      | (refine WL.splitP rfl rfl rfl (fun _ => ?_) (fun _ => ?_) <;> (try (exfalso; omega)))
      | refine WL.box' rfl rfl rfl (fun _ => ?_)
      | refine WL.alloc' rfl rfl rfl (fun _ => ?_)
      | refine WL.store' rfl rfl rfl rfl (List.all_eq_true.1 (by kernel_rfl)) (by (repeat (first | exact Upd.head | apply Upd.tail | apply Upd.right))) (by decide) rfl rfl ?_
      | refine WL.buildA' rfl rfl rfl rfl (by kernel_rfl) rfl rfl ?_
      | refine WL.litA' rfl rfl rfl rfl rfl (by kernel_rfl) rfl rfl (fun _ => ?_)
      | refine WL.build' rfl rfl rfl rfl rfl rfl ?_
      | refine WL.ext' rfl rfl (idx0 s) rfl rfl ?_)
    | (show WL _ _ _ _ _ [] _ _; first
      | refine WL.done ?_
      | refine WL.goes (fun _ _ => rfl) ?_)
    | (show WC _ _ _ _ _ _ _; first
      | refine WC.seq (WC.region ?_)
      | refine WC.seq ?_
      | refine WC.region ?_
      | refine WC.block ?_
      | refine WC.yes rfl ?_
      | refine WC.no rfl ?_
      | (refine WC.ite rfl (fun _ => ?_) (fun _ => ?_) <;> (try (exfalso; omega)))
      | refine WC.goes (fun _ _ => rfl) ?_
      | refine WC.exits (fun _ _ => rfl) ?_
      | exact WC.done (fun _ _ => rfl) rfl ⟨rfl, rfl⟩))
theorem str_Index2 (s : ByteArray) (w0 : World) (hs : Hs) : CallsF Tryd.prog 46 [.string s, .string ⟨#[0]⟩] w0 hs (Same (.int .i64 (Lib.indexByte s.data.toList 0)) hs) := by
  refine CallsF.enter [(0, _), (1, _)] rfl Tryd.func46 rfl rfl rfl rfl ?_
  repeat' (first
    | (show WL _ _ _ _ _ (_ :: _) _ _; first
      | refine WL.pures rfl rfl rfl rfl rfl ?_
      | refine WL.pure rfl rfl rfl rfl ?_
      | refine WL.loadAll' rfl rfl (by (repeat (first | exact AllAt.head rfl | apply AllAt.tail | apply AllAt.right))) rfl rfl ?_
      | refine WL.load' rfl rfl (by (repeat (first | exact LdAt.head rfl | apply LdAt.tail | apply LdAt.right))) rfl rfl ?_
      | refine WL.pass rfl rfl ?_
      | refine WL.arith' rfl rfl (binV_i64 rfl (by omega)) rfl rfl ?_
      | refine WL.lens' rfl rfl rfl rfl rfl rfl ?_
      | refine WL.lenl' rfl rfl rfl rfl rfl rfl ?_
      | (refine WL.splitP rfl rfl rfl (fun _ => ?_) (fun _ => ?_) <;> (try (exfalso; omega)))
      | refine WL.box' rfl rfl rfl (fun _ => ?_)
      | refine WL.alloc' rfl rfl rfl (fun _ => ?_)
      | refine WL.store' rfl rfl rfl rfl (List.all_eq_true.1 (by kernel_rfl)) (by (repeat (first | exact Upd.head | apply Upd.tail | apply Upd.right))) (by decide) rfl rfl ?_
      | refine WL.buildA' rfl rfl rfl rfl (by kernel_rfl) rfl rfl ?_
      | refine WL.litA' rfl rfl rfl rfl rfl (by kernel_rfl) rfl rfl (fun _ => ?_)
      | refine WL.build' rfl rfl rfl rfl rfl rfl ?_
      | refine WL.char' rfl rfl rfl (by decide) rfl rfl rfl ?_
      | refine WL.callS' rfl rfl cf55 (str_IndexByte s _ _) rfl rfl ?_)
    | (show WL _ _ _ _ _ [] _ _; first
      | refine WL.done ?_
      | refine WL.goes (fun _ _ => rfl) ?_)
    | (show WC _ _ _ _ _ _ _; first
      | refine WC.seq (WC.region ?_)
      | refine WC.seq ?_
      | refine WC.region ?_
      | refine WC.block ?_
      | refine WC.yes rfl ?_
      | refine WC.no rfl ?_
      | (refine WC.ite rfl (fun _ => ?_) (fun _ => ?_) <;> (try (exfalso; omega)))
      | refine WC.goes (fun _ _ => rfl) ?_
      | refine WC.exits (fun _ _ => rfl) ?_
      | refine WC.done (fun _ _ => rfl) rfl ⟨?_, rfl⟩))
  all_goals (first | rfl | (rename_i h; subst h; rfl))
theorem str_Index (s : ByteArray) (w0 : World) (hs : Hs) : CallsF Tryd.prog 38 [.string s, .string ⟨#[0]⟩] w0 hs (Same (.int .i64 (Lib.indexByte s.data.toList 0)) hs) := by
  refine CallsF.enter [(0, _), (1, _)] rfl Tryd.func38 rfl rfl rfl rfl ?_
  repeat' (first
    | (show WL _ _ _ _ _ (_ :: _) _ _; first
      | refine WL.pures rfl rfl rfl rfl rfl ?_
      | refine WL.pure rfl rfl rfl rfl ?_
      | refine WL.loadAll' rfl rfl (by (repeat (first | exact AllAt.head rfl | apply AllAt.tail | apply AllAt.right))) rfl rfl ?_
      | refine WL.load' rfl rfl (by (repeat (first | exact LdAt.head rfl | apply LdAt.tail | apply LdAt.right))) rfl rfl ?_
      | refine WL.pass rfl rfl ?_
      | refine WL.arith' rfl rfl (binV_i64 rfl (by omega)) rfl rfl ?_
      | refine WL.lens' rfl rfl rfl rfl rfl rfl ?_
      | refine WL.lenl' rfl rfl rfl rfl rfl rfl ?_
      | (refine WL.splitP rfl rfl rfl (fun _ => ?_) (fun _ => ?_) <;> (try (exfalso; omega)))
      | refine WL.box' rfl rfl rfl (fun _ => ?_)
      | refine WL.alloc' rfl rfl rfl (fun _ => ?_)
      | refine WL.store' rfl rfl rfl rfl (List.all_eq_true.1 (by kernel_rfl)) (by (repeat (first | exact Upd.head | apply Upd.tail | apply Upd.right))) (by decide) rfl rfl ?_
      | refine WL.buildA' rfl rfl rfl rfl (by kernel_rfl) rfl rfl ?_
      | refine WL.litA' rfl rfl rfl rfl rfl (by kernel_rfl) rfl rfl (fun _ => ?_)
      | refine WL.build' rfl rfl rfl rfl rfl rfl ?_
      | refine WL.callS' rfl rfl cf46 (str_Index2 s _ _) rfl rfl ?_)
    | (show WL _ _ _ _ _ [] _ _; first
      | refine WL.done ?_
      | refine WL.goes (fun _ _ => rfl) ?_)
    | (show WC _ _ _ _ _ _ _; first
      | refine WC.seq (WC.region ?_)
      | refine WC.seq ?_
      | refine WC.region ?_
      | refine WC.block ?_
      | refine WC.yes rfl ?_
      | refine WC.no rfl ?_
      | (refine WC.ite rfl (fun _ => ?_) (fun _ => ?_) <;> (try (exfalso; omega)))
      | refine WC.goes (fun _ _ => rfl) ?_
      | refine WC.exits (fun _ _ => rfl) ?_
      | exact WC.done (fun _ _ => rfl) rfl ⟨rfl, rfl⟩))
theorem str_Contains (s : ByteArray) (w0 : World) (hs : Hs) : CallsF Tryd.prog 22 [.string s, .string ⟨#[0]⟩] w0 hs (Same (.bool (nul s)) hs) := by
  refine CallsF.enter [(0, _), (1, _)] rfl Tryd.func22 rfl rfl rfl rfl ?_
  repeat' (first
    | (show WL _ _ _ _ _ (_ :: _) _ _; first
      | refine WL.pures rfl rfl rfl rfl rfl ?_
      | refine WL.pure rfl rfl rfl rfl ?_
      | refine WL.loadAll' rfl rfl (by (repeat (first | exact AllAt.head rfl | apply AllAt.tail | apply AllAt.right))) rfl rfl ?_
      | refine WL.load' rfl rfl (by (repeat (first | exact LdAt.head rfl | apply LdAt.tail | apply LdAt.right))) rfl rfl ?_
      | refine WL.pass rfl rfl ?_
      | refine WL.arith' rfl rfl (binV_i64 rfl (by omega)) rfl rfl ?_
      | refine WL.lens' rfl rfl rfl rfl rfl rfl ?_
      | refine WL.lenl' rfl rfl rfl rfl rfl rfl ?_
      | (refine WL.splitP rfl rfl rfl (fun _ => ?_) (fun _ => ?_) <;> (try (exfalso; omega)))
      | refine WL.box' rfl rfl rfl (fun _ => ?_)
      | refine WL.alloc' rfl rfl rfl (fun _ => ?_)
      | refine WL.store' rfl rfl rfl rfl (List.all_eq_true.1 (by kernel_rfl)) (by (repeat (first | exact Upd.head | apply Upd.tail | apply Upd.right))) (by decide) rfl rfl ?_
      | refine WL.buildA' rfl rfl rfl rfl (by kernel_rfl) rfl rfl ?_
      | refine WL.litA' rfl rfl rfl rfl rfl (by kernel_rfl) rfl rfl (fun _ => ?_)
      | refine WL.build' rfl rfl rfl rfl rfl rfl ?_
      | refine WL.callS' rfl rfl cf38 (str_Index s _ _) rfl rfl ?_)
    | (show WL _ _ _ _ _ [] _ _; first
      | refine WL.done ?_
      | refine WL.goes (fun _ _ => rfl) ?_)
    | (show WC _ _ _ _ _ _ _; first
      | refine WC.seq (WC.region ?_)
      | refine WC.seq ?_
      | refine WC.region ?_
      | refine WC.block ?_
      | refine WC.yes rfl ?_
      | refine WC.no rfl ?_
      | (refine WC.ite rfl (fun _ => ?_) (fun _ => ?_) <;> (try (exfalso; omega)))
      | refine WC.goes (fun _ _ => rfl) ?_
      | refine WC.exits (fun _ _ => rfl) ?_
      | exact WC.done (fun _ _ => rfl) rfl ⟨rfl, rfl⟩))

/-- An entry. -/
structure Ent where
  path : ByteArray
  link : ByteArray
  kind : Int
  mode : Int
  uid : Int
  gid : Int
  mtime : Int
  size : Int
  user : ByteArray
  group : ByteArray
def Ent.val (e : Ent) : Value := .agg #[.string e.path, .string e.link, .int .i64 e.kind, .int .i64 e.mode, .int .i64 e.uid, .int .i64 e.gid, .int .i64 e.mtime, .int .i64 e.size, .string e.user, .string e.group]
def Ent.small (e : Ent) : Prop := e.path.size ≤ 5000 ∧ e.link.size ≤ 5000 ∧ e.user.size ≤ 5000 ∧ e.group.size ≤ 5000
/-- Can an entry be written? -/
def Ent.ok (e : Ent) : Prop := (typ e.kind ≠ 0 ∧ 0 ≤ e.mode ∧ e.mode ≤ 4095 ∧ 0 ≤ e.uid ∧ 0 ≤ e.gid ∧ 0 ≤ e.size) ∧ (e.kind = 1 ∨ e.size = 0) ∧ ((e.kind = 2 ∨ e.kind = 3) ↔ e.link ≠ ⟨#[]⟩) ∧ e.path ≠ ⟨#[]⟩ ∧ nul (e.path ++ e.link ++ e.user ++ e.group) = false
instance (e : Ent) : Decidable e.ok := by unfold Ent.ok; infer_instance
set_option maxHeartbeats 4000000 in
theorem emit_Check (e : Ent) (hsm : e.small) (w0 : World) (hs : Hs) : CallsF Tryd.prog 11 [e.val] w0 hs fun v hs' => v = .int .i64 (if e.ok then 0 else 90) ∧ ∃ b c, hs' = (b, c) :: hs := by
  obtain ⟨z1, z2, z3, z4⟩ := hsm
  refine CallsF.enter [(0, _)] rfl Tryd.func11 rfl rfl rfl rfl ?_
  repeat' (first
    | (show WL _ _ _ _ _ (_ :: _) _ _; first
      | refine WL.pures rfl rfl rfl rfl rfl ?_
      | refine WL.pure rfl rfl rfl rfl ?_
      | refine WL.loadAll' rfl rfl (by (repeat (first | exact AllAt.head rfl | apply AllAt.tail | apply AllAt.right))) rfl rfl ?_
      | refine WL.load' rfl rfl (by (repeat (first | exact LdAt.head rfl | apply LdAt.tail | apply LdAt.right))) rfl rfl ?_
      | refine WL.pass rfl rfl ?_
      | refine WL.arith' rfl rfl (binV_i64 rfl (by omega)) rfl rfl ?_
      | refine WL.lens' rfl rfl rfl rfl rfl rfl ?_
      | refine WL.lenl' rfl rfl rfl rfl rfl rfl ?_
      | (refine WL.splitP rfl rfl rfl (fun _ => ?_) (fun _ => ?_) <;> (try (exfalso; omega)))
      | refine WL.box' rfl rfl rfl (fun _ => ?_)
      | refine WL.alloc' rfl rfl rfl (fun _ => ?_)
      | refine WL.store' rfl rfl rfl rfl (List.all_eq_true.1 (by kernel_rfl)) (by (repeat (first | exact Upd.head | apply Upd.tail | apply Upd.right))) (by decide) rfl rfl ?_
      | refine WL.buildA' rfl rfl rfl rfl (by kernel_rfl) rfl rfl ?_
      | refine WL.litA' rfl rfl rfl rfl rfl (by kernel_rfl) rfl rfl (fun _ => ?_)
      | refine WL.build' rfl rfl rfl rfl rfl rfl ?_
      | refine WL.callS' rfl rfl cf21 (kind_Type _ _ _) rfl rfl ?_
      | refine WL.cat' rfl rfl (by first | omega | (simp only [ByteArray.size_append]; omega)) rfl rfl ?_
      | refine WL.callS' rfl rfl cf22 (str_Contains _ _ _) rfl rfl ?_)
    | (show WL _ _ _ _ _ [] _ _; first
      | refine WL.done ?_
      | refine WL.goes (fun _ _ => rfl) ?_)
    | (show WC _ _ _ _ _ _ _; first
      | refine WC.seq (WC.region ?_)
      | refine WC.seq ?_
      | refine WC.region ?_
      | refine WC.block ?_
      | refine WC.yes rfl ?_
      | refine WC.no rfl ?_
      | (refine WC.ite rfl (fun _ => ?_) (fun _ => ?_) <;> (try (exfalso; omega)))
      | refine WC.goes (fun _ _ => rfl) ?_
      | refine WC.exits (fun _ _ => rfl) ?_
      | refine WC.done (fun _ _ => rfl) rfl ⟨?_, _, _, rfl⟩))
  all_goals (simp only [tupV]; congr 1; first | (rw [if_neg (by unfold Ent.ok; omega)]; done) | (simp_all [Ent.ok]; done) | skip)
  all_goals first
    | (rw [if_neg]; intro h; have h5 := h.2.2.2.2; simp only [nul, decide_eq_false_iff_not] at h5; contradiction)
    | (rw [if_pos]; refine ⟨⟨by assumption, by omega, by omega, by omega, by omega, by omega⟩, by omega, ?_, by assumption, decide_eq_false (by assumption)⟩; clear z1 z2 z3 z4; by_cases ha : e.link = ⟨#[]⟩ <;> by_cases hb : e.kind = 3 <;> simp_all)
end Go.Proofs.YtdapbkdfanlkkaaDoor
