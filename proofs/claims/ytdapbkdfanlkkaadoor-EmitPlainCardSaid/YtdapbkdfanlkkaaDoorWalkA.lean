/- What kind.Type, octal's functions and sum's come to, by a walk. -/
import Derived.Test.YtdapbkdfanlkkaaDoorTab
import Derived.Test.YtdapbkdfanlkkaaDoorCoreH
import Derived.Test.YtdapbkdfanlkkaaDoorPureA
set_option maxRecDepth 10000
set_option linter.unusedVariables false
set_option linter.unusedSimpArgs false
namespace Go.Proofs.YtdapbkdfanlkkaaDoor
open Go Go.Pan

def typ (k : Int) : Int := if k = 1 then 48 else if k = 2 then 49 else if k = 3 then 50 else if k = 4 then 53 else 0
theorem kind_Type (k : Int) (w0 : World) (hs : Hs) : CallsF Tryd.prog 21 [.int .i64 k] w0 hs (Same (.int .u8 (typ k)) hs) := by
  refine CallsF.enter [(0, _)] rfl Tryd.func21 rfl rfl rfl rfl ?_
  repeat' (first
    | (show WL _ _ _ _ _ (_ :: _) _ _; first
      | refine WL.pures rfl rfl rfl rfl rfl ?_
      | refine WL.pure rfl rfl rfl rfl ?_
      | refine WL.loadAll' rfl rfl (by (repeat (first | exact AllAt.head rfl | apply AllAt.tail | apply AllAt.right))) rfl rfl ?_
      | refine WL.load' rfl rfl (by (repeat (first | exact LdAt.head rfl | apply LdAt.tail | apply LdAt.right))) rfl rfl ?_
      | refine WL.pass rfl rfl ?_
      | refine WL.arith' rfl rfl (binV_i64 rfl (by omega)) rfl rfl ?_
      | refine WL.lens' rfl rfl rfl rfl rfl rfl ?_
      | refine WL.lenl' rfl rfl rfl rfl rfl rfl ?_
      | (refine WL.splitP rfl rfl rfl (fun _ => ?_) (fun _ => ?_) <;> (try (exfalso; omega)))
      | refine WL.box' rfl rfl rfl (fun _ => ?_)
      | refine WL.alloc' rfl rfl rfl (fun _ => ?_)
      | refine WL.store' rfl rfl rfl rfl (List.all_eq_true.1 (by kernel_rfl)) (by (repeat (first | exact Upd.head | apply Upd.tail | apply Upd.right))) (by decide) rfl rfl ?_
      | refine WL.buildA' rfl rfl rfl rfl (by kernel_rfl) rfl rfl ?_
      | refine WL.litA' rfl rfl rfl rfl rfl (by kernel_rfl) rfl rfl (fun _ => ?_)
      | refine WL.build' rfl rfl rfl rfl rfl rfl ?_)
    | (show WL _ _ _ _ _ [] _ _; first
      | refine WL.done ?_
      | refine WL.goes (fun _ _ => rfl) ?_)
    | (show WC _ _ _ _ _ _ _; first
      | refine WC.done (fun _ _ => rfl) rfl ⟨?_, rfl⟩
      | refine WC.seq (WC.region ?_)
      | refine WC.seq ?_
      | refine WC.region ?_
      | refine WC.block ?_
      | refine WC.yes rfl ?_
      | refine WC.no rfl ?_
      | (refine WC.ite rfl (fun _ => ?_) (fun _ => ?_) <;> (try (exfalso; omega)))
      | refine WC.goes (fun _ _ => rfl) ?_
      | refine WC.exits (fun _ _ => rfl) ?_))
  all_goals (simp [typ, tupV, *])

theorem octal_digits (n : Int) (h0 : 0 ≤ n) (h1 : n ≤ 9223372036854775807) (w0 : World) (hs : Hs) : CallsF Tryd.prog 39 [.int .i64 n] w0 hs (Same (.int .i64 (odig n.toNat)) hs) := by
  obtain ⟨n, rfl⟩ := Int.eq_ofNat_of_zero_le h0
  rw [Int.toNat_natCast]
  have hle : odig n ≤ 21 := odig_lt (by omega) (by omega)
  refine CallsF.enter [(0, _)] rfl Tryd.func39 rfl rfl rfl rfl ?_
  repeat' (first
    | (show WL _ _ _ _ _ (_ :: _) _ _; first
      | refine WL.pures rfl rfl rfl rfl rfl ?_
      | refine WL.pure rfl rfl rfl rfl ?_
      | refine WL.loadAll' rfl rfl (by (repeat (first | exact AllAt.head rfl | apply AllAt.tail | apply AllAt.right))) rfl rfl ?_
      | refine WL.load' rfl rfl (by (repeat (first | exact LdAt.head rfl | apply LdAt.tail | apply LdAt.right))) rfl rfl ?_
      | refine WL.pass rfl rfl ?_
      | refine WL.arith' rfl rfl (binV_i64 rfl (by omega)) rfl rfl ?_
      | refine WL.lens' rfl rfl rfl rfl rfl rfl ?_
      | refine WL.lenl' rfl rfl rfl rfl rfl rfl ?_
      | (refine WL.splitP rfl rfl rfl (fun _ => ?_) (fun _ => ?_) <;> (try (exfalso; omega)))
      | refine WL.box' rfl rfl rfl (fun _ => ?_)
      | refine WL.alloc' rfl rfl rfl (fun _ => ?_)
      | refine WL.store' rfl rfl rfl rfl (List.all_eq_true.1 (by kernel_rfl)) (by (repeat (first | exact Upd.head | apply Upd.tail | apply Upd.right))) (by decide) rfl rfl ?_
      | refine WL.buildA' rfl rfl rfl rfl (by kernel_rfl) rfl rfl ?_
      | refine WL.litA' rfl rfl rfl rfl rfl (by kernel_rfl) rfl rfl (fun _ => ?_)
      | refine WL.build' rfl rfl rfl rfl rfl rfl ?_)
    | (show WL _ _ _ _ _ [] _ _; first
      | refine WL.done ?_
      | refine WL.goes (fun _ _ => rfl) ?_)
    | (show WC _ _ _ _ _ _ _; first
      | refine WC.loopS (σ := Nat × Nat) (fun s => [(0, .int .i64 s.1), (3, .int .i64 s.2)]) (fun _ => hs) (fun s => odig s.1 + s.2 = odig n + 1 ∧ 1 ≤ s.2 ∧ s.1 ≤ n) (fun s => s.1) (n, 1) ⟨rfl, rfl, trivial⟩ (.refl _) ⟨rfl, Nat.le_refl _, Nat.le_refl _⟩ ?_
      | refine WC.seq (WC.region ?_)
      | refine WC.seq ?_
      | refine WC.region ?_
      | refine WC.block ?_
      | refine WC.yes rfl ?_
      | refine WC.no rfl ?_
      | (refine WC.ite rfl (fun _ => ?_) (fun _ => ?_) <;> (try (exfalso; omega)))
      | refine WC.goes (fun _ _ => rfl) ?_
      | refine WC.exits (fun _ _ => rfl) ?_))
  rintro ⟨m, k⟩ ⟨hk, hk1, hmn⟩
  dsimp only at hk hk1 hmn ⊢
  by_cases hm : m < 8
  · rw [odig_small hm] at hk
    repeat' (first
      | (show WL _ _ _ _ _ (_ :: _) _ _; first
        | refine WL.pures rfl rfl rfl rfl rfl ?_
        | refine WL.pure rfl rfl rfl rfl ?_
        | refine WL.loadAll' rfl rfl (by (repeat (first | exact AllAt.head rfl | apply AllAt.tail | apply AllAt.right))) rfl rfl ?_
        | refine WL.load' rfl rfl (by (repeat (first | exact LdAt.head rfl | apply LdAt.tail | apply LdAt.right))) rfl rfl ?_
        | refine WL.pass rfl rfl ?_
        | refine WL.arith' rfl rfl (binV_i64 rfl (by omega)) rfl rfl ?_
        | refine WL.lens' rfl rfl rfl rfl rfl rfl ?_
        | refine WL.lenl' rfl rfl rfl rfl rfl rfl ?_
        | (refine WL.splitP rfl rfl rfl (fun _ => ?_) (fun _ => ?_) <;> (try (exfalso; omega)))
        | refine WL.box' rfl rfl rfl (fun _ => ?_)
        | refine WL.alloc' rfl rfl rfl (fun _ => ?_)
        | refine WL.store' rfl rfl rfl rfl (List.all_eq_true.1 (by kernel_rfl)) (by (repeat (first | exact Upd.head | apply Upd.tail | apply Upd.right))) (by decide) rfl rfl ?_
        | refine WL.buildA' rfl rfl rfl rfl (by kernel_rfl) rfl rfl ?_
        | refine WL.litA' rfl rfl rfl rfl rfl (by kernel_rfl) rfl rfl (fun _ => ?_)
        | refine WL.build' rfl rfl rfl rfl rfl rfl ?_)
      | (show WL _ _ _ _ _ [] _ _; first
        | refine WL.done ?_
        | refine WL.goes (fun _ _ => rfl) ?_)
      | (show WC _ _ _ _ _ _ _; first
        | refine WC.done (fun _ _ => rfl) rfl ⟨?_, rfl⟩
        | refine WC.seq (WC.region ?_)
        | refine WC.seq ?_
        | refine WC.region ?_
        | refine WC.block ?_
        | refine WC.yes rfl ?_
        | refine WC.no rfl ?_
        | (refine WC.ite rfl (fun _ => ?_) (fun _ => ?_) <;> (try (exfalso; omega)))
        | refine WC.goes (fun _ _ => rfl) ?_
        | refine WC.exits (fun _ _ => rfl) ?_))
    simp only [tupV]
    congr 1
    omega
  · have hb := odig_big hm
    have hp := odig_pos (m / 8)
    have hq : IntKind.i64.wrap (Int.tdiv (m : Int) 8) = ((m / 8 : Nat) : Int) := by
      rw [Int.tdiv_eq_ediv_of_nonneg (by omega), IntWalk.i64_in _ (by omega)]; omega
    repeat' (first
      | (show WL _ _ _ _ _ (_ :: _) _ _; first
        | refine WL.div' rfl rfl (by decide) hq rfl rfl ?_
        | refine WL.pures rfl rfl rfl rfl rfl ?_
        | refine WL.pure rfl rfl rfl rfl ?_
        | refine WL.loadAll' rfl rfl (by (repeat (first | exact AllAt.head rfl | apply AllAt.tail | apply AllAt.right))) rfl rfl ?_
        | refine WL.load' rfl rfl (by (repeat (first | exact LdAt.head rfl | apply LdAt.tail | apply LdAt.right))) rfl rfl ?_
        | refine WL.pass rfl rfl ?_
        | refine WL.arith' rfl rfl (binV_i64 rfl (by omega)) rfl rfl ?_
        | refine WL.lens' rfl rfl rfl rfl rfl rfl ?_
        | refine WL.lenl' rfl rfl rfl rfl rfl rfl ?_
        | (refine WL.splitP rfl rfl rfl (fun _ => ?_) (fun _ => ?_) <;> (try (exfalso; omega)))
        | refine WL.box' rfl rfl rfl (fun _ => ?_)
        | refine WL.alloc' rfl rfl rfl (fun _ => ?_)
        | refine WL.store' rfl rfl rfl rfl (List.all_eq_true.1 (by kernel_rfl)) (by (repeat (first | exact Upd.head | apply Upd.tail | apply Upd.right))) (by decide) rfl rfl ?_
        | refine WL.buildA' rfl rfl rfl rfl (by kernel_rfl) rfl rfl ?_
        | refine WL.litA' rfl rfl rfl rfl rfl (by kernel_rfl) rfl rfl (fun _ => ?_)
        | refine WL.build' rfl rfl rfl rfl rfl rfl ?_)
      | (show WL _ _ _ _ _ [] _ _; first
        | refine WL.again (m / 8, k + 1) (fun _ _ => rfl) ⟨rfl, rfl, trivial⟩ (.refl _) ⟨by dsimp only; omega, by dsimp only; omega, by dsimp only; omega⟩ (by dsimp only; omega)
        | refine WL.done ?_
        | refine WL.goes (fun _ _ => rfl) ?_)
      | (show WC _ _ _ _ _ _ _; first
        | refine WC.seq (WC.region ?_)
        | refine WC.seq ?_
        | refine WC.region ?_
        | refine WC.block ?_
        | refine WC.yes rfl ?_
        | refine WC.no rfl ?_
        | (refine WC.ite rfl (fun _ => ?_) (fun _ => ?_) <;> (try (exfalso; omega)))
        | refine WC.goes (fun _ _ => rfl) ?_
        | refine WC.exits (fun _ _ => rfl) ?_))

theorem octal_Fits (n w : Int) (h0 : -9223372036854775808 ≤ n) (h1 : n ≤ 9223372036854775807) (w0 : World) (hs : Hs) : CallsF Tryd.prog 26 [.int .i64 n, .int .i64 w] w0 hs (Same (.bool (ofits n w)) hs) := by
  refine CallsF.enter [(0, _), (1, _)] rfl Tryd.func26 rfl rfl rfl rfl ?_
  repeat' (first
    | (show WL _ _ _ _ _ (_ :: _) _ _; first
      | refine WL.pures rfl rfl rfl rfl rfl ?_
      | refine WL.pure rfl rfl rfl rfl ?_
      | refine WL.loadAll' rfl rfl (by (repeat (first | exact AllAt.head rfl | apply AllAt.tail | apply AllAt.right))) rfl rfl ?_
      | refine WL.load' rfl rfl (by (repeat (first | exact LdAt.head rfl | apply LdAt.tail | apply LdAt.right))) rfl rfl ?_
      | refine WL.pass rfl rfl ?_
      | refine WL.arith' rfl rfl (binV_i64 rfl (by omega)) rfl rfl ?_
      | refine WL.lens' rfl rfl rfl rfl rfl rfl ?_
      | refine WL.lenl' rfl rfl rfl rfl rfl rfl ?_
      | (refine WL.splitP rfl rfl rfl (fun _ => ?_) (fun _ => ?_) <;> (try (exfalso; omega)))
      | refine WL.box' rfl rfl rfl (fun _ => ?_)
      | refine WL.alloc' rfl rfl rfl (fun _ => ?_)
      | refine WL.store' rfl rfl rfl rfl (List.all_eq_true.1 (by kernel_rfl)) (by (repeat (first | exact Upd.head | apply Upd.tail | apply Upd.right))) (by decide) rfl rfl ?_
      | refine WL.buildA' rfl rfl rfl rfl (by kernel_rfl) rfl rfl ?_
      | refine WL.litA' rfl rfl rfl rfl rfl (by kernel_rfl) rfl rfl (fun _ => ?_)
      | refine WL.build' rfl rfl rfl rfl rfl rfl ?_
      | refine WL.callS' rfl rfl cf39 (octal_digits n (by assumption) h1 _ _) rfl rfl ?_)
    | (show WL _ _ _ _ _ [] _ _; first
      | refine WL.done ?_
      | refine WL.goes (fun _ _ => rfl) ?_)
    | (show WC _ _ _ _ _ _ _; first
      | refine WC.seq (WC.region ?_)
      | refine WC.seq ?_
      | refine WC.region ?_
      | refine WC.block ?_
      | refine WC.yes rfl ?_
      | refine WC.no rfl ?_
      | (refine WC.ite rfl (fun _ => ?_) (fun _ => ?_) <;> (try (exfalso; omega)))
      | refine WC.goes (fun _ _ => rfl) ?_
      | refine WC.exits (fun _ _ => rfl) ?_
      | refine WC.done (fun _ _ => rfl) rfl ⟨?_, rfl⟩))
  all_goals (simp [tupV, ofits, *])
theorem entry_Pad (n : Nat) (h1 : (n : Int) ≤ 9223372036854775807) (w0 : World) (hs : Hs) : CallsF Tryd.prog 23 [.int .i64 n] w0 hs (Same (.int .i64 (padn n)) hs) := by
  have e1 : Int.tmod (n : Int) 512 = ((n % 512 : Nat) : Int) := by rw [Int.tmod_eq_emod_of_nonneg (by omega)]; omega
  have e2 : Int.tmod (512 - ((n % 512 : Nat) : Int)) 512 = ((padn n : Nat) : Int) := by unfold padn; rw [Int.tmod_eq_emod_of_nonneg (by omega)]; omega
  refine CallsF.enter [(0, _)] rfl Tryd.func23 rfl rfl rfl rfl ?_
  repeat' (first
    | (show WL _ _ _ _ _ (_ :: _) _ _; first
      | refine WL.rem' rfl rfl (by decide) e1 rfl rfl ?_
      | refine WL.rem' rfl rfl (by decide) e2 rfl rfl ?_
      | refine WL.pures rfl rfl rfl rfl rfl ?_
      | refine WL.pure rfl rfl rfl rfl ?_
      | refine WL.loadAll' rfl rfl (by (repeat (first | exact AllAt.head rfl | apply AllAt.tail | apply AllAt.right))) rfl rfl ?_
      | refine WL.load' rfl rfl (by (repeat (first | exact LdAt.head rfl | apply LdAt.tail | apply LdAt.right))) rfl rfl ?_
      | refine WL.pass rfl rfl ?_
      | refine WL.arith' rfl rfl (binV_i64 rfl (by omega)) rfl rfl ?_
      | refine WL.lens' rfl rfl rfl rfl rfl rfl ?_
      | refine WL.lenl' rfl rfl rfl rfl rfl rfl ?_
      | (refine WL.splitP rfl rfl rfl (fun _ => ?_) (fun _ => ?_) <;> (try (exfalso; omega)))
      | refine WL.box' rfl rfl rfl (fun _ => ?_)
      | refine WL.alloc' rfl rfl rfl (fun _ => ?_)
      | refine WL.store' rfl rfl rfl rfl (List.all_eq_true.1 (by kernel_rfl)) (by (repeat (first | exact Upd.head | apply Upd.tail | apply Upd.right))) (by decide) rfl rfl ?_
      | refine WL.buildA' rfl rfl rfl rfl (by kernel_rfl) rfl rfl ?_
      | refine WL.litA' rfl rfl rfl rfl rfl (by kernel_rfl) rfl rfl (fun _ => ?_)
      | refine WL.build' rfl rfl rfl rfl rfl rfl ?_)
    | (show WL _ _ _ _ _ [] _ _; first
      | refine WL.done ?_
      | refine WL.goes (fun _ _ => rfl) ?_)
    | (show WC _ _ _ _ _ _ _; first
      | exact WC.done (fun _ _ => rfl) rfl ⟨rfl, rfl⟩
      | refine WC.seq (WC.region ?_)
      | refine WC.seq ?_
      | refine WC.region ?_
      | refine WC.block ?_
      | refine WC.yes rfl ?_
      | refine WC.no rfl ?_
      | (refine WC.ite rfl (fun _ => ?_) (fun _ => ?_) <;> (try (exfalso; omega)))
      | refine WC.goes (fun _ _ => rfl) ?_
      | refine WC.exits (fun _ _ => rfl) ?_))
theorem emit_Fill (n : Nat) (h1 : (n : Int) ≤ 9223372036854775807) (w0 : World) (hs : Hs) : CallsF Tryd.prog 13 [.int .i64 n] w0 hs (New1 (fun b => .slice (some ⟨b, 0, none⟩) (padn n) (padn n)) (fun _ => .cells (enc8 (List.replicate (padn n) 0)).toArray 5 (0, 0)) hs) := by
  have hp : padn n < 512 := Nat.mod_lt _ (by omega)
  refine CallsF.enter [(0, _)] rfl Tryd.func13 rfl rfl rfl rfl ?_
  repeat' (first
    | (show WL _ _ _ _ _ (_ :: _) _ _; first
      | refine WL.pures rfl rfl rfl rfl rfl ?_
      | refine WL.pure rfl rfl rfl rfl ?_
      | refine WL.loadAll' rfl rfl (by (repeat (first | exact AllAt.head rfl | apply AllAt.tail | apply AllAt.right))) rfl rfl ?_
      | refine WL.load' rfl rfl (by (repeat (first | exact LdAt.head rfl | apply LdAt.tail | apply LdAt.right))) rfl rfl ?_
      | refine WL.pass rfl rfl ?_
      | refine WL.arith' rfl rfl (binV_i64 rfl (by omega)) rfl rfl ?_
      | refine WL.lens' rfl rfl rfl rfl rfl rfl ?_
      | refine WL.lenl' rfl rfl rfl rfl rfl rfl ?_
      | (refine WL.splitP rfl rfl rfl (fun _ => ?_) (fun _ => ?_) <;> (try (exfalso; omega)))
      | refine WL.box' rfl rfl rfl (fun _ => ?_)
      | refine WL.alloc' rfl rfl rfl (fun _ => ?_)
      | refine WL.store' rfl rfl rfl rfl (List.all_eq_true.1 (by kernel_rfl)) (by (repeat (first | exact Upd.head | apply Upd.tail | apply Upd.right))) (by decide) rfl rfl ?_
      | refine WL.buildA' rfl rfl rfl rfl (by kernel_rfl) rfl rfl ?_
      | refine WL.litA' rfl rfl rfl rfl rfl (by kernel_rfl) rfl rfl (fun _ => ?_)
      | refine WL.build' rfl rfl rfl rfl rfl rfl ?_
      | refine WL.callS' rfl rfl cf23 (entry_Pad n h1 _ _) rfl rfl ?_
      | refine WL.make' rfl rfl rfl rfl rfl (by omega) (by omega) (by omega) (by omega) rfl rfl (fun b => ?_))
    | (show WL _ _ _ _ _ [] _ _; first
      | refine WL.done ?_
      | refine WL.goes (fun _ _ => rfl) ?_)
    | (show WC _ _ _ _ _ _ _; first
      | refine WC.seq (WC.region ?_)
      | refine WC.seq ?_
      | refine WC.region ?_
      | refine WC.block ?_
      | refine WC.yes rfl ?_
      | refine WC.no rfl ?_
      | (refine WC.ite rfl (fun _ => ?_) (fun _ => ?_) <;> (try (exfalso; omega)))
      | refine WC.goes (fun _ _ => rfl) ?_
      | refine WC.exits (fun _ _ => rfl) ?_
      | refine WC.done (fun _ _ => rfl) rfl ⟨_, rfl, ?_⟩))
  rw [Int.toNat_natCast, Nat.mul_one, made_enc8]
theorem emit_End (w0 : World) (hs : Hs) : CallsF Tryd.prog 14 [] w0 hs (New1 (fun b => .slice (some ⟨b, 0, none⟩) 1024 1024) (fun _ => .cells (enc8 (List.replicate 1024 0)).toArray 5 (0, 0)) hs) := by
  refine CallsF.enter [] rfl Tryd.func14 rfl rfl rfl rfl ?_
  repeat' (first
    | (show WL _ _ _ _ _ (_ :: _) _ _; first
      | refine WL.make' rfl rfl rfl rfl rfl (by decide) (by decide) (by decide) (by decide) rfl rfl (fun b => ?_)
      | refine WL.pures rfl rfl rfl rfl rfl ?_
      | refine WL.pure rfl rfl rfl rfl ?_
      | refine WL.loadAll' rfl rfl (by (repeat (first | exact AllAt.head rfl | apply AllAt.tail | apply AllAt.right))) rfl rfl ?_
      | refine WL.load' rfl rfl (by (repeat (first | exact LdAt.head rfl | apply LdAt.tail | apply LdAt.right))) rfl rfl ?_
      | refine WL.pass rfl rfl ?_
      | refine WL.arith' rfl rfl (binV_i64 rfl (by omega)) rfl rfl ?_
      | refine WL.lens' rfl rfl rfl rfl rfl rfl ?_
      | refine WL.lenl' rfl rfl rfl rfl rfl rfl ?_
      | (refine WL.splitP rfl rfl rfl (fun _ => ?_) (fun _ => ?_) <;> (try (exfalso; omega)))
      | refine WL.box' rfl rfl rfl (fun _ => ?_)
      | refine WL.alloc' rfl rfl rfl (fun _ => ?_)
      | refine WL.store' rfl rfl rfl rfl (List.all_eq_true.1 (by kernel_rfl)) (by (repeat (first | exact Upd.head | apply Upd.tail | apply Upd.right))) (by decide) rfl rfl ?_
      | refine WL.buildA' rfl rfl rfl rfl (by kernel_rfl) rfl rfl ?_
      | refine WL.litA' rfl rfl rfl rfl rfl (by kernel_rfl) rfl rfl (fun _ => ?_)
      | refine WL.build' rfl rfl rfl rfl rfl rfl ?_)
    | (show WL _ _ _ _ _ [] _ _; first
      | refine WL.done ?_
      | refine WL.goes (fun _ _ => rfl) ?_)
    | (show WC _ _ _ _ _ _ _; first
      | refine WC.done (fun _ _ => rfl) rfl ⟨_, rfl, ?_⟩
      | refine WC.seq (WC.region ?_)
      | refine WC.seq ?_
      | refine WC.region ?_
      | refine WC.block ?_
      | refine WC.yes rfl ?_
      | refine WC.no rfl ?_
      | (refine WC.ite rfl (fun _ => ?_) (fun _ => ?_) <;> (try (exfalso; omega)))
      | refine WC.goes (fun _ _ => rfl) ?_
      | refine WC.exits (fun _ _ => rfl) ?_))
  rw [made_enc8]; rfl

/-- a field's bytes, so many digits laid from the right -/
def fbuf (n K t : Nat) : List UInt8 := List.replicate (K - t) 0 ++ ofmt n t ++ [0]
theorem fbuf_length {n K t : Nat} (h : t ≤ K) : (fbuf n K t).length = K + 1 := by simp [fbuf, ofmt_length]; omega
theorem fbuf_put {n K t : Nat} (h : t < K) : put8 (fbuf n K t) (K - 1 - t) [(48 + n / 8 ^ t % 8).toUInt8] = fbuf n K (t + 1) := by
  have e1 : List.take (K - 1 - t) (fbuf n K t) = List.replicate (K - (t + 1)) 0 := by
    unfold fbuf
    rw [List.append_assoc, List.take_append_of_le_length (by simp; omega), List.take_replicate]
    congr 1; omega
  have e2 : List.drop (K - 1 - t + 1) (fbuf n K t) = ofmt n t ++ [0] := by
    unfold fbuf
    rw [List.append_assoc, List.drop_left' (by simp; omega)]
  unfold put8
  rw [e1, List.length_singleton, e2]
  simp [fbuf, ofmt_left]
theorem u8_digit (m : Nat) : IntKind.u8.wrap (48 + ((m % 8 : Nat) : Int)) = (((48 + m % 8).toUInt8).toNat : Int) := by
  have : (48 + m % 8).toUInt8.toNat = 48 + m % 8 := by
    rw [Nat.toUInt8, UInt8.toNat_ofNat']; omega
  rw [this, IntWalk.u8_in _ (by omega)]
  omega
theorem octal_Format (n w : Nat) (h1 : (n : Int) ≤ 9223372036854775807) (hw : 2 ≤ w) (hw' : w ≤ 24) (hfit : ofits n w = true) (w0 : World) (hs : Hs) :
    CallsF Tryd.prog 33 [.int .i64 n, .int .i64 w] w0 hs (New1 (fun b => .tuple #[.slice (some ⟨b, 0, none⟩) w w, .int .i64 0]) (fun _ => .cells (enc8 (ofmt n (w - 1) ++ [0])).toArray 5 (0, 0)) hs) := by
  refine CallsF.enter [(0, _), (1, _)] rfl Tryd.func33 rfl rfl rfl rfl ?_
  repeat' (first
    | (show WL _ _ _ _ _ (_ :: _) _ _; first
      | refine WL.pures rfl rfl rfl rfl rfl ?_
      | refine WL.pure rfl rfl rfl rfl ?_
      | refine WL.loadAll' rfl rfl (by (repeat (first | exact AllAt.head rfl | apply AllAt.tail | apply AllAt.right))) rfl rfl ?_
      | refine WL.load' rfl rfl (by (repeat (first | exact LdAt.head rfl | apply LdAt.tail | apply LdAt.right))) rfl rfl ?_
      | refine WL.pass rfl rfl ?_
      | refine WL.arith' rfl rfl (binV_i64 rfl (by omega)) rfl rfl ?_
      | refine WL.lens' rfl rfl rfl rfl rfl rfl ?_
      | refine WL.lenl' rfl rfl rfl rfl rfl rfl ?_
      | (refine WL.splitP rfl rfl rfl (fun _ => ?_) (fun _ => ?_) <;> (try (exfalso; omega)))
      | refine WL.box' rfl rfl rfl (fun _ => ?_)
      | refine WL.alloc' rfl rfl rfl (fun _ => ?_)
      | refine WL.store' rfl rfl rfl rfl (List.all_eq_true.1 (by kernel_rfl)) (by (repeat (first | exact Upd.head | apply Upd.tail | apply Upd.right))) (by decide) rfl rfl ?_
      | refine WL.buildA' rfl rfl rfl rfl (by kernel_rfl) rfl rfl ?_
      | refine WL.litA' rfl rfl rfl rfl rfl (by kernel_rfl) rfl rfl (fun _ => ?_)
      | refine WL.build' rfl rfl rfl rfl rfl rfl ?_
      | (refine WL.callS' rfl rfl cf26 (octal_Fits n w (by omega) h1 _ _) rfl rfl ?_; rw [hfit])
      | refine WL.make' rfl rfl rfl rfl rfl (by omega) (by omega) (by omega) (by omega) rfl rfl (fun b => ?_))
    | (show WL _ _ _ _ _ [] _ _; first
      | refine WL.done ?_
      | refine WL.goes (fun _ _ => rfl) ?_)
    | (show WC _ _ _ _ _ _ _; first
      | refine WC.seq (WC.region ?_)
      | refine WC.seq ?_
      | refine WC.region ?_
      | refine WC.block ?_
      | refine WC.yes rfl ?_
      | refine WC.no rfl ?_
      | (refine WC.ite rfl (fun _ => ?_) (fun _ => ?_) <;> (try (exfalso; omega)))
      | refine WC.goes (fun _ _ => rfl) ?_
      | refine WC.exits (fun _ _ => rfl) ?_
      | refine WC.loopS (σ := Nat) (fun t => [(0, .int .i64 ((n / 8 ^ t : Nat) : Int)), (6, .slice (some ⟨b, 0, none⟩) w w), (7, .int .i64 ((w : Int) - 2 - t))]) (fun t => (b, .cells (enc8 (fbuf n (w - 1) t)).toArray 5 (0, 0)) :: hs) (fun t => t ≤ w - 1) (fun t => w - t) 0 ?_ ?_ (Nat.zero_le _) ?_))
  · refine ⟨?_, ?_, ?_, trivial⟩
    · show some _ = some _
      simp
    · show some _ = some _
      simp
    · show some _ = some _
      simp
  · rw [Int.toNat_natCast, Nat.mul_one, made_enc8, show List.replicate w (0 : UInt8) = fbuf n (w - 1) 0 by
      simp only [fbuf, ofmt, List.append_nil, Nat.sub_zero]
      rw [← List.replicate_succ']
      congr 1
      omega]
    exact .refl _
  · intro t ht
    have hdiv : n / 8 ^ t ≤ n := Nat.div_le_self _ _
    have hlen := fbuf_length (n := n) ht
    by_cases hlt : t < w - 1
    · have e5 := fbuf_put (n := n) hlt
      have e6 : n / 8 ^ (t + 1) = n / 8 ^ t / 8 := by rw [Nat.pow_succ, ← Nat.div_div_eq_div_mul]
      generalize n / 8 ^ t = m at hdiv e5 e6 ⊢
      have e1 : Int.tmod (m : Int) 8 = ((m % 8 : Nat) : Int) := by rw [Int.tmod_eq_emod_of_nonneg (by omega)]; omega
      have e2 := u8_digit m
      have e3 : IntKind.i64.wrap (Int.tdiv (m : Int) 8) = ((m / 8 : Nat) : Int) := by
        rw [Int.tdiv_eq_ediv_of_nonneg (by omega), IntWalk.i64_in _ (by omega)]; omega
      have e4 : (0 + ((w : Int) - 2 - (t : Int)).toNat * 1) = w - 1 - 1 - t := by omega
      repeat' (first
        | (show WL _ _ _ _ _ (_ :: _) _ _; first
          | refine WL.pures rfl rfl rfl rfl rfl ?_
          | refine WL.pure rfl rfl rfl rfl ?_
          | refine WL.loadAll' rfl rfl (by (repeat (first | exact AllAt.head rfl | apply AllAt.tail | apply AllAt.right))) rfl rfl ?_
          | refine WL.load' rfl rfl (by (repeat (first | exact LdAt.head rfl | apply LdAt.tail | apply LdAt.right))) rfl rfl ?_
          | refine WL.pass rfl rfl ?_
          | refine WL.arith' rfl rfl (binV_i64 rfl (by omega)) rfl rfl ?_
          | refine WL.lens' rfl rfl rfl rfl rfl rfl ?_
          | refine WL.lenl' rfl rfl rfl rfl rfl rfl ?_
          | (refine WL.splitP rfl rfl rfl (fun _ => ?_) (fun _ => ?_) <;> (try (exfalso; omega)))
          | refine WL.box' rfl rfl rfl (fun _ => ?_)
          | refine WL.alloc' rfl rfl rfl (fun _ => ?_)
          | refine WL.store' rfl rfl rfl rfl (List.all_eq_true.1 (by kernel_rfl)) (by (repeat (first | exact Upd.head | apply Upd.tail | apply Upd.right))) (by decide) rfl rfl ?_
          | refine WL.buildA' rfl rfl rfl rfl (by kernel_rfl) rfl rfl ?_
          | refine WL.litA' rfl rfl rfl rfl rfl (by kernel_rfl) rfl rfl (fun _ => ?_)
          | refine WL.build' rfl rfl rfl rfl rfl rfl ?_
          | refine WL.rem' rfl rfl (by decide) e1 rfl rfl ?_
          | refine WL.conv' rfl rfl rfl e2 rfl rfl ?_
          | refine WL.indexAddr' rfl rfl rfl (by omega) (by omega) rfl rfl ?_
          | (refine WL.store8' rfl rfl rfl rfl (by (repeat (first | exact Upd.head | apply Upd.tail | apply Upd.right))) (by rw [e4, hlen]; omega) rfl rfl ?_; rw [e4, e5])
          | refine WL.div' rfl rfl (by decide) e3 rfl rfl ?_)
        | (show WL _ _ _ _ _ [] _ _; first
          | (refine WL.again (t + 1) (fun _ _ => rfl) ⟨by rw [e6]; rfl, rfl, ?_, trivial⟩ ?_ (by omega) (by omega))
          | refine WL.done ?_
          | refine WL.goes (fun _ _ => rfl) ?_)
        | (show WC _ _ _ _ _ _ _; first
          | refine WC.seq (WC.region ?_)
          | refine WC.seq ?_
          | refine WC.region ?_
          | refine WC.block ?_
          | refine WC.yes rfl ?_
          | refine WC.no rfl ?_
          | (refine WC.ite rfl (fun _ => ?_) (fun _ => ?_) <;> (try (exfalso; omega)))
          | refine WC.goes (fun _ _ => rfl) ?_
          | refine WC.exits (fun _ _ => rfl) ?_))
      · show some _ = some _
        congr 2
        omega
      · exact .refl _
    · obtain rfl : t = w - 1 := by omega
      repeat' (first
        | (show WL _ _ _ _ _ (_ :: _) _ _; first
          | refine WL.pures rfl rfl rfl rfl rfl ?_
          | refine WL.pure rfl rfl rfl rfl ?_
          | refine WL.loadAll' rfl rfl (by (repeat (first | exact AllAt.head rfl | apply AllAt.tail | apply AllAt.right))) rfl rfl ?_
          | refine WL.load' rfl rfl (by (repeat (first | exact LdAt.head rfl | apply LdAt.tail | apply LdAt.right))) rfl rfl ?_
          | refine WL.pass rfl rfl ?_
          | refine WL.arith' rfl rfl (binV_i64 rfl (by omega)) rfl rfl ?_
          | refine WL.lens' rfl rfl rfl rfl rfl rfl ?_
          | refine WL.lenl' rfl rfl rfl rfl rfl rfl ?_
          | (refine WL.splitP rfl rfl rfl (fun _ => ?_) (fun _ => ?_) <;> (try (exfalso; omega)))
          | refine WL.box' rfl rfl rfl (fun _ => ?_)
          | refine WL.alloc' rfl rfl rfl (fun _ => ?_)
          | refine WL.store' rfl rfl rfl rfl (List.all_eq_true.1 (by kernel_rfl)) (by (repeat (first | exact Upd.head | apply Upd.tail | apply Upd.right))) (by decide) rfl rfl ?_
          | refine WL.buildA' rfl rfl rfl rfl (by kernel_rfl) rfl rfl ?_
          | refine WL.litA' rfl rfl rfl rfl rfl (by kernel_rfl) rfl rfl (fun _ => ?_)
          | refine WL.build' rfl rfl rfl rfl rfl rfl ?_)
        | (show WL _ _ _ _ _ [] _ _; first
          | refine WL.done ?_
          | refine WL.goes (fun _ _ => rfl) ?_)
        | (show WC _ _ _ _ _ _ _; first
          | refine WC.done (fun _ _ => rfl) rfl ⟨b, rfl, ?_⟩
          | refine WC.seq (WC.region ?_)
          | refine WC.seq ?_
          | refine WC.region ?_
          | refine WC.block ?_
          | refine WC.yes rfl ?_
          | refine WC.no rfl ?_
          | (refine WC.ite rfl (fun _ => ?_) (fun _ => ?_) <;> (try (exfalso; omega)))
          | refine WC.goes (fun _ _ => rfl) ?_
          | refine WC.exits (fun _ _ => rfl) ?_))
      simp [fbuf]
end Go.Proofs.YtdapbkdfanlkkaaDoor
