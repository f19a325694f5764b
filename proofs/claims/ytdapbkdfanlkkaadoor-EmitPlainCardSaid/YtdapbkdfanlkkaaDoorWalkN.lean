/- The law of checks: the function. -/
import Derived.Test.YtdapbkdfanlkkaaDoorWalkM
set_option maxRecDepth 10000
set_option linter.unusedVariables false
set_option linter.unusedSimpArgs false
namespace Go.Proofs.YtdapbkdfanlkkaaDoor
open Go Go.Pan Go.RowKit

theorem typ_ne (k : Int) : typ k ≠ 0 ↔ 1 ≤ k ∧ k ≤ 4 := by
  unfold typ
  split
  · omega
  split
  · omega
  split
  · omega
  split
  · omega
  · omega
set_option maxHeartbeats 4000000 in
theorem law_EmitChecks (e : Ent) (hr : e.inr) (w0 : World) (hs : Hs) (ht : HasT hs) : CallsF Tryd.prog 5 [e.val] w0 hs (Same (.bool true) hs) := by
  refine CallsF.enter [(0, _)] rfl Tryd.func5 rfl rfl rfl rfl ?_
  (repeat refine WC.seq ?_); refine WC.region ?_
  refine WL.box' rfl rfl rfl (fun b1 => ?_)
  refine WL.pures rfl rfl rfl rfl rfl ?_
  refine WL.goes (fun _ _ => rfl) ?_
  (repeat refine WC.seq ?_); refine WC.region ?_
  refine WL.callS' rfl rfl cf6 (law_writes _ _ (ht.cons _)) rfl rfl ?_
  refine WL.pures rfl rfl rfl rfl rfl ?_
  refine WL.goes (fun _ _ => rfl) ?_
  (repeat refine WC.seq ?_); refine WC.no rfl ?_
  refine WC.goes (fun _ _ => rfl) ?_
  (repeat refine WC.seq ?_); refine WC.region ?_
  refine WL.load' (v := e.val) rfl rfl (.head (by kernel_rfl)) rfl rfl ?_
  refine WL.callS' rfl rfl cf7 (law_fits e _ _) rfl rfl ?_
  refine WL.pures rfl rfl rfl rfl rfl ?_
  refine WL.goes (fun _ _ => rfl) ?_
  cases hsb : e.smallb with
  | false =>
    (repeat refine WC.seq ?_); refine WC.yes rfl ?_
    (repeat refine WC.seq ?_); refine WC.region ?_
    refine WL.pures rfl rfl rfl rfl rfl ?_
    refine WL.goes (fun _ _ => rfl) ?_
    exact WC.doneS (fun _ _ => rfl) rfl (.skip (.refl _)) ⟨rfl, rfl⟩
  | true =>
  have hsm : e.small := by
    simp only [Ent.smallb, Bool.and_eq_true, decide_eq_true_eq] at hsb
    exact hsb
  (repeat refine WC.seq ?_); refine WC.no rfl ?_
  refine WC.goes (fun _ _ => rfl) ?_
  (repeat refine WC.seq ?_); refine WC.region ?_
  refine WL.pures rfl rfl rfl rfl rfl ?_
  refine WL.goes (fun _ _ => rfl) ?_
  (repeat refine WC.seq ?_); refine WC.region ?_
  refine WL.pures rfl rfl rfl rfl rfl ?_
  refine WL.load' rfl rfl (by (repeat (first | exact LdAt.head rfl | apply LdAt.tail | apply LdAt.right))) rfl rfl ?_
  refine WL.pures rfl rfl rfl rfl rfl ?_
  refine WL.load' rfl rfl (by (repeat (first | exact LdAt.head rfl | apply LdAt.tail | apply LdAt.right))) rfl rfl ?_
  refine WL.pures rfl rfl rfl rfl rfl ?_
  refine WL.load' rfl rfl (by (repeat (first | exact LdAt.head rfl | apply LdAt.tail | apply LdAt.right))) rfl rfl ?_
  refine WL.pures rfl rfl rfl rfl rfl ?_
  refine WL.load' rfl rfl (by (repeat (first | exact LdAt.head rfl | apply LdAt.tail | apply LdAt.right))) rfl rfl ?_
  refine WL.litL' (cells := #[.string e.path, .string e.link, .string e.user, .string e.group]) rfl rfl rfl rfl (by kernel_rfl) rfl rfl (fun bl => ?_)
  refine WL.lenl' rfl rfl rfl rfl rfl rfl ?_
  refine WL.pures rfl rfl rfl rfl rfl ?_
  refine WL.goes (fun _ _ => rfl) ?_
  (repeat refine WC.seq ?_); refine WC.block ?_
  refine WC.rounds 5 (WR.succ ?_)
  (repeat refine WC.seq ?_); refine WC.region ?_
  refine WL.pures rfl rfl rfl rfl rfl ?_
  refine WL.goes (fun _ _ => rfl) ?_
  (repeat refine WC.seq ?_); refine WC.yes rfl ?_
  refine WC.goes (fun _ _ => rfl) ?_
  (repeat refine WC.seq ?_)
  refine WC.cutB (σ := Bool) (x := .block 1 _) (fun b => [(1, .pointer (some ⟨b1, 0, none⟩)), (3, .bool b), (22, .slice (some ⟨bl, 0, none⟩) 4 4), (23, .int .i64 4), (24, .int .i64 0)]) (fun b => (bl, .cells #[.string e.path, .string e.link, .string e.user, .string e.group] 9 (0, 0)) :: (b1, .cells e.cells 23 (0, 0)) :: hs) (fun b => b = (false || nul e.path)) ?_ ?_
  · refine WC.block ?_
    (repeat refine WC.seq ?_); refine WC.region ?_
    refine WL.indexAddr' rfl rfl rfl (by omega) (by omega) rfl rfl ?_
    refine WL.load' (v := .string e.path) rfl rfl (.head rfl) rfl rfl ?_
    refine WL.pures rfl rfl rfl rfl rfl ?_
    refine WL.goes (fun _ _ => rfl) ?_
    (repeat refine WC.seq ?_); refine WC.region ?_
    refine WL.pures rfl rfl rfl rfl rfl ?_
    refine WL.lens' rfl rfl rfl rfl rfl rfl ?_
    refine WL.pures rfl rfl rfl rfl rfl ?_
    refine WL.goes (fun _ _ => rfl) ?_
    (repeat refine WC.seq ?_); refine WC.block ?_
    refine WC.loopS (σ := Nat × Bool) (fun s => [(1, .pointer (some ⟨b1, 0, none⟩)), (3, .bool s.2), (5, .string e.path), (22, .slice (some ⟨bl, 0, none⟩) 4 4), (23, .int .i64 4), (24, .int .i64 0), (29, .int .i64 e.path.size), (30, .int .i64 s.1)])
      (fun s => (bl, .cells #[.string e.path, .string e.link, .string e.user, .string e.group] 9 (0, 0)) :: (b1, .cells e.cells 23 (0, 0)) :: hs) (fun s => s.1 ≤ e.path.size ∧ s.2 = (false || nz0 e.path s.1)) (fun s => e.path.size - s.1) (0, false) ⟨rfl, rfl, rfl, rfl, rfl, rfl, rfl, rfl, trivial⟩ (HDrop.sub (.keep1 (by kernel_rfl) (.keep1 (by kernel_rfl) (.refl _)))) ⟨Nat.zero_le _, by simp [nz0]⟩ ?_
    rintro ⟨j, b⟩ ⟨hj, hb⟩
    simp only at hj hb
    (repeat refine WC.seq ?_); refine WC.region ?_
    refine WL.pures rfl rfl rfl rfl rfl ?_
    refine WL.goes (fun _ _ => rfl) ?_
    (repeat refine WC.seq ?_); refine WC.ite rfl (fun c => ?_) (fun c => ?_)
    · have c' : (j : Int) < e.path.size := c
      have hjl : j < e.path.size := by omega
      have hch : e.path[j]? = some (e.path[j]'hjl) := by simp [hjl]
      have hnz := nz0_succ hch
      have hsz : e.path.size ≤ 5000 := by first | exact hsm.1 | exact hsm.2.1 | exact hsm.2.2.1 | exact hsm.2.2.2
      generalize e.path[j]'hjl = ch at hch hnz
      refine WC.goes (fun _ _ => rfl) ?_
      (repeat refine WC.seq ?_); refine WC.block ?_
      (repeat refine WC.seq ?_); refine WC.region ?_
      refine WL.pures rfl rfl rfl rfl rfl ?_
      refine WL.goes (fun _ _ => rfl) ?_
      cases b with
      | true =>
        (repeat refine WC.seq ?_); refine WC.region ?_
        refine WL.pure rfl rfl rfl rfl ?_
        refine WL.pure rfl rfl rfl rfl ?_
        refine WL.pass rfl rfl ?_
        refine WL.pass rfl rfl ?_
        refine WL.pass rfl rfl ?_
        refine WL.pass rfl rfl ?_
        refine WL.pures rfl rfl rfl rfl rfl ?_
        refine WL.goes (fun _ _ => rfl) ?_
        (repeat refine WC.seq ?_); refine WC.region ?_
        refine WL.arith' rfl rfl (binV_i64 rfl (by omega)) rfl rfl ?_
        refine WL.pures rfl rfl rfl rfl rfl ?_
        refine WL.again (j + 1, true) (fun _ _ => rfl) ⟨rfl, rfl, rfl, rfl, rfl, rfl, rfl, rfl, trivial⟩ (.refl _) ⟨hjl, by simp only; rw [hnz, ← Bool.or_assoc, ← hb]; rfl⟩ (by simp only; omega)
      | false =>
        (repeat refine WC.seq ?_); refine WC.region ?_
        refine WL.pures rfl rfl rfl rfl rfl ?_
        refine WL.char' rfl rfl rfl (by omega) hch rfl rfl ?_
        refine WL.pures rfl rfl rfl rfl rfl ?_
        refine WL.goes (fun _ _ => rfl) ?_
        (repeat refine WC.seq ?_); refine WC.region ?_
        refine WL.arith' rfl rfl (binV_i64 rfl (by omega)) rfl rfl ?_
        refine WL.pures rfl rfl rfl rfl rfl ?_
        refine WL.again (j + 1, _) (fun _ _ => rfl) ⟨rfl, rfl, rfl, rfl, rfl, rfl, rfl, rfl, trivial⟩ (.refl _) ⟨hjl, by simp only; rw [hnz, ← Bool.or_assoc, ← hb]; rfl⟩ (by simp only; omega)
    · have c' : ¬ (j : Int) < e.path.size := c
      obtain rfl : j = e.path.size := by omega
      refine WC.meetx b (fun _ _ => rfl) ⟨rfl, rfl, rfl, rfl, rfl, trivial⟩ (.refl _) (by rw [hb, nz0_full])
  rintro a0 ha0
  (repeat refine WC.seq ?_); refine WC.region ?_
  refine WL.arith' rfl rfl (binV_i64 rfl (by omega)) rfl rfl ?_
  refine WL.pures rfl rfl rfl rfl rfl ?_
  refine WL.round (fun _ _ => rfl) (WR.succ ?_)
  (repeat refine WC.seq ?_); refine WC.region ?_
  refine WL.pures rfl rfl rfl rfl rfl ?_
  refine WL.goes (fun _ _ => rfl) ?_
  (repeat refine WC.seq ?_); refine WC.yes rfl ?_
  refine WC.goes (fun _ _ => rfl) ?_
  (repeat refine WC.seq ?_)
  refine WC.cutB (σ := Bool) (x := .block 1 _) (fun b => [(1, .pointer (some ⟨b1, 0, none⟩)), (3, .bool b), (22, .slice (some ⟨bl, 0, none⟩) 4 4), (23, .int .i64 4), (24, .int .i64 1)]) (fun b => (bl, .cells #[.string e.path, .string e.link, .string e.user, .string e.group] 9 (0, 0)) :: (b1, .cells e.cells 23 (0, 0)) :: hs) (fun b => b = (a0 || nul e.link)) ?_ ?_
  · refine WC.block ?_
    (repeat refine WC.seq ?_); refine WC.region ?_
    refine WL.indexAddr' rfl rfl rfl (by omega) (by omega) rfl rfl ?_
    refine WL.load' (v := .string e.link) rfl rfl (.head rfl) rfl rfl ?_
    refine WL.pures rfl rfl rfl rfl rfl ?_
    refine WL.goes (fun _ _ => rfl) ?_
    (repeat refine WC.seq ?_); refine WC.region ?_
    refine WL.pures rfl rfl rfl rfl rfl ?_
    refine WL.lens' rfl rfl rfl rfl rfl rfl ?_
    refine WL.pures rfl rfl rfl rfl rfl ?_
    refine WL.goes (fun _ _ => rfl) ?_
    (repeat refine WC.seq ?_); refine WC.block ?_
    refine WC.loopS (σ := Nat × Bool) (fun s => [(1, .pointer (some ⟨b1, 0, none⟩)), (3, .bool s.2), (5, .string e.link), (22, .slice (some ⟨bl, 0, none⟩) 4 4), (23, .int .i64 4), (24, .int .i64 1), (29, .int .i64 e.link.size), (30, .int .i64 s.1)])
      (fun s => (bl, .cells #[.string e.path, .string e.link, .string e.user, .string e.group] 9 (0, 0)) :: (b1, .cells e.cells 23 (0, 0)) :: hs) (fun s => s.1 ≤ e.link.size ∧ s.2 = (a0 || nz0 e.link s.1)) (fun s => e.link.size - s.1) (0, a0) ⟨rfl, rfl, rfl, rfl, rfl, rfl, rfl, rfl, trivial⟩ (HDrop.sub (.keep1 (by kernel_rfl) (.keep1 (by kernel_rfl) (.refl _)))) ⟨Nat.zero_le _, by simp [nz0]⟩ ?_
    rintro ⟨j, b⟩ ⟨hj, hb⟩
    simp only at hj hb
    (repeat refine WC.seq ?_); refine WC.region ?_
    refine WL.pures rfl rfl rfl rfl rfl ?_
    refine WL.goes (fun _ _ => rfl) ?_
    (repeat refine WC.seq ?_); refine WC.ite rfl (fun c => ?_) (fun c => ?_)
    · have c' : (j : Int) < e.link.size := c
      have hjl : j < e.link.size := by omega
      have hch : e.link[j]? = some (e.link[j]'hjl) := by simp [hjl]
      have hnz := nz0_succ hch
      have hsz : e.link.size ≤ 5000 := by first | exact hsm.1 | exact hsm.2.1 | exact hsm.2.2.1 | exact hsm.2.2.2
      generalize e.link[j]'hjl = ch at hch hnz
      refine WC.goes (fun _ _ => rfl) ?_
      (repeat refine WC.seq ?_); refine WC.block ?_
      (repeat refine WC.seq ?_); refine WC.region ?_
      refine WL.pures rfl rfl rfl rfl rfl ?_
      refine WL.goes (fun _ _ => rfl) ?_
      cases b with
      | true =>
        (repeat refine WC.seq ?_); refine WC.region ?_
        refine WL.pure rfl rfl rfl rfl ?_
        refine WL.pure rfl rfl rfl rfl ?_
        refine WL.pass rfl rfl ?_
        refine WL.pass rfl rfl ?_
        refine WL.pass rfl rfl ?_
        refine WL.pass rfl rfl ?_
        refine WL.pures rfl rfl rfl rfl rfl ?_
        refine WL.goes (fun _ _ => rfl) ?_
        (repeat refine WC.seq ?_); refine WC.region ?_
        refine WL.arith' rfl rfl (binV_i64 rfl (by omega)) rfl rfl ?_
        refine WL.pures rfl rfl rfl rfl rfl ?_
        refine WL.again (j + 1, true) (fun _ _ => rfl) ⟨rfl, rfl, rfl, rfl, rfl, rfl, rfl, rfl, trivial⟩ (.refl _) ⟨hjl, by simp only; rw [hnz, ← Bool.or_assoc, ← hb]; rfl⟩ (by simp only; omega)
      | false =>
        (repeat refine WC.seq ?_); refine WC.region ?_
        refine WL.pures rfl rfl rfl rfl rfl ?_
        refine WL.char' rfl rfl rfl (by omega) hch rfl rfl ?_
        refine WL.pures rfl rfl rfl rfl rfl ?_
        refine WL.goes (fun _ _ => rfl) ?_
        (repeat refine WC.seq ?_); refine WC.region ?_
        refine WL.arith' rfl rfl (binV_i64 rfl (by omega)) rfl rfl ?_
        refine WL.pures rfl rfl rfl rfl rfl ?_
        refine WL.again (j + 1, _) (fun _ _ => rfl) ⟨rfl, rfl, rfl, rfl, rfl, rfl, rfl, rfl, trivial⟩ (.refl _) ⟨hjl, by simp only; rw [hnz, ← Bool.or_assoc, ← hb]; rfl⟩ (by simp only; omega)
    · have c' : ¬ (j : Int) < e.link.size := c
      obtain rfl : j = e.link.size := by omega
      refine WC.meetx b (fun _ _ => rfl) ⟨rfl, rfl, rfl, rfl, rfl, trivial⟩ (.refl _) (by rw [hb, nz0_full])
  rintro a1 ha1
  (repeat refine WC.seq ?_); refine WC.region ?_
  refine WL.arith' rfl rfl (binV_i64 rfl (by omega)) rfl rfl ?_
  refine WL.pures rfl rfl rfl rfl rfl ?_
  refine WL.round (fun _ _ => rfl) (WR.succ ?_)
  (repeat refine WC.seq ?_); refine WC.region ?_
  refine WL.pures rfl rfl rfl rfl rfl ?_
  refine WL.goes (fun _ _ => rfl) ?_
  (repeat refine WC.seq ?_); refine WC.yes rfl ?_
  refine WC.goes (fun _ _ => rfl) ?_
  (repeat refine WC.seq ?_)
  refine WC.cutB (σ := Bool) (x := .block 1 _) (fun b => [(1, .pointer (some ⟨b1, 0, none⟩)), (3, .bool b), (22, .slice (some ⟨bl, 0, none⟩) 4 4), (23, .int .i64 4), (24, .int .i64 2)]) (fun b => (bl, .cells #[.string e.path, .string e.link, .string e.user, .string e.group] 9 (0, 0)) :: (b1, .cells e.cells 23 (0, 0)) :: hs) (fun b => b = (a1 || nul e.user)) ?_ ?_
  · refine WC.block ?_
    (repeat refine WC.seq ?_); refine WC.region ?_
    refine WL.indexAddr' rfl rfl rfl (by omega) (by omega) rfl rfl ?_
    refine WL.load' (v := .string e.user) rfl rfl (.head rfl) rfl rfl ?_
    refine WL.pures rfl rfl rfl rfl rfl ?_
    refine WL.goes (fun _ _ => rfl) ?_
    (repeat refine WC.seq ?_); refine WC.region ?_
    refine WL.pures rfl rfl rfl rfl rfl ?_
    refine WL.lens' rfl rfl rfl rfl rfl rfl ?_
    refine WL.pures rfl rfl rfl rfl rfl ?_
    refine WL.goes (fun _ _ => rfl) ?_
    (repeat refine WC.seq ?_); refine WC.block ?_
    refine WC.loopS (σ := Nat × Bool) (fun s => [(1, .pointer (some ⟨b1, 0, none⟩)), (3, .bool s.2), (5, .string e.user), (22, .slice (some ⟨bl, 0, none⟩) 4 4), (23, .int .i64 4), (24, .int .i64 2), (29, .int .i64 e.user.size), (30, .int .i64 s.1)])
      (fun s => (bl, .cells #[.string e.path, .string e.link, .string e.user, .string e.group] 9 (0, 0)) :: (b1, .cells e.cells 23 (0, 0)) :: hs) (fun s => s.1 ≤ e.user.size ∧ s.2 = (a1 || nz0 e.user s.1)) (fun s => e.user.size - s.1) (0, a1) ⟨rfl, rfl, rfl, rfl, rfl, rfl, rfl, rfl, trivial⟩ (HDrop.sub (.keep1 (by kernel_rfl) (.keep1 (by kernel_rfl) (.refl _)))) ⟨Nat.zero_le _, by simp [nz0]⟩ ?_
    rintro ⟨j, b⟩ ⟨hj, hb⟩
    simp only at hj hb
    (repeat refine WC.seq ?_); refine WC.region ?_
    refine WL.pures rfl rfl rfl rfl rfl ?_
    refine WL.goes (fun _ _ => rfl) ?_
    (repeat refine WC.seq ?_); refine WC.ite rfl (fun c => ?_) (fun c => ?_)
    · have c' : (j : Int) < e.user.size := c
      have hjl : j < e.user.size := by omega
      have hch : e.user[j]? = some (e.user[j]'hjl) := by simp [hjl]
      have hnz := nz0_succ hch
      have hsz : e.user.size ≤ 5000 := by first | exact hsm.1 | exact hsm.2.1 | exact hsm.2.2.1 | exact hsm.2.2.2
      generalize e.user[j]'hjl = ch at hch hnz
      refine WC.goes (fun _ _ => rfl) ?_
      (repeat refine WC.seq ?_); refine WC.block ?_
      (repeat refine WC.seq ?_); refine WC.region ?_
      refine WL.pures rfl rfl rfl rfl rfl ?_
      refine WL.goes (fun _ _ => rfl) ?_
      cases b with
      | true =>
        (repeat refine WC.seq ?_); refine WC.region ?_
        refine WL.pure rfl rfl rfl rfl ?_
        refine WL.pure rfl rfl rfl rfl ?_
        refine WL.pass rfl rfl ?_
        refine WL.pass rfl rfl ?_
        refine WL.pass rfl rfl ?_
        refine WL.pass rfl rfl ?_
        refine WL.pures rfl rfl rfl rfl rfl ?_
        refine WL.goes (fun _ _ => rfl) ?_
        (repeat refine WC.seq ?_); refine WC.region ?_
        refine WL.arith' rfl rfl (binV_i64 rfl (by omega)) rfl rfl ?_
        refine WL.pures rfl rfl rfl rfl rfl ?_
        refine WL.again (j + 1, true) (fun _ _ => rfl) ⟨rfl, rfl, rfl, rfl, rfl, rfl, rfl, rfl, trivial⟩ (.refl _) ⟨hjl, by simp only; rw [hnz, ← Bool.or_assoc, ← hb]; rfl⟩ (by simp only; omega)
      | false =>
        (repeat refine WC.seq ?_); refine WC.region ?_
        refine WL.pures rfl rfl rfl rfl rfl ?_
        refine WL.char' rfl rfl rfl (by omega) hch rfl rfl ?_
        refine WL.pures rfl rfl rfl rfl rfl ?_
        refine WL.goes (fun _ _ => rfl) ?_
        (repeat refine WC.seq ?_); refine WC.region ?_
        refine WL.arith' rfl rfl (binV_i64 rfl (by omega)) rfl rfl ?_
        refine WL.pures rfl rfl rfl rfl rfl ?_
        refine WL.again (j + 1, _) (fun _ _ => rfl) ⟨rfl, rfl, rfl, rfl, rfl, rfl, rfl, rfl, trivial⟩ (.refl _) ⟨hjl, by simp only; rw [hnz, ← Bool.or_assoc, ← hb]; rfl⟩ (by simp only; omega)
    · have c' : ¬ (j : Int) < e.user.size := c
      obtain rfl : j = e.user.size := by omega
      refine WC.meetx b (fun _ _ => rfl) ⟨rfl, rfl, rfl, rfl, rfl, trivial⟩ (.refl _) (by rw [hb, nz0_full])
  rintro a2 ha2
  (repeat refine WC.seq ?_); refine WC.region ?_
  refine WL.arith' rfl rfl (binV_i64 rfl (by omega)) rfl rfl ?_
  refine WL.pures rfl rfl rfl rfl rfl ?_
  refine WL.round (fun _ _ => rfl) (WR.succ ?_)
  (repeat refine WC.seq ?_); refine WC.region ?_
  refine WL.pures rfl rfl rfl rfl rfl ?_
  refine WL.goes (fun _ _ => rfl) ?_
  (repeat refine WC.seq ?_); refine WC.yes rfl ?_
  refine WC.goes (fun _ _ => rfl) ?_
  (repeat refine WC.seq ?_)
  refine WC.cutB (σ := Bool) (x := .block 1 _) (fun b => [(1, .pointer (some ⟨b1, 0, none⟩)), (3, .bool b), (22, .slice (some ⟨bl, 0, none⟩) 4 4), (23, .int .i64 4), (24, .int .i64 3)]) (fun b => (bl, .cells #[.string e.path, .string e.link, .string e.user, .string e.group] 9 (0, 0)) :: (b1, .cells e.cells 23 (0, 0)) :: hs) (fun b => b = (a2 || nul e.group)) ?_ ?_
  · refine WC.block ?_
    (repeat refine WC.seq ?_); refine WC.region ?_
    refine WL.indexAddr' rfl rfl rfl (by omega) (by omega) rfl rfl ?_
    refine WL.load' (v := .string e.group) rfl rfl (.head rfl) rfl rfl ?_
    refine WL.pures rfl rfl rfl rfl rfl ?_
    refine WL.goes (fun _ _ => rfl) ?_
    (repeat refine WC.seq ?_); refine WC.region ?_
    refine WL.pures rfl rfl rfl rfl rfl ?_
    refine WL.lens' rfl rfl rfl rfl rfl rfl ?_
    refine WL.pures rfl rfl rfl rfl rfl ?_
    refine WL.goes (fun _ _ => rfl) ?_
    (repeat refine WC.seq ?_); refine WC.block ?_
    refine WC.loopS (σ := Nat × Bool) (fun s => [(1, .pointer (some ⟨b1, 0, none⟩)), (3, .bool s.2), (5, .string e.group), (22, .slice (some ⟨bl, 0, none⟩) 4 4), (23, .int .i64 4), (24, .int .i64 3), (29, .int .i64 e.group.size), (30, .int .i64 s.1)])
      (fun s => (bl, .cells #[.string e.path, .string e.link, .string e.user, .string e.group] 9 (0, 0)) :: (b1, .cells e.cells 23 (0, 0)) :: hs) (fun s => s.1 ≤ e.group.size ∧ s.2 = (a2 || nz0 e.group s.1)) (fun s => e.group.size - s.1) (0, a2) ⟨rfl, rfl, rfl, rfl, rfl, rfl, rfl, rfl, trivial⟩ (HDrop.sub (.keep1 (by kernel_rfl) (.keep1 (by kernel_rfl) (.refl _)))) ⟨Nat.zero_le _, by simp [nz0]⟩ ?_
    rintro ⟨j, b⟩ ⟨hj, hb⟩
    simp only at hj hb
    (repeat refine WC.seq ?_); refine WC.region ?_
    refine WL.pures rfl rfl rfl rfl rfl ?_
    refine WL.goes (fun _ _ => rfl) ?_
    (repeat refine WC.seq ?_); refine WC.ite rfl (fun c => ?_) (fun c => ?_)
    · have c' : (j : Int) < e.group.size := c
      have hjl : j < e.group.size := by omega
      have hch : e.group[j]? = some (e.group[j]'hjl) := by simp [hjl]
      have hnz := nz0_succ hch
      have hsz : e.group.size ≤ 5000 := by first | exact hsm.1 | exact hsm.2.1 | exact hsm.2.2.1 | exact hsm.2.2.2
      generalize e.group[j]'hjl = ch at hch hnz
      refine WC.goes (fun _ _ => rfl) ?_
      (repeat refine WC.seq ?_); refine WC.block ?_
      (repeat refine WC.seq ?_); refine WC.region ?_
      refine WL.pures rfl rfl rfl rfl rfl ?_
      refine WL.goes (fun _ _ => rfl) ?_
      cases b with
      | true =>
        (repeat refine WC.seq ?_); refine WC.region ?_
        refine WL.pure rfl rfl rfl rfl ?_
        refine WL.pure rfl rfl rfl rfl ?_
        refine WL.pass rfl rfl ?_
        refine WL.pass rfl rfl ?_
        refine WL.pass rfl rfl ?_
        refine WL.pass rfl rfl ?_
        refine WL.pures rfl rfl rfl rfl rfl ?_
        refine WL.goes (fun _ _ => rfl) ?_
        (repeat refine WC.seq ?_); refine WC.region ?_
        refine WL.arith' rfl rfl (binV_i64 rfl (by omega)) rfl rfl ?_
        refine WL.pures rfl rfl rfl rfl rfl ?_
        refine WL.again (j + 1, true) (fun _ _ => rfl) ⟨rfl, rfl, rfl, rfl, rfl, rfl, rfl, rfl, trivial⟩ (.refl _) ⟨hjl, by simp only; rw [hnz, ← Bool.or_assoc, ← hb]; rfl⟩ (by simp only; omega)
      | false =>
        (repeat refine WC.seq ?_); refine WC.region ?_
        refine WL.pures rfl rfl rfl rfl rfl ?_
        refine WL.char' rfl rfl rfl (by omega) hch rfl rfl ?_
        refine WL.pures rfl rfl rfl rfl rfl ?_
        refine WL.goes (fun _ _ => rfl) ?_
        (repeat refine WC.seq ?_); refine WC.region ?_
        refine WL.arith' rfl rfl (binV_i64 rfl (by omega)) rfl rfl ?_
        refine WL.pures rfl rfl rfl rfl rfl ?_
        refine WL.again (j + 1, _) (fun _ _ => rfl) ⟨rfl, rfl, rfl, rfl, rfl, rfl, rfl, rfl, trivial⟩ (.refl _) ⟨hjl, by simp only; rw [hnz, ← Bool.or_assoc, ← hb]; rfl⟩ (by simp only; omega)
    · have c' : ¬ (j : Int) < e.group.size := c
      obtain rfl : j = e.group.size := by omega
      refine WC.meetx b (fun _ _ => rfl) ⟨rfl, rfl, rfl, rfl, rfl, trivial⟩ (.refl _) (by rw [hb, nz0_full])
  rintro a3 ha3
  (repeat refine WC.seq ?_); refine WC.region ?_
  refine WL.arith' rfl rfl (binV_i64 rfl (by omega)) rfl rfl ?_
  refine WL.pures rfl rfl rfl rfl rfl ?_
  refine WL.round (fun _ _ => rfl) (WR.succ ?_)
  (repeat refine WC.seq ?_); refine WC.region ?_
  refine WL.pures rfl rfl rfl rfl rfl ?_
  refine WL.goes (fun _ _ => rfl) ?_
  (repeat refine WC.seq ?_); refine WC.no rfl ?_
  refine WC.exits (fun _ _ => rfl) ?_
  have hnul : a3 = nul (e.path ++ e.link ++ e.user ++ e.group) := by
    rw [ha3, ha2, ha1, ha0, Bool.eq_iff_iff]
    simp only [Bool.or_eq_true, nul_iff, ByteArray.data_append, Array.toList_append, List.mem_append, reduceCtorEq, false_or]
  (repeat refine WC.seq ?_)
  refine WC.cutB (σ := Bool) (x := .region 15 _ _) (fun b => [(1, .pointer (some ⟨b1, 0, none⟩)), (3, .bool a3), (7, .bool b)]) (fun b => (b1, .cells e.cells 23 (0, 0)) :: hs) (fun b => (b = true ↔ e.kind = 2 ∨ e.kind = 3)) ?_ ?_
  · repeat' (first
      | (show WL _ _ _ _ _ (_ :: _) _ _; first
        | refine WL.pures rfl rfl rfl rfl rfl ?_
        | refine WL.pure rfl rfl rfl rfl ?_
        | refine WL.loadAll' rfl rfl (by (repeat (first | exact AllAt.head rfl | apply AllAt.tail | apply AllAt.right))) rfl rfl ?_
        | refine WL.load' rfl rfl (by (repeat (first | exact LdAt.head rfl | apply LdAt.tail | apply LdAt.right))) rfl rfl ?_
        | refine WL.pass rfl rfl ?_
        | refine WL.arith' rfl rfl (binV_i64 rfl (by omega)) rfl rfl ?_
        | refine WL.lens' rfl rfl rfl rfl rfl rfl ?_
        | refine WL.lenl' rfl rfl rfl rfl rfl rfl ?_
        | (refine WL.splitP rfl rfl rfl (fun _ => ?_) (fun _ => ?_) <;> (try (exfalso; omega)))
        | refine WL.box' rfl rfl rfl (fun _ => ?_)
        | refine WL.alloc' rfl rfl rfl (fun _ => ?_)
        | refine WL.store' rfl rfl rfl rfl (List.all_eq_true.1 (by kernel_rfl)) (by (repeat (first | exact Upd.head | apply Upd.tail | apply Upd.right))) (by decide) rfl rfl ?_
        | refine WL.buildA' rfl rfl rfl rfl (by kernel_rfl) rfl rfl ?_
        | refine WL.litA' rfl rfl rfl rfl rfl (by kernel_rfl) rfl rfl (fun _ => ?_)
        | refine WL.build' rfl rfl rfl rfl rfl rfl ?_)
      | (show WL _ _ _ _ _ [] _ _; first
        | refine WL.meet _ (fun _ _ => rfl) ⟨rfl, rfl, rfl, trivial⟩ (HDrop.sub (.skip (.refl _))) ?_
        | refine WL.done ?_
        | refine WL.goes (fun _ _ => rfl) ?_)
      | (show WC _ _ _ _ _ _ _; first
        | refine WC.seq (WC.region ?_)
        | refine WC.seq ?_
        | refine WC.region ?_
        | refine WC.block ?_
        | refine WC.yes rfl ?_
        | refine WC.no rfl ?_
        | (refine WC.ite rfl (fun _ => ?_) (fun _ => ?_) <;> (try (exfalso; omega)))
        | refine WC.goes (fun _ _ => rfl) ?_
        | refine WC.exits (fun _ _ => rfl) ?_))
    all_goals (simp only [decide_eq_true_eq, true_iff]; omega)
  rintro b7 hb7
  (repeat refine WC.seq ?_)
  refine WC.cutB (σ := Bool) (x := .region 16 _ _) (fun b => [(1, .pointer (some ⟨b1, 0, none⟩)), (8, .bool b)]) (fun b => (b1, .cells e.cells 23 (0, 0)) :: hs) (fun b => (b = true ↔ e.ok)) ?_ ?_
  · repeat' (first
      | (show WL _ _ _ _ _ (_ :: _) _ _; first
        | refine WL.pures rfl rfl rfl rfl rfl ?_
        | refine WL.pure rfl rfl rfl rfl ?_
        | refine WL.loadAll' rfl rfl (by (repeat (first | exact AllAt.head rfl | apply AllAt.tail | apply AllAt.right))) rfl rfl ?_
        | refine WL.load' rfl rfl (by (repeat (first | exact LdAt.head rfl | apply LdAt.tail | apply LdAt.right))) rfl rfl ?_
        | refine WL.pass rfl rfl ?_
        | refine WL.arith' rfl rfl (binV_i64 rfl (by omega)) rfl rfl ?_
        | refine WL.lens' rfl rfl rfl rfl rfl rfl ?_
        | refine WL.lenl' rfl rfl rfl rfl rfl rfl ?_
        | (refine WL.splitP rfl rfl rfl (fun _ => ?_) (fun _ => ?_) <;> (try (exfalso; omega)))
        | refine WL.box' rfl rfl rfl (fun _ => ?_)
        | refine WL.alloc' rfl rfl rfl (fun _ => ?_)
        | refine WL.store' rfl rfl rfl rfl (List.all_eq_true.1 (by kernel_rfl)) (by (repeat (first | exact Upd.head | apply Upd.tail | apply Upd.right))) (by decide) rfl rfl ?_
        | refine WL.buildA' rfl rfl rfl rfl (by kernel_rfl) rfl rfl ?_
        | refine WL.litA' rfl rfl rfl rfl rfl (by kernel_rfl) rfl rfl (fun _ => ?_)
        | refine WL.build' rfl rfl rfl rfl rfl rfl ?_)
      | (show WL _ _ _ _ _ [] _ _; first
        | refine WL.meet _ (fun _ _ => rfl) ⟨rfl, rfl, trivial⟩ (.refl _) ?_
        | refine WL.done ?_
        | refine WL.goes (fun _ _ => rfl) ?_)
      | (show WC _ _ _ _ _ _ _; first
        | refine WC.seq (WC.region ?_)
        | refine WC.seq ?_
        | refine WC.region ?_
        | refine WC.block ?_
        | refine WC.yes rfl ?_
        | refine WC.no rfl ?_
        | (refine WC.ite rfl (fun _ => ?_) (fun _ => ?_) <;> (try (exfalso; omega)))
        | refine WC.goes (fun _ _ => rfl) ?_
        | refine WC.exits (fun _ _ => rfl) ?_))
    all_goals first
      | (refine ⟨fun h => (by cases h), fun hok => ?_⟩
         exfalso
         obtain ⟨⟨t, o1, o2, o3, o4, o5⟩, o6, o7, o8, o9⟩ := hok
         rw [typ_ne] at t
         have o10 : b7 = decide ¬ e.link = ⟨#[]⟩ := Bool.eq_iff_iff.2 (hb7.trans (o7.trans (by simp only [decide_eq_true_eq, ne_eq])))
         first | omega | contradiction | (have o11 : ¬ e.path = ⟨#[]⟩ := o8; contradiction))
      | (refine ⟨fun h => ⟨⟨(typ_ne _).2 ⟨by assumption, by assumption⟩, by assumption, by assumption, by assumption, by assumption, by assumption⟩, by omega, ?_, by assumption, by rw [← hnul]; simpa using h⟩, fun hok => by rw [hnul, hok.2.2.2.2]; rfl⟩
         have o10 : b7 = decide ¬ e.link = ⟨#[]⟩ := by assumption
         rw [← hb7, o10, decide_eq_true_eq])
  rintro b8 hb8
  cases b8 with
  | true =>
    have hok : e.ok := hb8.1 rfl
    repeat' (first
      | (show WL _ _ _ _ _ (_ :: _) _ _; first
        | refine WL.load' (v := e.val) rfl rfl (.head (by kernel_rfl)) rfl rfl ?_
        | refine WL.pures rfl rfl rfl rfl rfl ?_
        | refine WL.pure rfl rfl rfl rfl ?_
        | refine WL.loadAll' rfl rfl (by (repeat (first | exact AllAt.head rfl | apply AllAt.tail | apply AllAt.right))) rfl rfl ?_
        | refine WL.load' rfl rfl (by (repeat (first | exact LdAt.head rfl | apply LdAt.tail | apply LdAt.right))) rfl rfl ?_
        | refine WL.pass rfl rfl ?_
        | refine WL.arith' rfl rfl (binV_i64 rfl (by omega)) rfl rfl ?_
        | refine WL.lens' rfl rfl rfl rfl rfl rfl ?_
        | refine WL.lenl' rfl rfl rfl rfl rfl rfl ?_
        | (refine WL.splitP rfl rfl rfl (fun _ => ?_) (fun _ => ?_) <;> (try (exfalso; omega)))
        | refine WL.box' rfl rfl rfl (fun _ => ?_)
        | refine WL.alloc' rfl rfl rfl (fun _ => ?_)
        | refine WL.store' rfl rfl rfl rfl (List.all_eq_true.1 (by kernel_rfl)) (by (repeat (first | exact Upd.head | apply Upd.tail | apply Upd.right))) (by decide) rfl rfl ?_
        | refine WL.buildA' rfl rfl rfl rfl (by kernel_rfl) rfl rfl ?_
        | refine WL.litA' rfl rfl rfl rfl rfl (by kernel_rfl) rfl rfl (fun _ => ?_)
        | refine WL.build' rfl rfl rfl rfl rfl rfl ?_
        | (refine WL.call' rfl rfl cf11 (emit_Check e hsm _ _) rfl rfl (fun v hs' hv => ?_); obtain ⟨rfl, bc, cc, rfl⟩ := hv; rw [if_pos hok]))
      | (show WL _ _ _ _ _ [] _ _; first
        | refine WL.done ?_
        | refine WL.goes (fun _ _ => rfl) ?_)
      | (show WC _ _ _ _ _ _ _; first
        | refine WC.seq (WC.region ?_)
        | refine WC.seq ?_
        | refine WC.region ?_
        | refine WC.block ?_
        | refine WC.yes rfl ?_
        | refine WC.no rfl ?_
        | (refine WC.ite rfl (fun _ => ?_) (fun _ => ?_) <;> (try (exfalso; omega)))
        | refine WC.goes (fun _ _ => rfl) ?_
        | refine WC.exits (fun _ _ => rfl) ?_
        | exact WC.doneS (fun _ _ => rfl) rfl (.skip (.skip (.refl _))) ⟨rfl, rfl⟩))
  | false =>
    have hok : ¬ e.ok := fun h => by cases hb8.2 h
    repeat' (first
      | (show WL _ _ _ _ _ (_ :: _) _ _; first
        | refine WL.load' (v := e.val) rfl rfl (.head (by kernel_rfl)) rfl rfl ?_
        | refine WL.pures rfl rfl rfl rfl rfl ?_
        | refine WL.pure rfl rfl rfl rfl ?_
        | refine WL.loadAll' rfl rfl (by (repeat (first | exact AllAt.head rfl | apply AllAt.tail | apply AllAt.right))) rfl rfl ?_
        | refine WL.load' rfl rfl (by (repeat (first | exact LdAt.head rfl | apply LdAt.tail | apply LdAt.right))) rfl rfl ?_
        | refine WL.pass rfl rfl ?_
        | refine WL.arith' rfl rfl (binV_i64 rfl (by omega)) rfl rfl ?_
        | refine WL.lens' rfl rfl rfl rfl rfl rfl ?_
        | refine WL.lenl' rfl rfl rfl rfl rfl rfl ?_
        | (refine WL.splitP rfl rfl rfl (fun _ => ?_) (fun _ => ?_) <;> (try (exfalso; omega)))
        | refine WL.box' rfl rfl rfl (fun _ => ?_)
        | refine WL.alloc' rfl rfl rfl (fun _ => ?_)
        | refine WL.store' rfl rfl rfl rfl (List.all_eq_true.1 (by kernel_rfl)) (by (repeat (first | exact Upd.head | apply Upd.tail | apply Upd.right))) (by decide) rfl rfl ?_
        | refine WL.buildA' rfl rfl rfl rfl (by kernel_rfl) rfl rfl ?_
        | refine WL.litA' rfl rfl rfl rfl rfl (by kernel_rfl) rfl rfl (fun _ => ?_)
        | refine WL.build' rfl rfl rfl rfl rfl rfl ?_
        | (refine WL.call' rfl rfl cf11 (emit_Check e hsm _ _) rfl rfl (fun v hs' hv => ?_); obtain ⟨rfl, bc, cc, rfl⟩ := hv; rw [if_neg hok]))
      | (show WL _ _ _ _ _ [] _ _; first
        | refine WL.done ?_
        | refine WL.goes (fun _ _ => rfl) ?_)
      | (show WC _ _ _ _ _ _ _; first
        | refine WC.seq (WC.region ?_)
        | refine WC.seq ?_
        | refine WC.region ?_
        | refine WC.block ?_
        | refine WC.yes rfl ?_
        | refine WC.no rfl ?_
        | (refine WC.ite rfl (fun _ => ?_) (fun _ => ?_) <;> (try (exfalso; omega)))
        | refine WC.goes (fun _ _ => rfl) ?_
        | refine WC.exits (fun _ _ => rfl) ?_
        | exact WC.doneS (fun _ _ => rfl) rfl (.skip (.skip (.refl _))) ⟨rfl, rfl⟩))
end Go.Proofs.YtdapbkdfanlkkaaDoor
