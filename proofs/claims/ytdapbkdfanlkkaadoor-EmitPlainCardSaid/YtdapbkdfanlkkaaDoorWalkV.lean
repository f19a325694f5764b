/- The law that what fits into a header is one block: the function. -/
import Derived.Test.YtdapbkdfanlkkaaDoorPureE
import Derived.Test.YtdapbkdfanlkkaaDoorWalkO
set_option maxRecDepth 10000
set_option linter.unusedVariables false
set_option linter.unusedSimpArgs false
namespace Go.Proofs.YtdapbkdfanlkkaaDoor
open Go Go.Pan Go.RowKit

theorem good_ent {e : Ent} (hok : e.ok) : GoodH ⟨e.head.toArray⟩ (tyB e.kind) e.mode.toNat (cutN e.uid 8).toNat (cutN e.gid 8).toNat (cutN e.size 12).toNat (cutN e.mtime 12).toNat := by
  have zS : ∀ (s : ByteArray) (n : Nat), (cutS s n).size ≤ n := fun s n => by
    have := fitsb_size (fitsb_cutS (s := s) (n := n) (by omega)); omega
  have N : ∀ {n : Int} {w : Nat}, 2 ≤ w → ofits n w = true → n.toNat < 8 ^ (w - 1) := fun {n w} hw h => by
    obtain ⟨m, rfl⟩ := Int.eq_ofNat_of_zero_le (ofits_nonneg h)
    exact ofits_pow hw h
  exact good_head (by have := fitsb_size (sname_fits e); omega) (zS e.link 100) (zS e.user 31) (zS e.group 31) (by have := fitsb_size (spre_fits e); omega)
    (N (w := 8) (by decide) (mode_fits hok)) (N (w := 8) (by decide) (ofits_cutN (by decide))) (N (w := 8) (by decide) (ofits_cutN (by decide))) (N (w := 12) (by decide) (ofits_cutN (by decide))) (N (w := 12) (by decide) (ofits_cutN (by decide))) rfl
theorem good_pax {n : Nat} (h : n ≤ 8192) : GoodH ⟨(paxHead n).toArray⟩ 120 420 0 0 n 0 :=
  good_head (by decide) (by decide) (by decide) (by decide) (by decide) (by decide) (by decide) (by decide) (by omega) (by decide) rfl
/-- The first block. -/
theorem first_good {e : Ent} (hok : e.ok) (hnt : ¬ toolong e.recs) : ∃ ty n0 n1 n2 n3 n4, GoodH ⟨(e.bytes.take 512).toArray⟩ ty n0 n1 n2 n3 n4 ∧ (¬ e.recs = [] → ty = 120) := by
  by_cases h : e.recs = []
  · have e1 : e.bytes.take 512 = e.head := by
      rw [Ent.bytes, Ent.ahead, if_pos h, List.nil_append, List.take_of_length_le (by rw [e.head_length]; exact Nat.le_refl _)]
    rw [e1]
    exact ⟨_, _, _, _, _, _, good_ent hok, fun h' => absurd h h'⟩
  · have hl : (paxs e.recs).length ≤ 8192 := by
      rcases Nat.lt_or_ge 8192 (paxs e.recs).length with h' | h'
      · exact absurd ⟨h, .inr h'⟩ hnt
      · exact h'
    have e1 : e.bytes.take 512 = paxHead (paxs e.recs).length := by
      rw [Ent.bytes, Ent.ahead, if_neg h, paxAll, List.append_assoc, List.append_assoc, List.take_left' (paxHead_length _)]
    rw [e1]
    exact ⟨_, _, _, _, _, _, good_pax hl, fun _ => rfl⟩
theorem bytes_len {e : Ent} : e.recs = [] ↔ e.bytes.length = 512 := by
  rw [Ent.bytes, List.length_append, e.head_length]
  constructor
  · intro h
    rw [Ent.ahead, if_pos h]; rfl
  · intro h
    by_cases h' : e.recs = []
    · exact h'
    · rw [Ent.ahead, if_neg h', paxAll_length] at h; omega
set_option maxHeartbeats 2000000 in
theorem law_EmitPlain (e : Ent) (hr : e.inr) (w0 : World) (hs : Hs) (ht : HasT hs) : CallsF Tryd.prog 3 [e.val] w0 hs (Same (.bool true) hs) := by
  refine CallsF.enter [(0, _)] rfl Tryd.func3 rfl rfl rfl rfl ?_
  (repeat refine WC.seq ?_); refine WC.region ?_
  refine WL.box' rfl rfl rfl (fun b1 => ?_)
  refine WL.pures rfl rfl rfl rfl rfl ?_
  refine WL.goes (fun _ _ => rfl) ?_
  (repeat refine WC.seq ?_); refine WC.region ?_
  refine WL.callS' rfl rfl cf6 (law_writes _ _ (ht.cons _)) rfl rfl ?_
  refine WL.pures rfl rfl rfl rfl rfl ?_
  refine WL.goes (fun _ _ => rfl) ?_
  (repeat refine WC.seq ?_); refine WC.no rfl ?_
  refine WC.goes (fun _ _ => rfl) ?_
  (repeat refine WC.seq ?_); refine WC.region ?_
  refine WL.load' (v := e.val) rfl rfl (.head (by kernel_rfl)) rfl rfl ?_
  refine WL.callS' rfl rfl cf7 (law_fits e _ _) rfl rfl ?_
  refine WL.pures rfl rfl rfl rfl rfl ?_
  refine WL.goes (fun _ _ => rfl) ?_
  cases hsb : e.smallb with
  | false =>
    (repeat refine WC.seq ?_); refine WC.yes rfl ?_
    (repeat refine WC.seq ?_); refine WC.region ?_
    refine WL.pures rfl rfl rfl rfl rfl ?_
    refine WL.goes (fun _ _ => rfl) ?_
    exact WC.doneS (fun _ _ => rfl) rfl (.skip (.refl _)) ⟨rfl, rfl⟩
  | true =>
  have hsm := smallb_of hsb
  (repeat refine WC.seq ?_); refine WC.no rfl ?_
  refine WC.goes (fun _ _ => rfl) ?_
  (repeat refine WC.seq ?_); refine WC.region ?_
  refine WL.load' (v := e.val) rfl rfl (.head (by kernel_rfl)) rfl rfl ?_
  refine WL.call' rfl rfl cf8 (emit_Entry e hsm hr _ _ (ht.cons _)) rfl rfl (fun v hs' hv => ?_); obtain ⟨A, n, cap, err, o, rfl, rfl, k1⟩ := hv.cases
  refine WL.pures rfl rfl rfl rfl rfl ?_
  refine WL.goes (fun _ _ => rfl) ?_
  by_cases e1 : err = 0
  case neg =>
    (repeat refine WC.seq ?_); refine WC.region ?_
    refine WL.pures rfl rfl rfl rfl rfl ?_
    refine WL.goes (fun _ _ => rfl) ?_
    (repeat refine WC.seq ?_); refine WC.ite rfl (fun c => ?_) (fun c => absurd (Decidable.not_not.1 c) e1)
    (repeat refine WC.seq ?_); refine WC.region ?_
    refine WL.pures rfl rfl rfl rfl rfl ?_
    refine WL.goes (fun _ _ => rfl) ?_
    exact WC.doneS (fun _ _ => rfl) rfl (.skipR (.skip (.refl _))) ⟨rfl, rfl⟩
  subst e1
  obtain ⟨hok, hnt, hn, own⟩ := k1 rfl
  have hcap : n ≤ cap := by
    obtain ⟨_, _, _, he, _, h⟩ := own.form
    cases he
    exact h
  (repeat refine WC.seq ?_); refine WC.region ?_
  refine WL.pures rfl rfl rfl rfl rfl ?_
  refine WL.goes (fun _ _ => rfl) ?_
  (repeat refine WC.seq ?_); refine WC.no rfl ?_
  refine WC.goes (fun _ _ => rfl) ?_
  (repeat refine WC.seq ?_); refine WC.region ?_
  refine WL.pures rfl rfl rfl rfl rfl ?_
  refine WL.load' (v := .string e.path) rfl rfl (.right (.head (by kernel_rfl))) rfl rfl ?_
  refine WL.call' rfl rfl cf9 (ref_Split e.path (by have := hsm.1; omega) _ _) rfl rfl (fun v hs' hv => ?_); obtain ⟨sp, sn, rfl, rfl⟩ := hv
  refine WL.pures rfl rfl rfl rfl rfl ?_
  refine WL.goes (fun _ _ => rfl) ?_
  (repeat refine WC.seq ?_)
  refine WC.cutB (σ := Bool) (x := .region 9 _ _) (fun b => [(1, .pointer (some ⟨b1, 0, none⟩)), (3, .slice A n cap), (8, .bool b)]) (fun b => o ++ ((b1, .cells e.val.cells 23 (0, 0)) :: hs)) (fun b => (b = true ↔ e.recs = [])) ?_ ?_
  · cases hsp : (splitp e.path).isSome
    all_goals (repeat' (first
      | (show WL _ _ _ _ _ (_ :: _) _ _; first
        | refine WL.pures rfl rfl rfl rfl rfl ?_
        | refine WL.pure rfl rfl rfl rfl ?_
        | refine WL.loadAll' rfl rfl (by (repeat (first | exact AllAt.head rfl | apply AllAt.tail | apply AllAt.right))) rfl rfl ?_
        | refine WL.load' rfl rfl (by (repeat (first | exact LdAt.head rfl | apply LdAt.tail | apply LdAt.right))) rfl rfl ?_
        | refine WL.pass rfl rfl ?_
        | refine WL.arith' rfl rfl (binV_i64 rfl (by omega)) rfl rfl ?_
        | refine WL.lens' rfl rfl rfl rfl rfl rfl ?_
        | refine WL.lenl' rfl rfl rfl rfl rfl rfl ?_
        | (refine WL.splitP rfl rfl rfl (fun _ => ?_) (fun _ => ?_) <;> (try (exfalso; omega)))
        | refine WL.box' rfl rfl rfl (fun _ => ?_)
        | refine WL.alloc' rfl rfl rfl (fun _ => ?_)
        | refine WL.store' rfl rfl rfl rfl (List.all_eq_true.1 (by kernel_rfl)) (by (repeat (first | exact Upd.head | apply Upd.tail | apply Upd.right))) (by decide) rfl rfl ?_
        | refine WL.buildA' rfl rfl rfl rfl (by kernel_rfl) rfl rfl ?_
        | refine WL.litA' rfl rfl rfl rfl rfl (by kernel_rfl) rfl rfl (fun _ => ?_)
        | refine WL.build' rfl rfl rfl rfl rfl rfl ?_)
      | (show WL _ _ _ _ _ [] _ _; first
        | refine WL.meet _ (fun _ _ => rfl) ⟨rfl, rfl, rfl, trivial⟩ (.refl _) ?_
        | refine WL.done ?_
        | refine WL.goes (fun _ _ => rfl) ?_)
      | (show WC _ _ _ _ _ _ _; first
        | refine WC.seq (WC.region ?_)
        | refine WC.seq ?_
        | refine WC.region ?_
        | refine WC.block ?_
        | refine WC.yes rfl ?_
        | refine WC.no rfl ?_
        | (refine WC.ite rfl (fun _ => ?_) (fun _ => ?_) <;> (try (exfalso; omega)))
        | refine WC.goes (fun _ _ => rfl) ?_
        | refine WC.exits (fun _ _ => rfl) ?_)))
    all_goals (rw [plain_iff e hok, hsp]; simp only [reduceCtorEq, false_and, false_iff, not_false_eq_true, decide_eq_true_eq, true_and])
    all_goals omega
  rintro b hb
  have hn512 : 512 ≤ n := by rw [hn, Ent.bytes, List.length_append, e.head_length]; omega
  have hbn : b = decide ((n : Int) = 512) := by
    rw [Bool.eq_iff_iff, decide_eq_true_eq, hb, bytes_len, ← hn]
    omega
  obtain ⟨ty, m0, m1, m2, m3, m4, hfirst, hty⟩ := first_good hok hnt
  obtain ⟨k, rfl⟩ : ∃ k, n = k + 512 := ⟨n - 512, by omega⟩
  have hbig : k + 512 ≤ 1000000 := by
    rw [hn, Ent.bytes, List.length_append, e.head_length, Ent.ahead]
    split
    · simp
    · rename_i hne
      rw [paxAll_length]
      have hpad : padn (paxs e.recs).length < 512 := Nat.mod_lt _ (by omega)
      have : ¬ 8192 < (paxs e.recs).length := fun h => hnt ⟨hne, .inr h⟩
      omega
  have cutH : ((enc8 e.bytes).take ((k + 512) * 1)).drop (k * 1) = enc8 e.head := by
    have hk : e.ahead.length = k := by
      have := hn
      rw [Ent.bytes, List.length_append, e.head_length] at this
      omega
    rw [Nat.mul_one, Nat.mul_one, List.take_of_length_le (by rw [enc8_length, ← hn]; exact Nat.le_refl _), Ent.bytes, enc8_append, List.drop_left' (by rw [enc8_length]; exact hk)]
  have cutF : ((enc8 e.bytes).take (512 * 1)).drop (0 * 1) = enc8 (e.bytes.take 512) := by
    rw [Nat.zero_mul, List.drop_zero, Nat.mul_one]
    simp [enc8, List.map_take]
  (repeat refine WC.seq ?_); refine WC.region ?_
  refine WL.pures rfl rfl rfl rfl rfl ?_
  refine WL.lenl' rfl rfl rfl rfl rfl rfl ?_
  refine WL.pures rfl rfl rfl rfl rfl ?_
  refine WL.goes (fun _ _ => rfl) ?_
  (repeat refine WC.seq ?_); refine WC.ite rfl (fun c => absurd hbn c) (fun c => ?_)
  refine WC.goes (fun _ _ => rfl) ?_
  (repeat refine WC.seq ?_); refine WC.region ?_
  refine WL.pures rfl rfl rfl rfl rfl ?_
  refine WL.lenl' rfl rfl rfl rfl rfl rfl ?_
  refine WL.arith' (r := (k : Int)) rfl rfl (by show some (IntKind.i64.wrap _) = _; rw [IntWalk.i64_in _ (by omega)]; congr 1; omega) rfl rfl ?_
  refine WL.slice' (l := (k : Int)) (h := ((k + 512 : Nat) : Int)) rfl rfl rfl rfl (by omega) (by omega) (by omega) hcap rfl rfl ?_
  refine WL.str' (l := e.head) rfl rfl rfl rfl (by rw [← cutH]; exact (own.rd _).cut (l := k) (r := k + 512) (by decide) (by omega) (Nat.le_refl _)) rfl rfl ?_
  refine WL.callS' rfl rfl cf10 (ref_Decode _ _ _ _ _ _ _ (good_ent hok) _ _) rfl rfl ?_
  refine WL.pures rfl rfl rfl rfl rfl ?_
  refine WL.alloc' rfl rfl rfl (fun b9 => ?_)
  refine WL.store' rfl rfl rfl rfl (List.all_eq_true.1 (by kernel_rfl)) .head (by decide) rfl rfl ?_
  refine WL.pures rfl rfl rfl rfl rfl ?_
  refine WL.goes (fun _ _ => rfl) ?_
  (repeat refine WC.seq ?_); refine WC.region ?_
  refine WL.pures rfl rfl rfl rfl rfl ?_
  refine WL.load' (v := .int .i64 1) rfl rfl (.head (by kernel_rfl)) rfl rfl ?_
  refine WL.pures rfl rfl rfl rfl rfl ?_
  refine WL.goes (fun _ _ => rfl) ?_
  (repeat refine WC.seq ?_); refine WC.no rfl ?_
  refine WC.goes (fun _ _ => rfl) ?_
  (repeat refine WC.seq ?_); refine WC.region ?_
  refine WL.pures rfl rfl rfl rfl rfl ?_
  refine WL.slice' (l := 0) (h := 512) rfl rfl rfl rfl (by decide) (by decide) (by omega) hcap rfl rfl ?_
  refine WL.str' (l := e.bytes.take 512) rfl rfl rfl rfl (by rw [← cutF]; exact ((own.rd _).cons _).cut (l := 0) (r := 512) (by decide) (by decide) (by omega)) rfl rfl ?_
  refine WL.callS' rfl rfl cf10 (ref_Decode _ _ _ _ _ _ _ hfirst _ _) rfl rfl ?_
  refine WL.pures rfl rfl rfl rfl rfl ?_
  refine WL.alloc' rfl rfl rfl (fun b11 => ?_)
  refine WL.store' rfl rfl rfl rfl (List.all_eq_true.1 (by kernel_rfl)) .head (by decide) rfl rfl ?_
  refine WL.pures rfl rfl rfl rfl rfl ?_
  refine WL.goes (fun _ _ => rfl) ?_
  cases b with
  | true =>
    repeat' (first
      | (show WL _ _ _ _ _ (_ :: _) _ _; first
        | refine WL.pures rfl rfl rfl rfl rfl ?_
        | refine WL.pure rfl rfl rfl rfl ?_
        | refine WL.loadAll' rfl rfl (by (repeat (first | exact AllAt.head rfl | apply AllAt.tail | apply AllAt.right))) rfl rfl ?_
        | refine WL.load' rfl rfl (by (repeat (first | exact LdAt.head rfl | apply LdAt.tail | apply LdAt.right))) rfl rfl ?_
        | refine WL.pass rfl rfl ?_
        | refine WL.arith' rfl rfl (binV_i64 rfl (by omega)) rfl rfl ?_
        | refine WL.lens' rfl rfl rfl rfl rfl rfl ?_
        | refine WL.lenl' rfl rfl rfl rfl rfl rfl ?_
        | (refine WL.splitP rfl rfl rfl (fun _ => ?_) (fun _ => ?_) <;> (try (exfalso; omega)))
        | refine WL.box' rfl rfl rfl (fun _ => ?_)
        | refine WL.alloc' rfl rfl rfl (fun _ => ?_)
        | refine WL.store' rfl rfl rfl rfl (List.all_eq_true.1 (by kernel_rfl)) (by (repeat (first | exact Upd.head | apply Upd.tail | apply Upd.right))) (by decide) rfl rfl ?_
        | refine WL.buildA' rfl rfl rfl rfl (by kernel_rfl) rfl rfl ?_
        | refine WL.litA' rfl rfl rfl rfl rfl (by kernel_rfl) rfl rfl (fun _ => ?_)
        | refine WL.build' rfl rfl rfl rfl rfl rfl ?_)
      | (show WL _ _ _ _ _ [] _ _; first
        | refine WL.done ?_
        | refine WL.goes (fun _ _ => rfl) ?_)
      | (show WC _ _ _ _ _ _ _; first
        | refine WC.seq (WC.region ?_)
        | refine WC.seq ?_
        | refine WC.region ?_
        | refine WC.block ?_
        | refine WC.yes rfl ?_
        | refine WC.no rfl ?_
        | (refine WC.ite rfl (fun _ => ?_) (fun _ => ?_) <;> (try (exfalso; omega)))
        | refine WC.goes (fun _ _ => rfl) ?_
        | refine WC.exits (fun _ _ => rfl) ?_
        | exact WC.doneS (fun _ _ => rfl) rfl (.skip (.skip (.skipR (.skip (.refl _))))) ⟨rfl, rfl⟩))
  | false =>
    have ht120 : ty = 120 := hty (fun h => by cases hb.2 h)
    subst ht120
    (repeat refine WC.seq ?_); refine WC.region ?_
    refine WL.pures rfl rfl rfl rfl rfl ?_
    refine WL.load' (v := .int .u8 ((120 : UInt8).toNat)) rfl rfl (.head (by kernel_rfl)) rfl rfl ?_
    refine WL.pures rfl rfl rfl rfl rfl ?_
    refine WL.goes (fun _ _ => rfl) ?_
    exact WC.doneS (fun _ _ => rfl) rfl (.skip (.skip (.skipR (.skip (.refl _))))) ⟨rfl, rfl⟩
end Go.Proofs.YtdapbkdfanlkkaaDoor
