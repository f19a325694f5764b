/- What the laws of entries ask first. -/
import Derived.Test.YtdapbkdfanlkkaaDoorWalkK
set_option maxRecDepth 10000
set_option linter.unusedVariables false
set_option linter.unusedSimpArgs false
namespace Go.Proofs.YtdapbkdfanlkkaaDoor
open Go Go.Pan Go.RowKit

def longp : ByteArray := ⟨(List.replicate 101 (97 : UInt8)).toArray⟩
theorem law_long (w0 : World) (hs : Hs) : CallsF Tryd.prog 12 [.int .i64 101] w0 hs (Same (.string longp) hs) := by
  refine CallsF.enter [(0, _)] rfl Tryd.func12 rfl rfl rfl rfl ?_
  (repeat refine WC.seq ?_); refine WC.region ?_
  refine WL.pures rfl rfl rfl rfl rfl ?_
  refine WL.goes (fun _ _ => rfl) ?_
  (repeat refine WC.seq ?_); refine WC.region ?_
  refine WL.pures rfl rfl rfl rfl rfl ?_
  refine WL.make' rfl rfl rfl rfl rfl (by decide) (by decide) (by decide) (by decide) rfl rfl (fun b => ?_)
  rw [made_enc8]; refine WL.pures rfl rfl rfl rfl rfl ?_
  refine WL.goes (fun _ _ => rfl) ?_
  (repeat refine WC.seq ?_); refine WC.region ?_
  refine WL.pures rfl rfl rfl rfl rfl ?_
  refine WL.lenl' rfl rfl rfl rfl rfl rfl ?_
  refine WL.pures rfl rfl rfl rfl rfl ?_
  refine WL.goes (fun _ _ => rfl) ?_
  (repeat refine WC.seq ?_); refine WC.block ?_
  refine WC.loopS (σ := Nat) (fun i => [(3, .slice (some ⟨b, 0, none⟩) 101 101), (8, .int .i64 101), (9, .int .i64 i)]) (fun i => (b, .cells (enc8 (List.replicate i (97 : UInt8) ++ List.replicate (101 - i) (0 : UInt8))).toArray 5 (0, 0)) :: hs) (fun i => i ≤ 101) (fun i => 101 - i) 0 ⟨rfl, rfl, rfl, trivial⟩ (HDrop.sub (.keep1 (by kernel_rfl) (.refl _))) (by decide) ?_
  intro i hi
  (repeat refine WC.seq ?_); refine WC.region ?_
  refine WL.pures rfl rfl rfl rfl rfl ?_
  refine WL.goes (fun _ _ => rfl) ?_
  (repeat refine WC.seq ?_); refine WC.ite rfl (fun c => ?_) (fun c => ?_)
  · have hil : i < 101 := by omega
    refine WC.goes (fun _ _ => rfl) ?_
    (repeat refine WC.seq ?_); refine WC.block ?_
    (repeat refine WC.seq ?_); refine WC.region ?_
    refine WL.pures rfl rfl rfl rfl rfl ?_
    refine WL.goes (fun _ _ => rfl) ?_
    (repeat refine WC.seq ?_); refine WC.region ?_
    refine WL.pures rfl rfl rfl rfl rfl ?_
    refine WL.indexAddr' rfl rfl rfl (by omega) (by omega) rfl rfl ?_; rw [Int.toNat_natCast]
    refine WL.store8L' (v := 97) rfl rfl rfl rfl .one (by simp; omega) rfl rfl (fun l' e' n' => ?_)
    refine WL.goes (fun _ _ => rfl) ?_
    have hl : l' = List.replicate (i + 1) (97 : UInt8) ++ List.replicate (101 - (i + 1)) (0 : UInt8) := by
      rw [e', show 0 + i * 1 = i by omega, put8, List.take_left' (by simp), List.length_cons, List.length_nil, show 101 - i = (101 - (i + 1)) + 1 by omega, List.replicate_succ, show i + (0 + 1) = i + 1 by omega]
      rw [List.replicate_succ' , List.drop_append]
      simp
    subst hl
    (repeat refine WC.seq ?_); refine WC.region ?_
    refine WL.arith' rfl rfl (binV_i64 rfl (by omega)) rfl rfl ?_
    refine WL.pures rfl rfl rfl rfl rfl ?_
    refine WL.again (i + 1) (fun _ _ => rfl) ⟨rfl, rfl, rfl, trivial⟩ (.refl _) (by omega) (by omega)
  · obtain rfl : i = 101 := by omega
    refine WC.exits (fun _ _ => rfl) ?_
    (repeat refine WC.seq ?_); refine WC.region ?_
    refine WL.pures rfl rfl rfl rfl rfl ?_
    refine WL.str' rfl rfl rfl rfl (rd8_whole .head (by simp) (Nat.le_refl _)) rfl rfl ?_
    refine WL.pures rfl rfl rfl rfl rfl ?_
    refine WL.goes (fun _ _ => rfl) ?_
    exact WC.doneS (fun _ _ => rfl) rfl (.skip (.refl _)) ⟨by kernel_rfl, rfl⟩
def Ent.smallb (e : Ent) : Bool := decide (e.path.size ≤ 5000) && (decide (e.link.size ≤ 5000) && (decide (e.user.size ≤ 5000) && decide (e.group.size ≤ 5000)))
theorem law_fits (e : Ent) (w0 : World) (hs : Hs) : CallsF Tryd.prog 7 [e.val] w0 hs (Same (.bool e.smallb) hs) := by
  refine CallsF.enter [(0, _)] rfl Tryd.func7 rfl rfl rfl rfl ?_
  repeat' (first
    | (show WL _ _ _ _ _ (_ :: _) _ _; first
      | refine WL.pures rfl rfl rfl rfl rfl ?_
      | refine WL.pure rfl rfl rfl rfl ?_
      | refine WL.loadAll' rfl rfl (by (repeat (first | exact AllAt.head rfl | apply AllAt.tail | apply AllAt.right))) rfl rfl ?_
      | refine WL.load' rfl rfl (by (repeat (first | exact LdAt.head rfl | apply LdAt.tail | apply LdAt.right))) rfl rfl ?_
      | refine WL.pass rfl rfl ?_
      | refine WL.arith' rfl rfl (binV_i64 rfl (by omega)) rfl rfl ?_
      | refine WL.lens' rfl rfl rfl rfl rfl rfl ?_
      | refine WL.lenl' rfl rfl rfl rfl rfl rfl ?_
      | (refine WL.splitP rfl rfl rfl (fun _ => ?_) (fun _ => ?_) <;> (try (exfalso; omega)))
      | refine WL.box' rfl rfl rfl (fun _ => ?_)
      | refine WL.alloc' rfl rfl rfl (fun _ => ?_)
      | refine WL.store' rfl rfl rfl rfl (List.all_eq_true.1 (by kernel_rfl)) (by (repeat (first | exact Upd.head | apply Upd.tail | apply Upd.right))) (by decide) rfl rfl ?_
      | refine WL.buildA' rfl rfl rfl rfl (by kernel_rfl) rfl rfl ?_
      | refine WL.litA' rfl rfl rfl rfl rfl (by kernel_rfl) rfl rfl (fun _ => ?_)
      | refine WL.build' rfl rfl rfl rfl rfl rfl ?_)
    | (show WL _ _ _ _ _ [] _ _; first
      | refine WL.done ?_
      | refine WL.goes (fun _ _ => rfl) ?_)
    | (show WC _ _ _ _ _ _ _; first
      | refine WC.seq (WC.region ?_)
      | refine WC.seq ?_
      | refine WC.region ?_
      | refine WC.block ?_
      | refine WC.yes rfl ?_
      | refine WC.no rfl ?_
      | (refine WC.ite rfl (fun _ => ?_) (fun _ => ?_) <;> (try (exfalso; omega)))
      | refine WC.goes (fun _ _ => rfl) ?_
      | refine WC.exits (fun _ _ => rfl) ?_
      | refine WC.doneS (fun _ _ => rfl) rfl (.skip (.refl _)) ⟨?_, rfl⟩))
  all_goals (show Value.bool _ = Value.bool _; refine congrArg Value.bool ?_; rw [Bool.eq_iff_iff]; simp only [Ent.smallb, Bool.and_eq_true, decide_eq_true_eq, reduceCtorEq, false_iff, true_iff]; omega)
/-- The two entries that are tried. -/
def ent1 : Ent := ⟨⟨#[97]⟩, ⟨#[]⟩, 1, 420, 0, 0, 0, 0, ⟨#[]⟩, ⟨#[]⟩⟩
def ent2 : Ent := ⟨longp, ⟨#[]⟩, 4, 0, 0, 0, 0, 0, ⟨#[]⟩, ⟨#[]⟩⟩
theorem itoa3 (n : Nat) (h1 : 100 ≤ n) (h2 : n < 1000) : (itoa n).size = 3 := by
  have : Lib.itoa (n : Int) = Lib.decDigits n := by
    unfold Lib.itoa
    rw [if_neg (by omega), Int.toNat_natCast]
  show (Lib.itoa n).toArray.size = 3
  rw [this, Lib.decDigits, dif_neg (by omega), Lib.decDigits, dif_neg (by omega), Lib.decDigits, dif_pos (by omega)]
  rfl
theorem ent1_recs : ent1.recs = [] := by
  have h : ∀ w : Int, 2 ≤ w → ofits 0 w = true := fun w hw => ofits_0 hw
  have e0 : ent1.m0 = [] := by kernel_rfl
  have e3 : ent1.m3 = [] := by kernel_rfl
  have e7 : ent1.m7 = [] := by
    simp only [Ent.m7, Ent.m6, Ent.m5, Ent.m4, e3, ent1, h 8 (by decide), h 12 (by decide), opt_t]
    rfl
  unfold Ent.recs
  rw [e7]; rfl
theorem ent2_recs : ent2.recs = [(kPath, longp)] := by
  have h : ∀ w : Int, 2 ≤ w → ofits 0 w = true := fun w hw => ofits_0 hw
  have e3 : ent2.m3 = [(kPath, longp)] := by kernel_rfl
  have e7 : ent2.m7 = [(kPath, longp)] := by
    simp only [Ent.m7, Ent.m6, Ent.m5, Ent.m4, e3, ent2, h 8 (by decide), h 12 (by decide), opt_t]
    rfl
  have h8 : recsOf [(kPath, longp)] keysL = [(kPath, longp)] := by kernel_rfl
  unfold Ent.recs
  rw [e7, h8]
theorem ent2_plen : plen (kPath, longp) = 111 := by
  have h1 := itoa3 108 (by decide) (by decide)
  have h2 := itoa3 111 (by decide) (by decide)
  have e1 : kPath.size = 4 := by kernel_rfl
  have e2 : longp.size = 101 := by kernel_rfl
  unfold plen
  simp only [e1, e2]
  rw [h1, h2]; rfl
theorem ent2_paxs : (paxs ent2.recs).length = 111 := by
  rw [ent2_recs, paxs_cons]
  have e1 : kPath.size = 4 := by kernel_rfl
  have e2 : longp.size = 101 := by kernel_rfl
  have h2 := itoa3 111 (by decide) (by decide)
  simp only [pline, ByteArray.size_append, ent2_plen, h2, e1, e2]
  rfl
theorem ent1_bytes : ent1.bytes.length = 512 := by
  rw [Ent.bytes, Ent.ahead, if_pos ent1_recs, List.length_append, ent1.head_length]; rfl
theorem ent2_bytes : ent2.bytes.length = 1536 := by
  rw [Ent.bytes, Ent.ahead, if_neg (by rw [ent2_recs]; simp), List.length_append, ent2.head_length, paxAll_length, ent2_paxs]; rfl
end Go.Proofs.YtdapbkdfanlkkaaDoor
