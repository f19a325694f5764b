/- How records are written. -/
import Derived.Test.YtdapbkdfanlkkaaDoorWalkF
import Derived.Lib.ItoaLen
set_option maxRecDepth 10000
set_option linter.unusedVariables false
set_option linter.unusedSimpArgs false
namespace Go.Proofs.YtdapbkdfanlkkaaDoor
open Go Go.Pan Go.RowKit

theorem itoa_size (n : Int) (h0 : -9223372036854775808 ≤ n) (h1 : n ≤ 9223372036854775807) : (itoa n).size ≤ 21 := by
  have := Lib.itoa_length_le n h0 h1
  simpa [itoa, ByteArray.size] using this
/-- A record's key that can be written. -/
def kgood (k : ByteArray) : Bool := decide (k.size ≠ 0) && (decide (k.size ≤ 64) && ((k.data.toList.all fun b => decide (b.toNat < 128)) && !Lib.containsAny k.data.toList [61, 0, 10]))
/-- Is a record short enough? -/
def rshort (r : ByteArray × ByteArray) : Bool := decide (r.1.size + r.2.size ≤ 4096)
theorem pax_Check (k v : ByteArray) (hk : kgood k = true) (hv : v.size ≤ 100000) (w0 : World) (hs : Hs) :
    CallsF Tryd.prog 28 [.agg #[.string k, .string v]] w0 hs (Same (.int .i64 (if rshort (k, v) then 0 else 2)) hs) := by
  simp only [kgood, Bool.and_eq_true, decide_eq_true_eq, Bool.not_eq_true'] at hk
  obtain ⟨hk0, hk1, hk2, hk3⟩ := hk
  have hk0' : ¬ k = ⟨#[]⟩ := fun h => hk0 (by subst h; rfl)
  refine CallsF.enter [(0, _)] rfl Tryd.func28 rfl rfl rfl rfl ?_
  (repeat refine WC.seq ?_); refine WC.region ?_
  refine WL.box' rfl rfl rfl (fun b1 => ?_)
  refine WL.pures rfl rfl rfl rfl rfl ?_
  refine WL.goes (fun _ _ => rfl) ?_
  (repeat refine WC.seq ?_); refine WC.block ?_
  (repeat refine WC.seq ?_); refine WC.region ?_
  refine WL.pures rfl rfl rfl rfl rfl ?_
  refine WL.load' rfl rfl (by (repeat (first | exact LdAt.head rfl | apply LdAt.tail | apply LdAt.right))) rfl rfl ?_
  refine WL.pure rfl rfl rfl rfl ?_
  refine WL.pure rfl rfl rfl rfl ?_
  refine WL.splitP rfl rfl rfl (fun h => absurd h hk0') (fun h => ?_); refine WL.pures rfl rfl rfl rfl rfl ?_
  refine WL.load' rfl rfl (by (repeat (first | exact LdAt.head rfl | apply LdAt.tail | apply LdAt.right))) rfl rfl ?_
  refine WL.callS' rfl rfl cf41 (str_ContainsAny k _ (by omega) (by decide) hk2 (by decide) _ _) rfl rfl ?_; rw [show Lib.containsAny k.data.toList (ByteArray.mk #[61, 0, 10]).data.toList = false from hk3]
  refine WL.pures rfl rfl rfl rfl rfl ?_
  refine WL.goes (fun _ _ => rfl) ?_
  (repeat refine WC.seq ?_); refine WC.no rfl ?_
  (repeat refine WC.seq ?_); refine WC.region ?_
  refine WL.pures rfl rfl rfl rfl rfl ?_
  refine WL.load' rfl rfl (by (repeat (first | exact LdAt.head rfl | apply LdAt.tail | apply LdAt.right))) rfl rfl ?_
  refine WL.lens' rfl rfl rfl rfl rfl rfl ?_
  refine WL.pures rfl rfl rfl rfl rfl ?_
  refine WL.load' rfl rfl (by (repeat (first | exact LdAt.head rfl | apply LdAt.tail | apply LdAt.right))) rfl rfl ?_
  refine WL.lens' rfl rfl rfl rfl rfl rfl ?_
  refine WL.arith' rfl rfl (binV_i64 rfl (by omega)) rfl rfl ?_
  refine WL.pures rfl rfl rfl rfl rfl ?_
  refine WL.goes (fun _ _ => rfl) ?_
  (repeat refine WC.seq ?_); refine WC.ite rfl (fun c => ?_) (fun c => ?_)
  · (repeat refine WC.seq ?_); refine WC.region ?_
    refine WL.pures rfl rfl rfl rfl rfl ?_
    refine WL.goes (fun _ _ => rfl) ?_
    refine WC.doneS (fun _ _ => rfl) rfl (.skip (.refl _)) ⟨?_, rfl⟩
    have : rshort (k, v) = false := by simp only [rshort, decide_eq_false_iff_not]; omega
    rw [this]; rfl
  · refine WC.goes (fun _ _ => rfl) ?_
    (repeat refine WC.seq ?_); refine WC.region ?_
    refine WL.pures rfl rfl rfl rfl rfl ?_
    refine WL.goes (fun _ _ => rfl) ?_
    refine WC.doneS (fun _ _ => rfl) rfl (.skip (.refl _)) ⟨?_, rfl⟩
    have : rshort (k, v) = true := by simp only [rshort, decide_eq_true_eq]; omega
    rw [this]; rfl
/-- How long a record's line is. -/
def plen (r : ByteArray × ByteArray) : Nat :=
  let n := r.1.size + r.2.size + 3
  let d := (itoa (n : Nat)).size
  n + if d < (itoa ((n + d : Nat) : Int)).size then d + 1 else d
theorem pax_length (k v : ByteArray) (hk : k.size ≤ 100000) (hv : v.size ≤ 100000) (w0 : World) (hs : Hs) (ht : HasT hs) :
    CallsF Tryd.prog 31 [.agg #[.string k, .string v]] w0 hs (Same (.int .i64 (plen (k, v))) hs) := by
  have z1 := itoa_size ((k.size + v.size + 3 : Nat) : Int) (by omega) (by omega)
  have e3 : ((k.size : Int) + v.size) + 3 = ((k.size + v.size + 3 : Nat) : Int) := by omega
  generalize hd : (itoa ((k.size + v.size + 3 : Nat) : Int)).size = d at z1
  have e4 : ((k.size + v.size + 3 : Nat) : Int) + (d : Int) = ((k.size + v.size + 3 + d : Nat) : Int) := by omega
  refine CallsF.enter [(0, _)] rfl Tryd.func31 rfl rfl rfl rfl ?_
  (repeat refine WC.seq ?_); refine WC.region ?_
  refine WL.box' rfl rfl rfl (fun b1 => ?_)
  refine WL.pures rfl rfl rfl rfl rfl ?_
  refine WL.goes (fun _ _ => rfl) ?_
  (repeat refine WC.seq ?_); refine WC.region ?_
  refine WL.pures rfl rfl rfl rfl rfl ?_
  refine WL.load' rfl rfl (by (repeat (first | exact LdAt.head rfl | apply LdAt.tail | apply LdAt.right))) rfl rfl ?_
  refine WL.lens' rfl rfl rfl rfl rfl rfl ?_
  refine WL.pures rfl rfl rfl rfl rfl ?_
  refine WL.load' rfl rfl (by (repeat (first | exact LdAt.head rfl | apply LdAt.tail | apply LdAt.right))) rfl rfl ?_
  refine WL.lens' rfl rfl rfl rfl rfl rfl ?_
  refine WL.arith' rfl rfl (binV_i64 rfl (by omega)) rfl rfl ?_
  refine WL.arith' rfl rfl (binV_i64 rfl (by omega)) rfl rfl ?_; rw [e3]
  refine WL.pures rfl rfl rfl rfl rfl ?_
  refine WL.goes (fun _ _ => rfl) ?_
  (repeat refine WC.seq ?_); refine WC.region ?_
  refine WL.pures rfl rfl rfl rfl rfl ?_
  refine WL.callS' rfl rfl cf30 (str_Itoa _ (by omega) (by omega) _ _ (ht.cons _)) rfl rfl ?_
  refine WL.lens' rfl rfl rfl rfl rfl rfl ?_; rw [hd]
  refine WL.pures rfl rfl rfl rfl rfl ?_
  refine WL.goes (fun _ _ => rfl) ?_
  (repeat refine WC.seq ?_); refine WC.region ?_
  refine WL.pures rfl rfl rfl rfl rfl ?_
  refine WL.arith' rfl rfl (binV_i64 rfl (by omega)) rfl rfl ?_; rw [e4]
  refine WL.callS' rfl rfl cf30 (str_Itoa _ (by omega) (by omega) _ _ (ht.cons _)) rfl rfl ?_
  refine WL.lens' rfl rfl rfl rfl rfl rfl ?_
  refine WL.pures rfl rfl rfl rfl rfl ?_
  refine WL.goes (fun _ _ => rfl) ?_
  (repeat refine WC.seq ?_); refine WC.ite rfl (fun c => ?_) (fun c => ?_)
  · (repeat refine WC.seq ?_); refine WC.region ?_
    refine WL.pures rfl rfl rfl rfl rfl ?_
    refine WL.arith' rfl rfl (binV_i64 rfl (by omega)) rfl rfl ?_
    refine WL.pures rfl rfl rfl rfl rfl ?_
    refine WL.goes (fun _ _ => rfl) ?_
    (repeat refine WC.seq ?_); refine WC.region ?_
    refine WL.pures rfl rfl rfl rfl rfl ?_
    refine WL.arith' rfl rfl (binV_i64 rfl (by omega)) rfl rfl ?_
    refine WL.pures rfl rfl rfl rfl rfl ?_
    refine WL.goes (fun _ _ => rfl) ?_
    refine WC.doneS (fun _ _ => rfl) rfl (.skip (.refl _)) ⟨?_, rfl⟩
    simp only [plen, tupV, hd]
    rw [if_pos (by omega)]; congr 1
  · refine WC.goes (fun _ _ => rfl) ?_
    (repeat refine WC.seq ?_); refine WC.region ?_
    refine WL.pures rfl rfl rfl rfl rfl ?_
    refine WL.arith' rfl rfl (binV_i64 rfl (by omega)) rfl rfl ?_
    refine WL.pures rfl rfl rfl rfl rfl ?_
    refine WL.goes (fun _ _ => rfl) ?_
    refine WC.doneS (fun _ _ => rfl) rfl (.skip (.refl _)) ⟨?_, rfl⟩
    simp only [plen, tupV, hd]
    rw [if_neg (by omega)]; congr 1
end Go.Proofs.YtdapbkdfanlkkaaDoor
