/- The document's reading of a header that is right. -/
import Derived.Test.YtdapbkdfanlkkaaDoorWalkQ
set_option maxRecDepth 10000
set_option linter.unusedVariables false
set_option linter.unusedSimpArgs false
namespace Go.Proofs.YtdapbkdfanlkkaaDoor
open Go Go.Pan Go.RowKit

def kUstar : ByteArray := ⟨#[117, 115, 116, 97, 114, 0, 48, 48]⟩
/-- A header that is right: its sum, its numbers, its form, its type. -/
structure GoodH (s : ByteArray) (ty : UInt8) (n0 n1 n2 n3 n4 : Nat) : Prop where
  size : s.size = 512
  sum : numf (s.extract 148 156) (sum8 0 s.data.toList) 6
  f0 : numf (s.extract 100 108) n0 7
  f1 : numf (s.extract 108 116) n1 7
  f2 : numf (s.extract 116 124) n2 7
  f3 : numf (s.extract 124 136) n3 11
  f4 : numf (s.extract 136 148) n4 11
  us : s.extract 257 265 = kUstar
  ty : s[156]? = some ty
def hdecC (form : Int) (ty : UInt8) (x0 x1 x2 x3 x4 : ByteArray) (n0 n1 n2 n3 n4 : Int) : Array Value := #[.int .i64 form, .int .u8 ty.toNat, .string x0, .string x1, .string x2, .string x3, .string x4, .int .i64 n0, .int .i64 n1, .int .i64 n2, .int .i64 n3, .int .i64 n4]
theorem ex_size {s : ByteArray} {a b : Nat} (h : s.size = 512) : (s.extract a b).size ≤ 1000000 := by rw [ByteArray.size_extract]; omega
set_option maxHeartbeats 2000000 in
theorem ref_Decode (s : ByteArray) (ty : UInt8) (n0 n1 n2 n3 n4 : Nat) (g : GoodH s ty n0 n1 n2 n3 n4) (w0 : World) (hs : Hs) : CallsF Tryd.prog 10 [.string s] w0 hs
    (Same (.tuple #[.agg (hdecC 1 ty (textp (s.extract 0 100)) (textp (s.extract 157 257)) (textp (s.extract 345 500)) (textp (s.extract 265 297)) (textp (s.extract 297 329)) n0 n1 n2 n3 n4), .int .i64 0]) hs) := by
  have hsz := g.size
  have hty := g.ty
  refine CallsF.enter [(0, _)] rfl Tryd.func10 rfl rfl rfl rfl ?_
  (repeat refine WC.seq ?_); refine WC.region ?_
  refine WL.alloc' rfl rfl rfl (fun b2 => ?_)
  refine WL.pures rfl rfl rfl rfl rfl ?_
  refine WL.goes (fun _ _ => rfl) ?_
  (repeat refine WC.seq ?_); refine WC.region ?_
  refine WL.pures rfl rfl rfl rfl rfl ?_
  refine WL.lens' rfl rfl rfl rfl rfl rfl ?_
  refine WL.pures rfl rfl rfl rfl rfl ?_
  refine WL.goes (fun _ _ => rfl) ?_
  (repeat refine WC.seq ?_); refine WC.ite rfl (fun c => ?_) (fun c => ?_)
  · exfalso; omega
  refine WC.goes (fun _ _ => rfl) ?_
  (repeat refine WC.seq ?_); refine WC.region ?_
  refine WL.pures rfl rfl rfl rfl rfl ?_
  refine WL.callS' rfl rfl cf19 (ref_Right s hsz g.sum _ _) rfl rfl ?_
  refine WL.pures rfl rfl rfl rfl rfl ?_
  refine WL.goes (fun _ _ => rfl) ?_
  (repeat refine WC.seq ?_); refine WC.no rfl ?_
  refine WC.goes (fun _ _ => rfl) ?_
  (repeat refine WC.seq ?_); refine WC.region ?_
  refine WL.pures rfl rfl rfl rfl rfl ?_
  refine WL.char' rfl rfl rfl (by decide) hty rfl rfl ?_
  refine WL.build' (cells := hdecC 0 ty ⟨#[]⟩ ⟨#[]⟩ ⟨#[]⟩ ⟨#[]⟩ ⟨#[]⟩ 0 0 0 0 0) rfl rfl rfl (by kernel_rfl) rfl rfl ?_
  refine WL.alloc' rfl rfl rfl (fun b4 => ?_)
  refine WL.store' rfl rfl rfl rfl (List.all_eq_true.1 (by kernel_rfl)) (by (repeat (first | exact Upd.head | apply Upd.tail | apply Upd.right))) (Nat.le_of_ble_eq_true (by kernel_rfl)) rfl rfl ?_
  refine WL.goes (fun _ _ => rfl) ?_
  refine WC.hsub (hs' := (b4, .cells (hdecC 0 ty ⟨#[]⟩ ⟨#[]⟩ ⟨#[]⟩ ⟨#[]⟩ ⟨#[]⟩ 0 0 0 0 0) 35 (0, 0)) :: (b2, .cells (hdecC 0 0 ⟨#[]⟩ ⟨#[]⟩ ⟨#[]⟩ ⟨#[]⟩ ⟨#[]⟩ 0 0 0 0 0) 35 (0, 0)) :: hs) ?_ (HDrop.sub (.keep1 (by kernel_rfl) (.keep1 (by kernel_rfl) (.refl _))))
  (repeat refine WC.seq ?_); refine WC.region ?_
  refine WL.pures rfl rfl rfl rfl rfl ?_
  refine WL.cutS' (l := 0) (h := 100) rfl rfl rfl rfl (by decide) (by decide) (by omega) rfl rfl ?_
  refine WL.callS' rfl rfl cf18 (ref_text _ (ex_size hsz) _ _) rfl rfl ?_
  refine WL.pures rfl rfl rfl rfl rfl ?_
  refine WL.indexArr' rfl rfl rfl (by decide) (by decide) rfl rfl ?_
  refine WL.store' rfl rfl rfl rfl (List.all_eq_true.1 (by kernel_rfl)) (by (repeat (first | exact Upd.head | apply Upd.tail | apply Upd.right))) (Nat.le_of_ble_eq_true (by kernel_rfl)) rfl rfl ?_
  refine WL.goes (fun _ _ => rfl) ?_
  (repeat refine WC.seq ?_); refine WC.region ?_
  refine WL.pures rfl rfl rfl rfl rfl ?_
  refine WL.cutS' (l := 157) (h := 257) rfl rfl rfl rfl (by decide) (by decide) (by omega) rfl rfl ?_
  refine WL.callS' rfl rfl cf18 (ref_text _ (ex_size hsz) _ _) rfl rfl ?_
  refine WL.pures rfl rfl rfl rfl rfl ?_
  refine WL.indexArr' rfl rfl rfl (by decide) (by decide) rfl rfl ?_
  refine WL.store' rfl rfl rfl rfl (List.all_eq_true.1 (by kernel_rfl)) (by (repeat (first | exact Upd.head | apply Upd.tail | apply Upd.right))) (Nat.le_of_ble_eq_true (by kernel_rfl)) rfl rfl ?_
  refine WL.goes (fun _ _ => rfl) ?_
  refine WC.hsub (hs' := (b4, .cells (hdecC 0 ty (textp (s.extract 0 100)) (textp (s.extract 157 257)) ⟨#[]⟩ ⟨#[]⟩ ⟨#[]⟩ 0 0 0 0 0) 35 (0, 0)) :: (b2, .cells (hdecC 0 0 ⟨#[]⟩ ⟨#[]⟩ ⟨#[]⟩ ⟨#[]⟩ ⟨#[]⟩ 0 0 0 0 0) 35 (0, 0)) :: hs) ?_ (HDrop.sub (.keep1 (by kernel_rfl) (.keep1 (by kernel_rfl) (.refl _))))
  (repeat refine WC.seq ?_); refine WC.region ?_
  refine WL.litL' (cells := #[.int .i64 100, .int .i64 108, .int .i64 116, .int .i64 124, .int .i64 136, .int .i64 148]) rfl rfl rfl rfl (by kernel_rfl) rfl rfl (fun bf => ?_)
  refine WL.pures rfl rfl rfl rfl rfl ?_
  refine WL.goes (fun _ _ => rfl) ?_
  (repeat refine WC.seq ?_); refine WC.region ?_
  refine WL.pures rfl rfl rfl rfl rfl ?_
  refine WL.goes (fun _ _ => rfl) ?_
  (repeat refine WC.seq ?_); refine WC.block ?_
  refine WC.rounds 6 (WR.succ ?_)
  (repeat refine WC.seq ?_); refine WC.region ?_
  refine WL.pures rfl rfl rfl rfl rfl ?_
  refine WL.goes (fun _ _ => rfl) ?_
  (repeat refine WC.seq ?_); refine WC.yes rfl ?_
  refine WC.goes (fun _ _ => rfl) ?_
  (repeat refine WC.seq ?_)
  refine WC.cutB (σ := Unit) (x := .block 1 _) (fun _ => [(0, .string s), (2, .pointer (some ⟨b2, 0, none⟩)), (4, .pointer (some ⟨b4, 0, none⟩)), (5, .slice (some ⟨bf, 0, none⟩) 6 6), (6, .int .i64 0)]) (fun _ => (bf, .cells #[.int .i64 100, .int .i64 108, .int .i64 116, .int .i64 124, .int .i64 136, .int .i64 148] 3 (0, 0)) :: (b4, .cells (hdecC 0 ty (textp (s.extract 0 100)) (textp (s.extract 157 257)) ⟨#[]⟩ ⟨#[]⟩ ⟨#[]⟩ n0 0 0 0 0) 35 (0, 0)) :: (b2, .cells (hdecC 0 0 ⟨#[]⟩ ⟨#[]⟩ ⟨#[]⟩ ⟨#[]⟩ ⟨#[]⟩ 0 0 0 0 0) 35 (0, 0)) :: hs) (fun _ => True) ?_ ?_
  · refine WC.block ?_
    (repeat refine WC.seq ?_)
    refine WC.quiet mixed (by kernel_rfl) ?_
    refine WQ.pures rfl rfl rfl rfl rfl ?_
    refine WQ.indexAddr' rfl rfl rfl (by decide) (by decide) rfl rfl ?_
    refine WQ.load' (v := .int .i64 100) rfl rfl (.head rfl) rfl rfl ?_
    refine WQ.pures rfl rfl rfl rfl rfl ?_
    refine WQ.arith' rfl rfl (binV_i64 rfl (by decide)) rfl rfl ?_
    refine WQ.indexAddr' rfl rfl rfl (by decide) (by decide) rfl rfl ?_
    refine WQ.load' (v := .int .i64 108) rfl rfl (.head rfl) rfl rfl ?_
    refine WQ.cutS' (l := 100) (h := 108) rfl rfl rfl rfl (by decide) (by decide) (by omega) rfl rfl ?_
    refine WQ.callS' rfl rfl cf20 (ref_Parse (s.extract 100 108) n0 7 g.f0 _ _) rfl rfl ?_
    refine WQ.pures rfl rfl rfl rfl rfl ?_
    refine WQ.goes (fun _ _ => rfl) ?_
    (repeat refine WC.seq ?_); refine WC.region ?_
    refine WL.pures rfl rfl rfl rfl rfl ?_
    refine WL.goes (fun _ _ => rfl) ?_
    (repeat refine WC.seq ?_); refine WC.no rfl ?_
    refine WC.goes (fun _ _ => rfl) ?_
    (repeat refine WC.seq ?_); refine WC.region ?_
    refine WL.pures rfl rfl rfl rfl rfl ?_
    refine WL.indexArr' rfl rfl rfl (by decide) (by decide) rfl rfl ?_
    refine WL.store' rfl rfl rfl rfl (List.all_eq_true.1 (by kernel_rfl)) (by (repeat (first | exact Upd.head | apply Upd.tail | apply Upd.right))) (Nat.le_of_ble_eq_true (by kernel_rfl)) rfl rfl ?_
    refine WL.meet () (fun _ _ => rfl) ⟨rfl, rfl, rfl, rfl, rfl, trivial⟩ (HDrop.sub (.keep1 rfl (.keep1 (by kernel_rfl) (.keep1 (by kernel_rfl) (.refl _))))) trivial
  rintro _ -
  (repeat refine WC.seq ?_); refine WC.region ?_
  refine WL.pures rfl rfl rfl rfl rfl ?_
  refine WL.arith' rfl rfl (binV_i64 rfl (by omega)) rfl rfl ?_
  refine WL.pures rfl rfl rfl rfl rfl ?_
  refine WL.round (fun _ _ => rfl) (WR.succ ?_)
  (repeat refine WC.seq ?_); refine WC.region ?_
  refine WL.pures rfl rfl rfl rfl rfl ?_
  refine WL.goes (fun _ _ => rfl) ?_
  (repeat refine WC.seq ?_); refine WC.yes rfl ?_
  refine WC.goes (fun _ _ => rfl) ?_
  (repeat refine WC.seq ?_)
  refine WC.cutB (σ := Unit) (x := .block 1 _) (fun _ => [(0, .string s), (2, .pointer (some ⟨b2, 0, none⟩)), (4, .pointer (some ⟨b4, 0, none⟩)), (5, .slice (some ⟨bf, 0, none⟩) 6 6), (6, .int .i64 1)]) (fun _ => (bf, .cells #[.int .i64 100, .int .i64 108, .int .i64 116, .int .i64 124, .int .i64 136, .int .i64 148] 3 (0, 0)) :: (b4, .cells (hdecC 0 ty (textp (s.extract 0 100)) (textp (s.extract 157 257)) ⟨#[]⟩ ⟨#[]⟩ ⟨#[]⟩ n0 n1 0 0 0) 35 (0, 0)) :: (b2, .cells (hdecC 0 0 ⟨#[]⟩ ⟨#[]⟩ ⟨#[]⟩ ⟨#[]⟩ ⟨#[]⟩ 0 0 0 0 0) 35 (0, 0)) :: hs) (fun _ => True) ?_ ?_
  · refine WC.block ?_
    (repeat refine WC.seq ?_)
    refine WC.quiet mixed (by kernel_rfl) ?_
    refine WQ.pures rfl rfl rfl rfl rfl ?_
    refine WQ.indexAddr' rfl rfl rfl (by decide) (by decide) rfl rfl ?_
    refine WQ.load' (v := .int .i64 108) rfl rfl (.head rfl) rfl rfl ?_
    refine WQ.pures rfl rfl rfl rfl rfl ?_
    refine WQ.arith' rfl rfl (binV_i64 rfl (by decide)) rfl rfl ?_
    refine WQ.indexAddr' rfl rfl rfl (by decide) (by decide) rfl rfl ?_
    refine WQ.load' (v := .int .i64 116) rfl rfl (.head rfl) rfl rfl ?_
    refine WQ.cutS' (l := 108) (h := 116) rfl rfl rfl rfl (by decide) (by decide) (by omega) rfl rfl ?_
    refine WQ.callS' rfl rfl cf20 (ref_Parse (s.extract 108 116) n1 7 g.f1 _ _) rfl rfl ?_
    refine WQ.pures rfl rfl rfl rfl rfl ?_
    refine WQ.goes (fun _ _ => rfl) ?_
    (repeat refine WC.seq ?_); refine WC.region ?_
    refine WL.pures rfl rfl rfl rfl rfl ?_
    refine WL.goes (fun _ _ => rfl) ?_
    (repeat refine WC.seq ?_); refine WC.no rfl ?_
    refine WC.goes (fun _ _ => rfl) ?_
    (repeat refine WC.seq ?_); refine WC.region ?_
    refine WL.pures rfl rfl rfl rfl rfl ?_
    refine WL.indexArr' rfl rfl rfl (by decide) (by decide) rfl rfl ?_
    refine WL.store' rfl rfl rfl rfl (List.all_eq_true.1 (by kernel_rfl)) (by (repeat (first | exact Upd.head | apply Upd.tail | apply Upd.right))) (Nat.le_of_ble_eq_true (by kernel_rfl)) rfl rfl ?_
    refine WL.meet () (fun _ _ => rfl) ⟨rfl, rfl, rfl, rfl, rfl, trivial⟩ (HDrop.sub (.keep1 rfl (.keep1 (by kernel_rfl) (.keep1 (by kernel_rfl) (.refl _))))) trivial
  rintro _ -
  (repeat refine WC.seq ?_); refine WC.region ?_
  refine WL.pures rfl rfl rfl rfl rfl ?_
  refine WL.arith' rfl rfl (binV_i64 rfl (by omega)) rfl rfl ?_
  refine WL.pures rfl rfl rfl rfl rfl ?_
  refine WL.round (fun _ _ => rfl) (WR.succ ?_)
  (repeat refine WC.seq ?_); refine WC.region ?_
  refine WL.pures rfl rfl rfl rfl rfl ?_
  refine WL.goes (fun _ _ => rfl) ?_
  (repeat refine WC.seq ?_); refine WC.yes rfl ?_
  refine WC.goes (fun _ _ => rfl) ?_
  (repeat refine WC.seq ?_)
  refine WC.cutB (σ := Unit) (x := .block 1 _) (fun _ => [(0, .string s), (2, .pointer (some ⟨b2, 0, none⟩)), (4, .pointer (some ⟨b4, 0, none⟩)), (5, .slice (some ⟨bf, 0, none⟩) 6 6), (6, .int .i64 2)]) (fun _ => (bf, .cells #[.int .i64 100, .int .i64 108, .int .i64 116, .int .i64 124, .int .i64 136, .int .i64 148] 3 (0, 0)) :: (b4, .cells (hdecC 0 ty (textp (s.extract 0 100)) (textp (s.extract 157 257)) ⟨#[]⟩ ⟨#[]⟩ ⟨#[]⟩ n0 n1 n2 0 0) 35 (0, 0)) :: (b2, .cells (hdecC 0 0 ⟨#[]⟩ ⟨#[]⟩ ⟨#[]⟩ ⟨#[]⟩ ⟨#[]⟩ 0 0 0 0 0) 35 (0, 0)) :: hs) (fun _ => True) ?_ ?_
  · refine WC.block ?_
    (repeat refine WC.seq ?_)
    refine WC.quiet mixed (by kernel_rfl) ?_
    refine WQ.pures rfl rfl rfl rfl rfl ?_
    refine WQ.indexAddr' rfl rfl rfl (by decide) (by decide) rfl rfl ?_
    refine WQ.load' (v := .int .i64 116) rfl rfl (.head rfl) rfl rfl ?_
    refine WQ.pures rfl rfl rfl rfl rfl ?_
    refine WQ.arith' rfl rfl (binV_i64 rfl (by decide)) rfl rfl ?_
    refine WQ.indexAddr' rfl rfl rfl (by decide) (by decide) rfl rfl ?_
    refine WQ.load' (v := .int .i64 124) rfl rfl (.head rfl) rfl rfl ?_
    refine WQ.cutS' (l := 116) (h := 124) rfl rfl rfl rfl (by decide) (by decide) (by omega) rfl rfl ?_
    refine WQ.callS' rfl rfl cf20 (ref_Parse (s.extract 116 124) n2 7 g.f2 _ _) rfl rfl ?_
    refine WQ.pures rfl rfl rfl rfl rfl ?_
    refine WQ.goes (fun _ _ => rfl) ?_
    (repeat refine WC.seq ?_); refine WC.region ?_
    refine WL.pures rfl rfl rfl rfl rfl ?_
    refine WL.goes (fun _ _ => rfl) ?_
    (repeat refine WC.seq ?_); refine WC.no rfl ?_
    refine WC.goes (fun _ _ => rfl) ?_
    (repeat refine WC.seq ?_); refine WC.region ?_
    refine WL.pures rfl rfl rfl rfl rfl ?_
    refine WL.indexArr' rfl rfl rfl (by decide) (by decide) rfl rfl ?_
    refine WL.store' rfl rfl rfl rfl (List.all_eq_true.1 (by kernel_rfl)) (by (repeat (first | exact Upd.head | apply Upd.tail | apply Upd.right))) (Nat.le_of_ble_eq_true (by kernel_rfl)) rfl rfl ?_
    refine WL.meet () (fun _ _ => rfl) ⟨rfl, rfl, rfl, rfl, rfl, trivial⟩ (HDrop.sub (.keep1 rfl (.keep1 (by kernel_rfl) (.keep1 (by kernel_rfl) (.refl _))))) trivial
  rintro _ -
  (repeat refine WC.seq ?_); refine WC.region ?_
  refine WL.pures rfl rfl rfl rfl rfl ?_
  refine WL.arith' rfl rfl (binV_i64 rfl (by omega)) rfl rfl ?_
  refine WL.pures rfl rfl rfl rfl rfl ?_
  refine WL.round (fun _ _ => rfl) (WR.succ ?_)
  (repeat refine WC.seq ?_); refine WC.region ?_
  refine WL.pures rfl rfl rfl rfl rfl ?_
  refine WL.goes (fun _ _ => rfl) ?_
  (repeat refine WC.seq ?_); refine WC.yes rfl ?_
  refine WC.goes (fun _ _ => rfl) ?_
  (repeat refine WC.seq ?_)
  refine WC.cutB (σ := Unit) (x := .block 1 _) (fun _ => [(0, .string s), (2, .pointer (some ⟨b2, 0, none⟩)), (4, .pointer (some ⟨b4, 0, none⟩)), (5, .slice (some ⟨bf, 0, none⟩) 6 6), (6, .int .i64 3)]) (fun _ => (bf, .cells #[.int .i64 100, .int .i64 108, .int .i64 116, .int .i64 124, .int .i64 136, .int .i64 148] 3 (0, 0)) :: (b4, .cells (hdecC 0 ty (textp (s.extract 0 100)) (textp (s.extract 157 257)) ⟨#[]⟩ ⟨#[]⟩ ⟨#[]⟩ n0 n1 n2 n3 0) 35 (0, 0)) :: (b2, .cells (hdecC 0 0 ⟨#[]⟩ ⟨#[]⟩ ⟨#[]⟩ ⟨#[]⟩ ⟨#[]⟩ 0 0 0 0 0) 35 (0, 0)) :: hs) (fun _ => True) ?_ ?_
  · refine WC.block ?_
    (repeat refine WC.seq ?_)
    refine WC.quiet mixed (by kernel_rfl) ?_
    refine WQ.pures rfl rfl rfl rfl rfl ?_
    refine WQ.indexAddr' rfl rfl rfl (by decide) (by decide) rfl rfl ?_
    refine WQ.load' (v := .int .i64 124) rfl rfl (.head rfl) rfl rfl ?_
    refine WQ.pures rfl rfl rfl rfl rfl ?_
    refine WQ.arith' rfl rfl (binV_i64 rfl (by decide)) rfl rfl ?_
    refine WQ.indexAddr' rfl rfl rfl (by decide) (by decide) rfl rfl ?_
    refine WQ.load' (v := .int .i64 136) rfl rfl (.head rfl) rfl rfl ?_
    refine WQ.cutS' (l := 124) (h := 136) rfl rfl rfl rfl (by decide) (by decide) (by omega) rfl rfl ?_
    refine WQ.callS' rfl rfl cf20 (ref_Parse (s.extract 124 136) n3 11 g.f3 _ _) rfl rfl ?_
    refine WQ.pures rfl rfl rfl rfl rfl ?_
    refine WQ.goes (fun _ _ => rfl) ?_
    (repeat refine WC.seq ?_); refine WC.region ?_
    refine WL.pures rfl rfl rfl rfl rfl ?_
    refine WL.goes (fun _ _ => rfl) ?_
    (repeat refine WC.seq ?_); refine WC.no rfl ?_
    refine WC.goes (fun _ _ => rfl) ?_
    (repeat refine WC.seq ?_); refine WC.region ?_
    refine WL.pures rfl rfl rfl rfl rfl ?_
    refine WL.indexArr' rfl rfl rfl (by decide) (by decide) rfl rfl ?_
    refine WL.store' rfl rfl rfl rfl (List.all_eq_true.1 (by kernel_rfl)) (by (repeat (first | exact Upd.head | apply Upd.tail | apply Upd.right))) (Nat.le_of_ble_eq_true (by kernel_rfl)) rfl rfl ?_
    refine WL.meet () (fun _ _ => rfl) ⟨rfl, rfl, rfl, rfl, rfl, trivial⟩ (HDrop.sub (.keep1 rfl (.keep1 (by kernel_rfl) (.keep1 (by kernel_rfl) (.refl _))))) trivial
  rintro _ -
  (repeat refine WC.seq ?_); refine WC.region ?_
  refine WL.pures rfl rfl rfl rfl rfl ?_
  refine WL.arith' rfl rfl (binV_i64 rfl (by omega)) rfl rfl ?_
  refine WL.pures rfl rfl rfl rfl rfl ?_
  refine WL.round (fun _ _ => rfl) (WR.succ ?_)
  (repeat refine WC.seq ?_); refine WC.region ?_
  refine WL.pures rfl rfl rfl rfl rfl ?_
  refine WL.goes (fun _ _ => rfl) ?_
  (repeat refine WC.seq ?_); refine WC.yes rfl ?_
  refine WC.goes (fun _ _ => rfl) ?_
  (repeat refine WC.seq ?_)
  refine WC.cutB (σ := Unit) (x := .block 1 _) (fun _ => [(0, .string s), (2, .pointer (some ⟨b2, 0, none⟩)), (4, .pointer (some ⟨b4, 0, none⟩)), (5, .slice (some ⟨bf, 0, none⟩) 6 6), (6, .int .i64 4)]) (fun _ => (bf, .cells #[.int .i64 100, .int .i64 108, .int .i64 116, .int .i64 124, .int .i64 136, .int .i64 148] 3 (0, 0)) :: (b4, .cells (hdecC 0 ty (textp (s.extract 0 100)) (textp (s.extract 157 257)) ⟨#[]⟩ ⟨#[]⟩ ⟨#[]⟩ n0 n1 n2 n3 n4) 35 (0, 0)) :: (b2, .cells (hdecC 0 0 ⟨#[]⟩ ⟨#[]⟩ ⟨#[]⟩ ⟨#[]⟩ ⟨#[]⟩ 0 0 0 0 0) 35 (0, 0)) :: hs) (fun _ => True) ?_ ?_
  · refine WC.block ?_
    (repeat refine WC.seq ?_)
    refine WC.quiet mixed (by kernel_rfl) ?_
    refine WQ.pures rfl rfl rfl rfl rfl ?_
    refine WQ.indexAddr' rfl rfl rfl (by decide) (by decide) rfl rfl ?_
    refine WQ.load' (v := .int .i64 136) rfl rfl (.head rfl) rfl rfl ?_
    refine WQ.pures rfl rfl rfl rfl rfl ?_
    refine WQ.arith' rfl rfl (binV_i64 rfl (by decide)) rfl rfl ?_
    refine WQ.indexAddr' rfl rfl rfl (by decide) (by decide) rfl rfl ?_
    refine WQ.load' (v := .int .i64 148) rfl rfl (.head rfl) rfl rfl ?_
    refine WQ.cutS' (l := 136) (h := 148) rfl rfl rfl rfl (by decide) (by decide) (by omega) rfl rfl ?_
    refine WQ.callS' rfl rfl cf20 (ref_Parse (s.extract 136 148) n4 11 g.f4 _ _) rfl rfl ?_
    refine WQ.pures rfl rfl rfl rfl rfl ?_
    refine WQ.goes (fun _ _ => rfl) ?_
    (repeat refine WC.seq ?_); refine WC.region ?_
    refine WL.pures rfl rfl rfl rfl rfl ?_
    refine WL.goes (fun _ _ => rfl) ?_
    (repeat refine WC.seq ?_); refine WC.no rfl ?_
    refine WC.goes (fun _ _ => rfl) ?_
    (repeat refine WC.seq ?_); refine WC.region ?_
    refine WL.pures rfl rfl rfl rfl rfl ?_
    refine WL.indexArr' rfl rfl rfl (by decide) (by decide) rfl rfl ?_
    refine WL.store' rfl rfl rfl rfl (List.all_eq_true.1 (by kernel_rfl)) (by (repeat (first | exact Upd.head | apply Upd.tail | apply Upd.right))) (Nat.le_of_ble_eq_true (by kernel_rfl)) rfl rfl ?_
    refine WL.meet () (fun _ _ => rfl) ⟨rfl, rfl, rfl, rfl, rfl, trivial⟩ (HDrop.sub (.keep1 rfl (.keep1 (by kernel_rfl) (.keep1 (by kernel_rfl) (.refl _))))) trivial
  rintro _ -
  (repeat refine WC.seq ?_); refine WC.region ?_
  refine WL.pures rfl rfl rfl rfl rfl ?_
  refine WL.arith' rfl rfl (binV_i64 rfl (by omega)) rfl rfl ?_
  refine WL.pures rfl rfl rfl rfl rfl ?_
  refine WL.round (fun _ _ => rfl) (WR.succ ?_)
  (repeat refine WC.seq ?_); refine WC.region ?_
  refine WL.pures rfl rfl rfl rfl rfl ?_
  refine WL.goes (fun _ _ => rfl) ?_
  (repeat refine WC.seq ?_); refine WC.no rfl ?_
  refine WC.exits (fun _ _ => rfl) ?_
  (repeat refine WC.seq ?_); refine WC.region ?_
  refine WL.pures rfl rfl rfl rfl rfl ?_
  refine WL.cutS' (l := 257) (h := 265) rfl rfl rfl rfl (by decide) (by decide) (by omega) rfl rfl ?_; rw [show s.extract (Int.toNat 257) (Int.toNat 265) = kUstar from g.us]
  refine WL.pures rfl rfl rfl rfl rfl ?_
  refine WL.goes (fun _ _ => rfl) ?_
  (repeat refine WC.seq ?_); refine WC.yes rfl ?_
  (repeat refine WC.seq ?_); refine WC.region ?_
  refine WL.pures rfl rfl rfl rfl rfl ?_
  refine WL.store' rfl rfl rfl rfl (List.all_eq_true.1 (by kernel_rfl)) (by (repeat (first | exact Upd.head | apply Upd.tail | apply Upd.right))) (Nat.le_of_ble_eq_true (by kernel_rfl)) rfl rfl ?_
  refine WL.goes (fun _ _ => rfl) ?_
  (repeat refine WC.seq ?_); refine WC.region ?_
  refine WL.pures rfl rfl rfl rfl rfl ?_
  refine WL.cutS' (l := 345) (h := 500) rfl rfl rfl rfl (by decide) (by decide) (by omega) rfl rfl ?_
  refine WL.callS' rfl rfl cf18 (ref_text _ (ex_size hsz) _ _) rfl rfl ?_
  refine WL.pures rfl rfl rfl rfl rfl ?_
  refine WL.indexArr' rfl rfl rfl (by decide) (by decide) rfl rfl ?_
  refine WL.store' rfl rfl rfl rfl (List.all_eq_true.1 (by kernel_rfl)) (by (repeat (first | exact Upd.head | apply Upd.tail | apply Upd.right))) (Nat.le_of_ble_eq_true (by kernel_rfl)) rfl rfl ?_
  refine WL.goes (fun _ _ => rfl) ?_
  (repeat refine WC.seq ?_); refine WC.region ?_
  refine WL.pures rfl rfl rfl rfl rfl ?_
  refine WL.cutS' (l := 257) (h := 265) rfl rfl rfl rfl (by decide) (by decide) (by omega) rfl rfl ?_; rw [show s.extract (Int.toNat 257) (Int.toNat 265) = kUstar from g.us]
  refine WL.pures rfl rfl rfl rfl rfl ?_
  refine WL.goes (fun _ _ => rfl) ?_
  (repeat refine WC.seq ?_); refine WC.no rfl ?_
  refine WC.goes (fun _ _ => rfl) ?_
  refine WC.hsub (hs' := (bf, .cells #[.int .i64 100, .int .i64 108, .int .i64 116, .int .i64 124, .int .i64 136, .int .i64 148] 3 (0, 0)) :: (b4, .cells (hdecC 1 ty (textp (s.extract 0 100)) (textp (s.extract 157 257)) (textp (s.extract 345 500)) ⟨#[]⟩ ⟨#[]⟩ n0 n1 n2 n3 n4) 35 (0, 0)) :: (b2, .cells (hdecC 0 0 ⟨#[]⟩ ⟨#[]⟩ ⟨#[]⟩ ⟨#[]⟩ ⟨#[]⟩ 0 0 0 0 0) 35 (0, 0)) :: hs) ?_ (HDrop.sub (.keep1 rfl (.keep1 (by kernel_rfl) (.keep1 (by kernel_rfl) (.refl _)))))
  (repeat refine WC.seq ?_); refine WC.region ?_
  refine WL.pures rfl rfl rfl rfl rfl ?_
  refine WL.load' (v := .int .i64 1) rfl rfl (.tail (.head rfl)) rfl rfl ?_
  refine WL.pures rfl rfl rfl rfl rfl ?_
  refine WL.goes (fun _ _ => rfl) ?_
  (repeat refine WC.seq ?_); refine WC.yes rfl ?_
  (repeat refine WC.seq ?_); refine WC.region ?_
  refine WL.pures rfl rfl rfl rfl rfl ?_
  refine WL.cutS' (l := 265) (h := 297) rfl rfl rfl rfl (by decide) (by decide) (by omega) rfl rfl ?_
  refine WL.callS' rfl rfl cf18 (ref_text _ (ex_size hsz) _ _) rfl rfl ?_
  refine WL.pures rfl rfl rfl rfl rfl ?_
  refine WL.indexArr' rfl rfl rfl (by decide) (by decide) rfl rfl ?_
  refine WL.store' rfl rfl rfl rfl (List.all_eq_true.1 (by kernel_rfl)) (by (repeat (first | exact Upd.head | apply Upd.tail | apply Upd.right))) (Nat.le_of_ble_eq_true (by kernel_rfl)) rfl rfl ?_
  refine WL.goes (fun _ _ => rfl) ?_
  (repeat refine WC.seq ?_); refine WC.region ?_
  refine WL.pures rfl rfl rfl rfl rfl ?_
  refine WL.cutS' (l := 297) (h := 329) rfl rfl rfl rfl (by decide) (by decide) (by omega) rfl rfl ?_
  refine WL.callS' rfl rfl cf18 (ref_text _ (ex_size hsz) _ _) rfl rfl ?_
  refine WL.pures rfl rfl rfl rfl rfl ?_
  refine WL.indexArr' rfl rfl rfl (by decide) (by decide) rfl rfl ?_
  refine WL.store' rfl rfl rfl rfl (List.all_eq_true.1 (by kernel_rfl)) (by (repeat (first | exact Upd.head | apply Upd.tail | apply Upd.right))) (Nat.le_of_ble_eq_true (by kernel_rfl)) rfl rfl ?_
  refine WL.goes (fun _ _ => rfl) ?_
  refine WC.hsub (hs' := (bf, .cells #[.int .i64 100, .int .i64 108, .int .i64 116, .int .i64 124, .int .i64 136, .int .i64 148] 3 (0, 0)) :: (b4, .cells (hdecC 1 ty (textp (s.extract 0 100)) (textp (s.extract 157 257)) (textp (s.extract 345 500)) (textp (s.extract 265 297)) (textp (s.extract 297 329)) n0 n1 n2 n3 n4) 35 (0, 0)) :: (b2, .cells (hdecC 0 0 ⟨#[]⟩ ⟨#[]⟩ ⟨#[]⟩ ⟨#[]⟩ ⟨#[]⟩ 0 0 0 0 0) 35 (0, 0)) :: hs) ?_ (HDrop.sub (.keep1 rfl (.keep1 (by kernel_rfl) (.keep1 (by kernel_rfl) (.refl _)))))
  (repeat refine WC.seq ?_); refine WC.region ?_
  refine WL.loadAll' rfl rfl (.tail (.head rfl)) rfl rfl ?_
  refine WL.store' rfl rfl rfl rfl (List.all_eq_true.1 (by kernel_rfl)) (.tail (.tail .head)) (by decide) rfl rfl ?_
  refine WL.pures rfl rfl rfl rfl rfl ?_
  refine WL.goes (fun _ _ => rfl) ?_
  exact WC.doneC (fun _ _ => rfl) (.cell (v := .agg (hdecC 1 ty (textp (s.extract 0 100)) (textp (s.extract 157 257)) (textp (s.extract 345 500)) (textp (s.extract 265 297)) (textp (s.extract 297 329)) n0 n1 n2 n3 n4)) rfl rfl (.tail (.tail (.head (by kernel_rfl)))) (.tmp rfl .nil)) (.skip (.skip (.skip (.refl _)))) ⟨rfl, rfl⟩
end Go.Proofs.YtdapbkdfanlkkaaDoor
