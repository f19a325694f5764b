/- How a header is written. -/
import Derived.Test.YtdapbkdfanlkkaaDoorWalkD
set_option maxRecDepth 10000
set_option linter.unusedVariables false
set_option linter.unusedSimpArgs false
namespace Go.Proofs.YtdapbkdfanlkkaaDoor
open Go Go.Pan

/-- A header's block, ahead of its seal. -/
def hblock (name link user group pre : ByteArray) (mode uid gid size mtime : Nat) (ty : UInt8) : List UInt8 :=
  put8 (put8 (put8 (put8 (put8 (put8 (put8 (put8 (put8 (put8 (put8 (put8 (List.replicate 512 0) 0 name.data.toList) 157 link.data.toList) 265 user.data.toList) 297 group.data.toList) 345 pre.data.toList)
    100 (ofmt mode 7 ++ [0])) 108 (ofmt uid 7 ++ [0])) 116 (ofmt gid 7 ++ [0])) 124 (ofmt size 11 ++ [0])) 136 (ofmt mtime 11 ++ [0])) 156 [ty]) 257 [117, 115, 116, 97, 114, 0, 48, 48]
theorem head_FitsT (s : ByteArray) (n : Int) (h : fitsb s n = true) (w0 : World) (hs : Hs) : CallsF Tryd.prog 25 [.string s, .int .i64 n] w0 hs (Same (.bool true) hs) := by
  rw [← h]; exact head_Fits s n w0 hs
theorem fitsb_size {s : ByteArray} {n : Int} (h : fitsb s n = true) : (s.size : Int) ≤ n := by
  simp only [fitsb, Bool.and_eq_true, decide_eq_true_eq] at h
  exact h.1
theorem octal_FormatW (n w : Nat) (W : Int) (h1 : (n : Int) ≤ 9223372036854775807) (hw : 2 ≤ w) (hw' : w ≤ 24) (hfit : ofits n w = true) (hW : W = w) (w0 : World) (hs : Hs) :
    CallsF Tryd.prog 33 [.int .i64 n, .int .i64 W] w0 hs (New1 (fun b => .tuple #[.slice (some ⟨b, 0, none⟩) w w, .int .i64 0]) (fun _ => .cells (enc8 (ofmt n (w - 1) ++ [0])).toArray 5 (0, 0)) hs) := by
  subst hW; exact octal_Format n w h1 hw hw' hfit w0 hs
set_option maxHeartbeats 4000000 in
theorem head_Encode (form : Int) (name link pre user group : ByteArray) (ty : UInt8) (mode uid gid size mtime : Nat)
    (f1 : fitsb name 100 = true) (f2 : fitsb link 100 = true) (f3 : fitsb user 31 = true) (f4 : fitsb group 31 = true) (f5 : fitsb pre 155 = true)
    (g1 : ofits mode (8 : Nat) = true) (g2 : ofits uid (8 : Nat) = true) (g3 : ofits gid (8 : Nat) = true) (g4 : ofits size (12 : Nat) = true) (g5 : ofits mtime (12 : Nat) = true)
    (p1 : (mode : Int) ≤ 9223372036854775807) (b2 : (uid : Int) ≤ 9223372036854775807) (b3 : (gid : Int) ≤ 9223372036854775807) (b4 : (size : Int) ≤ 9223372036854775807) (b5 : (mtime : Int) ≤ 9223372036854775807)
    (w0 : World) (hs : Hs) : CallsF Tryd.prog 17 [.agg #[.int .i64 form, .string name, .string link, .string pre, .string user, .string group, .int .u8 ty.toNat, .int .i64 mode, .int .i64 uid, .int .i64 gid, .int .i64 size, .int .i64 mtime]] w0 hs
      (NewS (fun r => .tuple #[r, .int .i64 0]) 5 1 (enc8 (seal8 (hblock name link user group pre mode uid gid size mtime ty))) hs) := by
  have z1 := fitsb_size f1
  have z2 := fitsb_size f2
  have z3 := fitsb_size f3
  have z4 := fitsb_size f4
  have z5 := fitsb_size f5
  refine CallsF.enter [(0, _)] rfl Tryd.func17 rfl rfl rfl rfl ?_
  have hN : (List.replicate (Int.toNat 512 * 1) (0 : UInt8)).length = 512 := by simp
  (repeat refine WC.seq ?_); refine WC.region ?_
  refine WL.box' rfl rfl rfl (fun b1 => ?_)
  refine WL.pures rfl rfl rfl rfl rfl ?_
  refine WL.goes (fun _ _ => rfl) ?_
  (repeat refine WC.seq ?_); refine WC.region ?_
  refine WL.make' rfl rfl rfl rfl rfl (by decide) (by decide) (by decide) (by decide) rfl rfl (fun b => ?_)
  rw [made_enc8]; refine WL.pures rfl rfl rfl rfl rfl ?_
  refine WL.goes (fun _ _ => rfl) ?_
  (repeat refine WC.seq ?_); refine WC.region ?_
  refine WL.pures rfl rfl rfl rfl rfl ?_
  refine WL.load' rfl rfl (by (repeat (first | exact LdAt.head rfl | apply LdAt.tail | apply LdAt.right))) rfl rfl ?_
  refine WL.buildA' rfl rfl rfl rfl (by kernel_rfl) rfl rfl ?_
  refine WL.pures rfl rfl rfl rfl rfl ?_
  refine WL.load' rfl rfl (by (repeat (first | exact LdAt.head rfl | apply LdAt.tail | apply LdAt.right))) rfl rfl ?_
  refine WL.buildA' rfl rfl rfl rfl (by kernel_rfl) rfl rfl ?_
  refine WL.pures rfl rfl rfl rfl rfl ?_
  refine WL.load' rfl rfl (by (repeat (first | exact LdAt.head rfl | apply LdAt.tail | apply LdAt.right))) rfl rfl ?_
  refine WL.buildA' rfl rfl rfl rfl (by kernel_rfl) rfl rfl ?_
  refine WL.pures rfl rfl rfl rfl rfl ?_
  refine WL.load' rfl rfl (by (repeat (first | exact LdAt.head rfl | apply LdAt.tail | apply LdAt.right))) rfl rfl ?_
  refine WL.buildA' rfl rfl rfl rfl (by kernel_rfl) rfl rfl ?_
  refine WL.pures rfl rfl rfl rfl rfl ?_
  refine WL.load' rfl rfl (by (repeat (first | exact LdAt.head rfl | apply LdAt.tail | apply LdAt.right))) rfl rfl ?_
  refine WL.buildA' rfl rfl rfl rfl (by kernel_rfl) rfl rfl ?_
  refine WL.litL' (cells := #[.string name, .int .i64 0, .int .i64 100, .string link, .int .i64 157, .int .i64 257, .string user, .int .i64 265, .int .i64 296, .string group, .int .i64 297, .int .i64 328, .string pre, .int .i64 345, .int .i64 500]) rfl rfl rfl rfl (by kernel_rfl) rfl rfl (fun bl => ?_)
  refine WL.lenl' rfl rfl rfl rfl rfl rfl ?_
  refine WL.pures rfl rfl rfl rfl rfl ?_
  refine WL.goes (fun _ _ => rfl) ?_
  repeat refine WC.seq ?_
  refine WC.cutB (σ := List UInt8) (x := .block 0 _) (fun l => [(1, .pointer (some ⟨b1, 0, none⟩)), (4, .slice (some ⟨b, 0, none⟩) 512 512)]) (fun l => (b, .cells (enc8 l).toArray 5 (0, 0)) :: (b1, .cells #[.int .i64 form, .string name, .string link, .string pre, .string user, .string group, .int .u8 ty.toNat, .int .i64 mode, .int .i64 uid, .int .i64 gid, .int .i64 size, .int .i64 mtime] 45 (0, 0)) :: hs) (fun l => l.length = 512 ∧ l = put8 (put8 (put8 (put8 (put8 (List.replicate 512 0) 0 name.data.toList) 157 link.data.toList) 265 user.data.toList) 297 group.data.toList) 345 pre.data.toList) ?_ ?_
  · refine WC.block ?_
    refine WC.rounds 6 (WR.succ ?_)
    (repeat refine WC.seq ?_); refine WC.region ?_
    refine WL.pures rfl rfl rfl rfl rfl ?_
    refine WL.goes (fun _ _ => rfl) ?_
    (repeat refine WC.seq ?_); refine WC.yes rfl ?_
    refine WC.goes (fun _ _ => rfl) ?_
    (repeat refine WC.seq ?_); refine WC.block ?_
    (repeat refine WC.seq ?_); refine WC.region ?_
    refine WL.indexAddr' rfl rfl rfl (by omega) (by omega) rfl rfl ?_
    first | refine WL.loadAll' rfl rfl (by (repeat (first | exact AllAt.head rfl | apply AllAt.tail | apply AllAt.right)); done) rfl rfl ?_ | refine WL.load' rfl rfl (by (repeat (first | exact LdAt.head rfl | apply LdAt.tail | apply LdAt.right)); done) rfl rfl ?_
    refine WL.alloc' rfl rfl rfl (fun b6 => ?_)
    refine WL.store' rfl rfl rfl rfl (List.all_eq_true.1 (by kernel_rfl)) (by (repeat (first | exact Upd.head | apply Upd.tail | apply Upd.right))) (by decide) rfl rfl ?_
    refine WL.goes (fun _ _ => rfl) ?_
    (repeat refine WC.seq ?_); refine WC.region ?_
    refine WL.pures rfl rfl rfl rfl rfl ?_
    refine WL.load' rfl rfl (by (repeat (first | exact LdAt.head rfl | apply LdAt.tail | apply LdAt.right))) rfl rfl ?_
    refine WL.pures rfl rfl rfl rfl rfl ?_
    refine WL.load' rfl rfl (by (repeat (first | exact LdAt.head rfl | apply LdAt.tail | apply LdAt.right))) rfl rfl ?_
    refine WL.pures rfl rfl rfl rfl rfl ?_
    refine WL.load' rfl rfl (by (repeat (first | exact LdAt.head rfl | apply LdAt.tail | apply LdAt.right))) rfl rfl ?_
    refine WL.arith' rfl rfl (binV_i64 rfl (by decide)) rfl rfl ?_
    refine WL.callS' rfl rfl cf25 (head_FitsT _ _ f1 _ _) rfl rfl ?_
    refine WL.pures rfl rfl rfl rfl rfl ?_
    refine WL.goes (fun _ _ => rfl) ?_
    (repeat refine WC.seq ?_); refine WC.no rfl ?_
    refine WC.goes (fun _ _ => rfl) ?_
    (repeat refine WC.seq ?_)
    refine WC.any [_] mixed (HDrop.head _ _).sub ?_
    refine WA.pure 0 rfl rfl (by kernel_rfl) (fun _ _ _ _ h => h) rfl rfl rfl ?_
    refine WA.pure 1 rfl rfl (by kernel_rfl) (fun _ _ _ _ h => h) rfl rfl rfl ?_
    refine WA.load 2 rfl rfl rfl rfl (by (repeat (first | exact LdAt.head rfl | apply LdAt.tail | apply LdAt.right))) (by kernel_rfl) (fun _ _ _ _ h => h) rfl rfl rfl ?_
    refine WA.slice 3 (l := 0) (h := 512) rfl rfl rfl rfl rfl rfl (by decide) (by decide) (by decide) (by decide) (by kernel_rfl) (fun _ _ _ _ h => h) rfl rfl rfl ?_
    refine WA.pure 4 rfl rfl (by kernel_rfl) (fun _ _ _ _ h => h) rfl rfl rfl ?_
    refine WA.load 5 rfl rfl rfl rfl (by (repeat (first | exact LdAt.head rfl | apply LdAt.tail | apply LdAt.right))) (by kernel_rfl) (fun _ _ _ _ h => h) rfl rfl rfl ?_
    refine WA.only 6 rfl (by kernel_rfl) ?_
    refine WL.copy8L' rfl rfl rfl rfl (newsS rfl) (by (repeat (first | exact TakeL.here | exact TakeL.one | apply TakeL.tail | apply TakeL.right))) rfl (by omega) (by first | omega | (dsimp only; omega)) rfl rfl (fun lA eA nA => WA.on (HDrop.sub (by (repeat (first | exact HDrop.refl _ | exact HDrop.nil _ | refine HDrop.take (by (repeat (first | exact TakeL.here | exact TakeL.one | apply TakeL.tail | apply TakeL.right))) ?_ | refine HDrop.takeL (by (repeat (first | exact TakeL.here | exact TakeL.one | apply TakeL.tail | apply TakeL.right))) ?_ | refine HDrop.skip ?_ | refine HDrop.skipR ?_)))) ?_)
    refine WA.goes (by kernel_rfl) (fun _ _ => rfl) ?_
    (repeat refine WC.seq ?_); refine WC.region ?_
    refine WL.arith' rfl rfl (binV_i64 rfl (by omega)) rfl rfl ?_
    refine WL.pures rfl rfl rfl rfl rfl ?_
    refine WL.round (fun _ _ => rfl) (WR.succ ?_)
    (repeat refine WC.seq ?_); refine WC.region ?_
    refine WL.pures rfl rfl rfl rfl rfl ?_
    refine WL.goes (fun _ _ => rfl) ?_
    (repeat refine WC.seq ?_); refine WC.yes rfl ?_
    refine WC.goes (fun _ _ => rfl) ?_
    (repeat refine WC.seq ?_); refine WC.block ?_
    (repeat refine WC.seq ?_); refine WC.region ?_
    refine WL.indexAddr' rfl rfl rfl (by omega) (by omega) rfl rfl ?_
    first | refine WL.loadAll' rfl rfl (by (repeat (first | exact AllAt.head rfl | apply AllAt.tail | apply AllAt.right)); done) rfl rfl ?_ | refine WL.load' rfl rfl (by (repeat (first | exact LdAt.head rfl | apply LdAt.tail | apply LdAt.right)); done) rfl rfl ?_
    refine WL.alloc' rfl rfl rfl (fun b6 => ?_)
    refine WL.store' rfl rfl rfl rfl (List.all_eq_true.1 (by kernel_rfl)) (by (repeat (first | exact Upd.head | apply Upd.tail | apply Upd.right))) (by decide) rfl rfl ?_
    refine WL.goes (fun _ _ => rfl) ?_
    (repeat refine WC.seq ?_); refine WC.region ?_
    refine WL.pures rfl rfl rfl rfl rfl ?_
    refine WL.load' rfl rfl (by (repeat (first | exact LdAt.head rfl | apply LdAt.tail | apply LdAt.right))) rfl rfl ?_
    refine WL.pures rfl rfl rfl rfl rfl ?_
    refine WL.load' rfl rfl (by (repeat (first | exact LdAt.head rfl | apply LdAt.tail | apply LdAt.right))) rfl rfl ?_
    refine WL.pures rfl rfl rfl rfl rfl ?_
    refine WL.load' rfl rfl (by (repeat (first | exact LdAt.head rfl | apply LdAt.tail | apply LdAt.right))) rfl rfl ?_
    refine WL.arith' rfl rfl (binV_i64 rfl (by decide)) rfl rfl ?_
    refine WL.callS' rfl rfl cf25 (head_FitsT _ _ f2 _ _) rfl rfl ?_
    refine WL.pures rfl rfl rfl rfl rfl ?_
    refine WL.goes (fun _ _ => rfl) ?_
    (repeat refine WC.seq ?_); refine WC.no rfl ?_
    refine WC.goes (fun _ _ => rfl) ?_
    (repeat refine WC.seq ?_)
    refine WC.any [_] mixed (HDrop.head _ _).sub ?_
    refine WA.pure 0 rfl rfl (by kernel_rfl) (fun _ _ _ _ h => h) rfl rfl rfl ?_
    refine WA.pure 1 rfl rfl (by kernel_rfl) (fun _ _ _ _ h => h) rfl rfl rfl ?_
    refine WA.load 2 rfl rfl rfl rfl (by (repeat (first | exact LdAt.head rfl | apply LdAt.tail | apply LdAt.right))) (by kernel_rfl) (fun _ _ _ _ h => h) rfl rfl rfl ?_
    refine WA.slice 3 (l := 157) (h := 512) rfl rfl rfl rfl rfl rfl (by decide) (by decide) (by decide) (by decide) (by kernel_rfl) (fun _ _ _ _ h => h) rfl rfl rfl ?_
    refine WA.pure 4 rfl rfl (by kernel_rfl) (fun _ _ _ _ h => h) rfl rfl rfl ?_
    refine WA.load 5 rfl rfl rfl rfl (by (repeat (first | exact LdAt.head rfl | apply LdAt.tail | apply LdAt.right))) (by kernel_rfl) (fun _ _ _ _ h => h) rfl rfl rfl ?_
    refine WA.only 6 rfl (by kernel_rfl) ?_
    refine WL.copy8L' rfl rfl rfl rfl (newsS rfl) (by (repeat (first | exact TakeL.here | exact TakeL.one | apply TakeL.tail | apply TakeL.right))) rfl (by omega) (by first | omega | (dsimp only; omega)) rfl rfl (fun lB eB nB => WA.on (HDrop.sub (by (repeat (first | exact HDrop.refl _ | exact HDrop.nil _ | refine HDrop.take (by (repeat (first | exact TakeL.here | exact TakeL.one | apply TakeL.tail | apply TakeL.right))) ?_ | refine HDrop.takeL (by (repeat (first | exact TakeL.here | exact TakeL.one | apply TakeL.tail | apply TakeL.right))) ?_ | refine HDrop.skip ?_ | refine HDrop.skipR ?_)))) ?_)
    refine WA.goes (by kernel_rfl) (fun _ _ => rfl) ?_
    (repeat refine WC.seq ?_); refine WC.region ?_
    refine WL.arith' rfl rfl (binV_i64 rfl (by omega)) rfl rfl ?_
    refine WL.pures rfl rfl rfl rfl rfl ?_
    refine WL.round (fun _ _ => rfl) (WR.succ ?_)
    (repeat refine WC.seq ?_); refine WC.region ?_
    refine WL.pures rfl rfl rfl rfl rfl ?_
    refine WL.goes (fun _ _ => rfl) ?_
    (repeat refine WC.seq ?_); refine WC.yes rfl ?_
    refine WC.goes (fun _ _ => rfl) ?_
    (repeat refine WC.seq ?_); refine WC.block ?_
    (repeat refine WC.seq ?_); refine WC.region ?_
    refine WL.indexAddr' rfl rfl rfl (by omega) (by omega) rfl rfl ?_
    first | refine WL.loadAll' rfl rfl (by (repeat (first | exact AllAt.head rfl | apply AllAt.tail | apply AllAt.right)); done) rfl rfl ?_ | refine WL.load' rfl rfl (by (repeat (first | exact LdAt.head rfl | apply LdAt.tail | apply LdAt.right)); done) rfl rfl ?_
    refine WL.alloc' rfl rfl rfl (fun b6 => ?_)
    refine WL.store' rfl rfl rfl rfl (List.all_eq_true.1 (by kernel_rfl)) (by (repeat (first | exact Upd.head | apply Upd.tail | apply Upd.right))) (by decide) rfl rfl ?_
    refine WL.goes (fun _ _ => rfl) ?_
    (repeat refine WC.seq ?_); refine WC.region ?_
    refine WL.pures rfl rfl rfl rfl rfl ?_
    refine WL.load' rfl rfl (by (repeat (first | exact LdAt.head rfl | apply LdAt.tail | apply LdAt.right))) rfl rfl ?_
    refine WL.pures rfl rfl rfl rfl rfl ?_
    refine WL.load' rfl rfl (by (repeat (first | exact LdAt.head rfl | apply LdAt.tail | apply LdAt.right))) rfl rfl ?_
    refine WL.pures rfl rfl rfl rfl rfl ?_
    refine WL.load' rfl rfl (by (repeat (first | exact LdAt.head rfl | apply LdAt.tail | apply LdAt.right))) rfl rfl ?_
    refine WL.arith' rfl rfl (binV_i64 rfl (by decide)) rfl rfl ?_
    refine WL.callS' rfl rfl cf25 (head_FitsT _ _ f3 _ _) rfl rfl ?_
    refine WL.pures rfl rfl rfl rfl rfl ?_
    refine WL.goes (fun _ _ => rfl) ?_
    (repeat refine WC.seq ?_); refine WC.no rfl ?_
    refine WC.goes (fun _ _ => rfl) ?_
    (repeat refine WC.seq ?_)
    refine WC.any [_] mixed (HDrop.head _ _).sub ?_
    refine WA.pure 0 rfl rfl (by kernel_rfl) (fun _ _ _ _ h => h) rfl rfl rfl ?_
    refine WA.pure 1 rfl rfl (by kernel_rfl) (fun _ _ _ _ h => h) rfl rfl rfl ?_
    refine WA.load 2 rfl rfl rfl rfl (by (repeat (first | exact LdAt.head rfl | apply LdAt.tail | apply LdAt.right))) (by kernel_rfl) (fun _ _ _ _ h => h) rfl rfl rfl ?_
    refine WA.slice 3 (l := 265) (h := 512) rfl rfl rfl rfl rfl rfl (by decide) (by decide) (by decide) (by decide) (by kernel_rfl) (fun _ _ _ _ h => h) rfl rfl rfl ?_
    refine WA.pure 4 rfl rfl (by kernel_rfl) (fun _ _ _ _ h => h) rfl rfl rfl ?_
    refine WA.load 5 rfl rfl rfl rfl (by (repeat (first | exact LdAt.head rfl | apply LdAt.tail | apply LdAt.right))) (by kernel_rfl) (fun _ _ _ _ h => h) rfl rfl rfl ?_
    refine WA.only 6 rfl (by kernel_rfl) ?_
    refine WL.copy8L' rfl rfl rfl rfl (newsS rfl) (by (repeat (first | exact TakeL.here | exact TakeL.one | apply TakeL.tail | apply TakeL.right))) rfl (by omega) (by first | omega | (dsimp only; omega)) rfl rfl (fun lC eC nC => WA.on (HDrop.sub (by (repeat (first | exact HDrop.refl _ | exact HDrop.nil _ | refine HDrop.take (by (repeat (first | exact TakeL.here | exact TakeL.one | apply TakeL.tail | apply TakeL.right))) ?_ | refine HDrop.takeL (by (repeat (first | exact TakeL.here | exact TakeL.one | apply TakeL.tail | apply TakeL.right))) ?_ | refine HDrop.skip ?_ | refine HDrop.skipR ?_)))) ?_)
    refine WA.goes (by kernel_rfl) (fun _ _ => rfl) ?_
    (repeat refine WC.seq ?_); refine WC.region ?_
    refine WL.arith' rfl rfl (binV_i64 rfl (by omega)) rfl rfl ?_
    refine WL.pures rfl rfl rfl rfl rfl ?_
    refine WL.round (fun _ _ => rfl) (WR.succ ?_)
    (repeat refine WC.seq ?_); refine WC.region ?_
    refine WL.pures rfl rfl rfl rfl rfl ?_
    refine WL.goes (fun _ _ => rfl) ?_
    (repeat refine WC.seq ?_); refine WC.yes rfl ?_
    refine WC.goes (fun _ _ => rfl) ?_
    (repeat refine WC.seq ?_); refine WC.block ?_
    (repeat refine WC.seq ?_); refine WC.region ?_
    refine WL.indexAddr' rfl rfl rfl (by omega) (by omega) rfl rfl ?_
    first | refine WL.loadAll' rfl rfl (by (repeat (first | exact AllAt.head rfl | apply AllAt.tail | apply AllAt.right)); done) rfl rfl ?_ | refine WL.load' rfl rfl (by (repeat (first | exact LdAt.head rfl | apply LdAt.tail | apply LdAt.right)); done) rfl rfl ?_
    refine WL.alloc' rfl rfl rfl (fun b6 => ?_)
    refine WL.store' rfl rfl rfl rfl (List.all_eq_true.1 (by kernel_rfl)) (by (repeat (first | exact Upd.head | apply Upd.tail | apply Upd.right))) (by decide) rfl rfl ?_
    refine WL.goes (fun _ _ => rfl) ?_
    (repeat refine WC.seq ?_); refine WC.region ?_
    refine WL.pures rfl rfl rfl rfl rfl ?_
    refine WL.load' rfl rfl (by (repeat (first | exact LdAt.head rfl | apply LdAt.tail | apply LdAt.right))) rfl rfl ?_
    refine WL.pures rfl rfl rfl rfl rfl ?_
    refine WL.load' rfl rfl (by (repeat (first | exact LdAt.head rfl | apply LdAt.tail | apply LdAt.right))) rfl rfl ?_
    refine WL.pures rfl rfl rfl rfl rfl ?_
    refine WL.load' rfl rfl (by (repeat (first | exact LdAt.head rfl | apply LdAt.tail | apply LdAt.right))) rfl rfl ?_
    refine WL.arith' rfl rfl (binV_i64 rfl (by decide)) rfl rfl ?_
    refine WL.callS' rfl rfl cf25 (head_FitsT _ _ f4 _ _) rfl rfl ?_
    refine WL.pures rfl rfl rfl rfl rfl ?_
    refine WL.goes (fun _ _ => rfl) ?_
    (repeat refine WC.seq ?_); refine WC.no rfl ?_
    refine WC.goes (fun _ _ => rfl) ?_
    (repeat refine WC.seq ?_)
    refine WC.any [_] mixed (HDrop.head _ _).sub ?_
    refine WA.pure 0 rfl rfl (by kernel_rfl) (fun _ _ _ _ h => h) rfl rfl rfl ?_
    refine WA.pure 1 rfl rfl (by kernel_rfl) (fun _ _ _ _ h => h) rfl rfl rfl ?_
    refine WA.load 2 rfl rfl rfl rfl (by (repeat (first | exact LdAt.head rfl | apply LdAt.tail | apply LdAt.right))) (by kernel_rfl) (fun _ _ _ _ h => h) rfl rfl rfl ?_
    refine WA.slice 3 (l := 297) (h := 512) rfl rfl rfl rfl rfl rfl (by decide) (by decide) (by decide) (by decide) (by kernel_rfl) (fun _ _ _ _ h => h) rfl rfl rfl ?_
    refine WA.pure 4 rfl rfl (by kernel_rfl) (fun _ _ _ _ h => h) rfl rfl rfl ?_
    refine WA.load 5 rfl rfl rfl rfl (by (repeat (first | exact LdAt.head rfl | apply LdAt.tail | apply LdAt.right))) (by kernel_rfl) (fun _ _ _ _ h => h) rfl rfl rfl ?_
    refine WA.only 6 rfl (by kernel_rfl) ?_
    refine WL.copy8L' rfl rfl rfl rfl (newsS rfl) (by (repeat (first | exact TakeL.here | exact TakeL.one | apply TakeL.tail | apply TakeL.right))) rfl (by omega) (by first | omega | (dsimp only; omega)) rfl rfl (fun lD eD nD => WA.on (HDrop.sub (by (repeat (first | exact HDrop.refl _ | exact HDrop.nil _ | refine HDrop.take (by (repeat (first | exact TakeL.here | exact TakeL.one | apply TakeL.tail | apply TakeL.right))) ?_ | refine HDrop.takeL (by (repeat (first | exact TakeL.here | exact TakeL.one | apply TakeL.tail | apply TakeL.right))) ?_ | refine HDrop.skip ?_ | refine HDrop.skipR ?_)))) ?_)
    refine WA.goes (by kernel_rfl) (fun _ _ => rfl) ?_
    (repeat refine WC.seq ?_); refine WC.region ?_
    refine WL.arith' rfl rfl (binV_i64 rfl (by omega)) rfl rfl ?_
    refine WL.pures rfl rfl rfl rfl rfl ?_
    refine WL.round (fun _ _ => rfl) (WR.succ ?_)
    (repeat refine WC.seq ?_); refine WC.region ?_
    refine WL.pures rfl rfl rfl rfl rfl ?_
    refine WL.goes (fun _ _ => rfl) ?_
    (repeat refine WC.seq ?_); refine WC.yes rfl ?_
    refine WC.goes (fun _ _ => rfl) ?_
    (repeat refine WC.seq ?_); refine WC.block ?_
    (repeat refine WC.seq ?_); refine WC.region ?_
    refine WL.indexAddr' rfl rfl rfl (by omega) (by omega) rfl rfl ?_
    first | refine WL.loadAll' rfl rfl (by (repeat (first | exact AllAt.head rfl | apply AllAt.tail | apply AllAt.right)); done) rfl rfl ?_ | refine WL.load' rfl rfl (by (repeat (first | exact LdAt.head rfl | apply LdAt.tail | apply LdAt.right)); done) rfl rfl ?_
    refine WL.alloc' rfl rfl rfl (fun b6 => ?_)
    refine WL.store' rfl rfl rfl rfl (List.all_eq_true.1 (by kernel_rfl)) (by (repeat (first | exact Upd.head | apply Upd.tail | apply Upd.right))) (by decide) rfl rfl ?_
    refine WL.goes (fun _ _ => rfl) ?_
    (repeat refine WC.seq ?_); refine WC.region ?_
    refine WL.pures rfl rfl rfl rfl rfl ?_
    refine WL.load' rfl rfl (by (repeat (first | exact LdAt.head rfl | apply LdAt.tail | apply LdAt.right))) rfl rfl ?_
    refine WL.pures rfl rfl rfl rfl rfl ?_
    refine WL.load' rfl rfl (by (repeat (first | exact LdAt.head rfl | apply LdAt.tail | apply LdAt.right))) rfl rfl ?_
    refine WL.pures rfl rfl rfl rfl rfl ?_
    refine WL.load' rfl rfl (by (repeat (first | exact LdAt.head rfl | apply LdAt.tail | apply LdAt.right))) rfl rfl ?_
    refine WL.arith' rfl rfl (binV_i64 rfl (by decide)) rfl rfl ?_
    refine WL.callS' rfl rfl cf25 (head_FitsT _ _ f5 _ _) rfl rfl ?_
    refine WL.pures rfl rfl rfl rfl rfl ?_
    refine WL.goes (fun _ _ => rfl) ?_
    (repeat refine WC.seq ?_); refine WC.no rfl ?_
    refine WC.goes (fun _ _ => rfl) ?_
    (repeat refine WC.seq ?_)
    refine WC.any [_] mixed (HDrop.head _ _).sub ?_
    refine WA.pure 0 rfl rfl (by kernel_rfl) (fun _ _ _ _ h => h) rfl rfl rfl ?_
    refine WA.pure 1 rfl rfl (by kernel_rfl) (fun _ _ _ _ h => h) rfl rfl rfl ?_
    refine WA.load 2 rfl rfl rfl rfl (by (repeat (first | exact LdAt.head rfl | apply LdAt.tail | apply LdAt.right))) (by kernel_rfl) (fun _ _ _ _ h => h) rfl rfl rfl ?_
    refine WA.slice 3 (l := 345) (h := 512) rfl rfl rfl rfl rfl rfl (by decide) (by decide) (by decide) (by decide) (by kernel_rfl) (fun _ _ _ _ h => h) rfl rfl rfl ?_
    refine WA.pure 4 rfl rfl (by kernel_rfl) (fun _ _ _ _ h => h) rfl rfl rfl ?_
    refine WA.load 5 rfl rfl rfl rfl (by (repeat (first | exact LdAt.head rfl | apply LdAt.tail | apply LdAt.right))) (by kernel_rfl) (fun _ _ _ _ h => h) rfl rfl rfl ?_
    refine WA.only 6 rfl (by kernel_rfl) ?_
    refine WL.copy8L' rfl rfl rfl rfl (newsS rfl) (by (repeat (first | exact TakeL.here | exact TakeL.one | apply TakeL.tail | apply TakeL.right))) rfl (by omega) (by first | omega | (dsimp only; omega)) rfl rfl (fun lE eE nE => WA.on (HDrop.sub (by (repeat (first | exact HDrop.refl _ | exact HDrop.nil _ | refine HDrop.take (by (repeat (first | exact TakeL.here | exact TakeL.one | apply TakeL.tail | apply TakeL.right))) ?_ | refine HDrop.takeL (by (repeat (first | exact TakeL.here | exact TakeL.one | apply TakeL.tail | apply TakeL.right))) ?_ | refine HDrop.skip ?_ | refine HDrop.skipR ?_)))) ?_)
    refine WA.goes (by kernel_rfl) (fun _ _ => rfl) ?_
    (repeat refine WC.seq ?_); refine WC.region ?_
    refine WL.arith' rfl rfl (binV_i64 rfl (by omega)) rfl rfl ?_
    refine WL.pures rfl rfl rfl rfl rfl ?_
    refine WL.round (fun _ _ => rfl) (WR.succ ?_)
    (repeat refine WC.seq ?_); refine WC.region ?_
    refine WL.pures rfl rfl rfl rfl rfl ?_
    refine WL.goes (fun _ _ => rfl) ?_
    (repeat refine WC.seq ?_); refine WC.no rfl ?_
    refine WC.meetx lE (fun _ _ => rfl) ?_ ?_ ?_
    · exact ⟨rfl, rfl, trivial⟩
    · refine HDrop.sub ?_
      dsimp only
      ((repeat (first | with_reducible exact HDrop.refl _ | with_reducible exact HDrop.nil _ | ((with_reducible refine HDrop.keep1 ?_ ?_); focus rfl) | with_reducible apply HDrop.skip)); done)
    · refine ⟨?_, ?_⟩
      · omega
      · rw [eE, eD, eC, eB, eA]; rfl
  rintro l1 ⟨hl1, q1⟩
  (repeat refine WC.seq ?_); refine WC.region ?_
  refine WL.pures rfl rfl rfl rfl rfl ?_
  refine WL.load' rfl rfl (by (repeat (first | exact LdAt.head rfl | apply LdAt.tail | apply LdAt.right))) rfl rfl ?_
  refine WL.buildA' rfl rfl rfl rfl (by kernel_rfl) rfl rfl ?_
  refine WL.pures rfl rfl rfl rfl rfl ?_
  refine WL.load' rfl rfl (by (repeat (first | exact LdAt.head rfl | apply LdAt.tail | apply LdAt.right))) rfl rfl ?_
  refine WL.buildA' rfl rfl rfl rfl (by kernel_rfl) rfl rfl ?_
  refine WL.pures rfl rfl rfl rfl rfl ?_
  refine WL.load' rfl rfl (by (repeat (first | exact LdAt.head rfl | apply LdAt.tail | apply LdAt.right))) rfl rfl ?_
  refine WL.buildA' rfl rfl rfl rfl (by kernel_rfl) rfl rfl ?_
  refine WL.pures rfl rfl rfl rfl rfl ?_
  refine WL.load' rfl rfl (by (repeat (first | exact LdAt.head rfl | apply LdAt.tail | apply LdAt.right))) rfl rfl ?_
  refine WL.buildA' rfl rfl rfl rfl (by kernel_rfl) rfl rfl ?_
  refine WL.pures rfl rfl rfl rfl rfl ?_
  refine WL.load' rfl rfl (by (repeat (first | exact LdAt.head rfl | apply LdAt.tail | apply LdAt.right))) rfl rfl ?_
  refine WL.buildA' rfl rfl rfl rfl (by kernel_rfl) rfl rfl ?_
  refine WL.litL' (cells := #[.int .i64 mode, .int .i64 100, .int .i64 8, .int .i64 uid, .int .i64 108, .int .i64 8, .int .i64 gid, .int .i64 116, .int .i64 8, .int .i64 size, .int .i64 124, .int .i64 12, .int .i64 mtime, .int .i64 136, .int .i64 12]) rfl rfl rfl rfl (by kernel_rfl) rfl rfl (fun bl => ?_)
  refine WL.lenl' rfl rfl rfl rfl rfl rfl ?_
  refine WL.pures rfl rfl rfl rfl rfl ?_
  refine WL.goes (fun _ _ => rfl) ?_
  repeat refine WC.seq ?_
  refine WC.cutB (σ := List UInt8) (x := .block 2 _) (fun l => [(1, .pointer (some ⟨b1, 0, none⟩)), (4, .slice (some ⟨b, 0, none⟩) 512 512)]) (fun l => (b, .cells (enc8 l).toArray 5 (0, 0)) :: (b1, .cells #[.int .i64 form, .string name, .string link, .string pre, .string user, .string group, .int .u8 ty.toNat, .int .i64 mode, .int .i64 uid, .int .i64 gid, .int .i64 size, .int .i64 mtime] 45 (0, 0)) :: hs) (fun l => l.length = 512 ∧ l = put8 (put8 (put8 (put8 (put8 l1 100 (ofmt mode 7 ++ [0])) 108 (ofmt uid 7 ++ [0])) 116 (ofmt gid 7 ++ [0])) 124 (ofmt size 11 ++ [0])) 136 (ofmt mtime 11 ++ [0])) ?_ ?_
  · refine WC.block ?_
    refine WC.rounds 6 (WR.succ ?_)
    (repeat refine WC.seq ?_); refine WC.region ?_
    refine WL.pures rfl rfl rfl rfl rfl ?_
    refine WL.goes (fun _ _ => rfl) ?_
    (repeat refine WC.seq ?_); refine WC.yes rfl ?_
    refine WC.goes (fun _ _ => rfl) ?_
    (repeat refine WC.seq ?_); refine WC.block ?_
    (repeat refine WC.seq ?_); refine WC.region ?_
    refine WL.indexAddr' rfl rfl rfl (by omega) (by omega) rfl rfl ?_
    first | refine WL.loadAll' rfl rfl (by (repeat (first | exact AllAt.head rfl | apply AllAt.tail | apply AllAt.right)); done) rfl rfl ?_ | refine WL.load' rfl rfl (by (repeat (first | exact LdAt.head rfl | apply LdAt.tail | apply LdAt.right)); done) rfl rfl ?_
    refine WL.alloc' rfl rfl rfl (fun b8 => ?_)
    refine WL.store' rfl rfl rfl rfl (List.all_eq_true.1 (by kernel_rfl)) (by (repeat (first | exact Upd.head | apply Upd.tail | apply Upd.right))) (by decide) rfl rfl ?_
    refine WL.goes (fun _ _ => rfl) ?_
    (repeat refine WC.seq ?_); refine WC.region ?_
    refine WL.pures rfl rfl rfl rfl rfl ?_
    refine WL.load' rfl rfl (by (repeat (first | exact LdAt.head rfl | apply LdAt.tail | apply LdAt.right))) rfl rfl ?_
    refine WL.pures rfl rfl rfl rfl rfl ?_
    refine WL.load' rfl rfl (by (repeat (first | exact LdAt.head rfl | apply LdAt.tail | apply LdAt.right))) rfl rfl ?_
    refine WL.callN' rfl rfl cf33 (octal_FormatW _ 8 _ p1 (by decide) (by decide) g1 rfl _ _) rfl rfl (fun bf => ?_)
    refine WL.pures rfl rfl rfl rfl rfl ?_
    refine WL.goes (fun _ _ => rfl) ?_
    (repeat refine WC.seq ?_); refine WC.region ?_
    refine WL.pures rfl rfl rfl rfl rfl ?_
    refine WL.goes (fun _ _ => rfl) ?_
    (repeat refine WC.seq ?_); refine WC.no rfl ?_
    refine WC.goes (fun _ _ => rfl) ?_
    (repeat refine WC.seq ?_); refine WC.region ?_
    refine WL.pures rfl rfl rfl rfl rfl ?_
    refine WL.load' rfl rfl (by (repeat (first | exact LdAt.head rfl | apply LdAt.tail | apply LdAt.right))) rfl rfl ?_
    refine WL.slice' (l := 100) (h := 512) rfl rfl rfl rfl (by decide) (by decide) (by decide) (by decide) rfl rfl ?_
    refine WL.pures rfl rfl rfl rfl rfl ?_
    refine WL.copy8L' rfl rfl rfl rfl (newsL rfl (enc8_one _) (rd8_whole .head (by simp [ofmt_length]) (Nat.le_refl _))) (by (repeat (first | exact TakeL.here | exact TakeL.one | apply TakeL.tail | apply TakeL.right))) (by simp [ofmt_length]) (by omega) (by first | omega | (dsimp only; omega)) rfl rfl (fun lA eA nA => ?_)
    refine WL.goes (fun _ _ => rfl) ?_
    (repeat refine WC.seq ?_); refine WC.region ?_
    refine WL.arith' rfl rfl (binV_i64 rfl (by omega)) rfl rfl ?_
    refine WL.pures rfl rfl rfl rfl rfl ?_
    refine WL.round (fun _ _ => rfl) (WR.succ ?_)
    (repeat refine WC.seq ?_); refine WC.region ?_
    refine WL.pures rfl rfl rfl rfl rfl ?_
    refine WL.goes (fun _ _ => rfl) ?_
    (repeat refine WC.seq ?_); refine WC.yes rfl ?_
    refine WC.goes (fun _ _ => rfl) ?_
    (repeat refine WC.seq ?_); refine WC.block ?_
    (repeat refine WC.seq ?_); refine WC.region ?_
    refine WL.indexAddr' rfl rfl rfl (by omega) (by omega) rfl rfl ?_
    first | refine WL.loadAll' rfl rfl (by (repeat (first | exact AllAt.head rfl | apply AllAt.tail | apply AllAt.right)); done) rfl rfl ?_ | refine WL.load' rfl rfl (by (repeat (first | exact LdAt.head rfl | apply LdAt.tail | apply LdAt.right)); done) rfl rfl ?_
    refine WL.alloc' rfl rfl rfl (fun b8 => ?_)
    refine WL.store' rfl rfl rfl rfl (List.all_eq_true.1 (by kernel_rfl)) (by (repeat (first | exact Upd.head | apply Upd.tail | apply Upd.right))) (by decide) rfl rfl ?_
    refine WL.goes (fun _ _ => rfl) ?_
    (repeat refine WC.seq ?_); refine WC.region ?_
    refine WL.pures rfl rfl rfl rfl rfl ?_
    refine WL.load' rfl rfl (by (repeat (first | exact LdAt.head rfl | apply LdAt.tail | apply LdAt.right))) rfl rfl ?_
    refine WL.pures rfl rfl rfl rfl rfl ?_
    refine WL.load' rfl rfl (by (repeat (first | exact LdAt.head rfl | apply LdAt.tail | apply LdAt.right))) rfl rfl ?_
    refine WL.callN' rfl rfl cf33 (octal_FormatW _ 8 _ b2 (by decide) (by decide) g2 rfl _ _) rfl rfl (fun bf => ?_)
    refine WL.pures rfl rfl rfl rfl rfl ?_
    refine WL.goes (fun _ _ => rfl) ?_
    (repeat refine WC.seq ?_); refine WC.region ?_
    refine WL.pures rfl rfl rfl rfl rfl ?_
    refine WL.goes (fun _ _ => rfl) ?_
    (repeat refine WC.seq ?_); refine WC.no rfl ?_
    refine WC.goes (fun _ _ => rfl) ?_
    (repeat refine WC.seq ?_); refine WC.region ?_
    refine WL.pures rfl rfl rfl rfl rfl ?_
    refine WL.load' rfl rfl (by (repeat (first | exact LdAt.head rfl | apply LdAt.tail | apply LdAt.right))) rfl rfl ?_
    refine WL.slice' (l := 108) (h := 512) rfl rfl rfl rfl (by decide) (by decide) (by decide) (by decide) rfl rfl ?_
    refine WL.pures rfl rfl rfl rfl rfl ?_
    refine WL.copy8L' rfl rfl rfl rfl (newsL rfl (enc8_one _) (rd8_whole .head (by simp [ofmt_length]) (Nat.le_refl _))) (by (repeat (first | exact TakeL.here | exact TakeL.one | apply TakeL.tail | apply TakeL.right))) (by simp [ofmt_length]) (by omega) (by first | omega | (dsimp only; omega)) rfl rfl (fun lB eB nB => ?_)
    refine WL.goes (fun _ _ => rfl) ?_
    (repeat refine WC.seq ?_); refine WC.region ?_
    refine WL.arith' rfl rfl (binV_i64 rfl (by omega)) rfl rfl ?_
    refine WL.pures rfl rfl rfl rfl rfl ?_
    refine WL.round (fun _ _ => rfl) (WR.succ ?_)
    (repeat refine WC.seq ?_); refine WC.region ?_
    refine WL.pures rfl rfl rfl rfl rfl ?_
    refine WL.goes (fun _ _ => rfl) ?_
    (repeat refine WC.seq ?_); refine WC.yes rfl ?_
    refine WC.goes (fun _ _ => rfl) ?_
    (repeat refine WC.seq ?_); refine WC.block ?_
    (repeat refine WC.seq ?_); refine WC.region ?_
    refine WL.indexAddr' rfl rfl rfl (by omega) (by omega) rfl rfl ?_
    first | refine WL.loadAll' rfl rfl (by (repeat (first | exact AllAt.head rfl | apply AllAt.tail | apply AllAt.right)); done) rfl rfl ?_ | refine WL.load' rfl rfl (by (repeat (first | exact LdAt.head rfl | apply LdAt.tail | apply LdAt.right)); done) rfl rfl ?_
    refine WL.alloc' rfl rfl rfl (fun b8 => ?_)
    refine WL.store' rfl rfl rfl rfl (List.all_eq_true.1 (by kernel_rfl)) (by (repeat (first | exact Upd.head | apply Upd.tail | apply Upd.right))) (by decide) rfl rfl ?_
    refine WL.goes (fun _ _ => rfl) ?_
    (repeat refine WC.seq ?_); refine WC.region ?_
    refine WL.pures rfl rfl rfl rfl rfl ?_
    refine WL.load' rfl rfl (by (repeat (first | exact LdAt.head rfl | apply LdAt.tail | apply LdAt.right))) rfl rfl ?_
    refine WL.pures rfl rfl rfl rfl rfl ?_
    refine WL.load' rfl rfl (by (repeat (first | exact LdAt.head rfl | apply LdAt.tail | apply LdAt.right))) rfl rfl ?_
    refine WL.callN' rfl rfl cf33 (octal_FormatW _ 8 _ b3 (by decide) (by decide) g3 rfl _ _) rfl rfl (fun bf => ?_)
    refine WL.pures rfl rfl rfl rfl rfl ?_
    refine WL.goes (fun _ _ => rfl) ?_
    (repeat refine WC.seq ?_); refine WC.region ?_
    refine WL.pures rfl rfl rfl rfl rfl ?_
    refine WL.goes (fun _ _ => rfl) ?_
    (repeat refine WC.seq ?_); refine WC.no rfl ?_
    refine WC.goes (fun _ _ => rfl) ?_
    (repeat refine WC.seq ?_); refine WC.region ?_
    refine WL.pures rfl rfl rfl rfl rfl ?_
    refine WL.load' rfl rfl (by (repeat (first | exact LdAt.head rfl | apply LdAt.tail | apply LdAt.right))) rfl rfl ?_
    refine WL.slice' (l := 116) (h := 512) rfl rfl rfl rfl (by decide) (by decide) (by decide) (by decide) rfl rfl ?_
    refine WL.pures rfl rfl rfl rfl rfl ?_
    refine WL.copy8L' rfl rfl rfl rfl (newsL rfl (enc8_one _) (rd8_whole .head (by simp [ofmt_length]) (Nat.le_refl _))) (by (repeat (first | exact TakeL.here | exact TakeL.one | apply TakeL.tail | apply TakeL.right))) (by simp [ofmt_length]) (by omega) (by first | omega | (dsimp only; omega)) rfl rfl (fun lC eC nC => ?_)
    refine WL.goes (fun _ _ => rfl) ?_
    (repeat refine WC.seq ?_); refine WC.region ?_
    refine WL.arith' rfl rfl (binV_i64 rfl (by omega)) rfl rfl ?_
    refine WL.pures rfl rfl rfl rfl rfl ?_
    refine WL.round (fun _ _ => rfl) (WR.succ ?_)
    (repeat refine WC.seq ?_); refine WC.region ?_
    refine WL.pures rfl rfl rfl rfl rfl ?_
    refine WL.goes (fun _ _ => rfl) ?_
    (repeat refine WC.seq ?_); refine WC.yes rfl ?_
    refine WC.goes (fun _ _ => rfl) ?_
    (repeat refine WC.seq ?_); refine WC.block ?_
    (repeat refine WC.seq ?_); refine WC.region ?_
    refine WL.indexAddr' rfl rfl rfl (by omega) (by omega) rfl rfl ?_
    first | refine WL.loadAll' rfl rfl (by (repeat (first | exact AllAt.head rfl | apply AllAt.tail | apply AllAt.right)); done) rfl rfl ?_ | refine WL.load' rfl rfl (by (repeat (first | exact LdAt.head rfl | apply LdAt.tail | apply LdAt.right)); done) rfl rfl ?_
    refine WL.alloc' rfl rfl rfl (fun b8 => ?_)
    refine WL.store' rfl rfl rfl rfl (List.all_eq_true.1 (by kernel_rfl)) (by (repeat (first | exact Upd.head | apply Upd.tail | apply Upd.right))) (by decide) rfl rfl ?_
    refine WL.goes (fun _ _ => rfl) ?_
    (repeat refine WC.seq ?_); refine WC.region ?_
    refine WL.pures rfl rfl rfl rfl rfl ?_
    refine WL.load' rfl rfl (by (repeat (first | exact LdAt.head rfl | apply LdAt.tail | apply LdAt.right))) rfl rfl ?_
    refine WL.pures rfl rfl rfl rfl rfl ?_
    refine WL.load' rfl rfl (by (repeat (first | exact LdAt.head rfl | apply LdAt.tail | apply LdAt.right))) rfl rfl ?_
    refine WL.callN' rfl rfl cf33 (octal_FormatW _ 12 _ b4 (by decide) (by decide) g4 rfl _ _) rfl rfl (fun bf => ?_)
    refine WL.pures rfl rfl rfl rfl rfl ?_
    refine WL.goes (fun _ _ => rfl) ?_
    (repeat refine WC.seq ?_); refine WC.region ?_
    refine WL.pures rfl rfl rfl rfl rfl ?_
    refine WL.goes (fun _ _ => rfl) ?_
    (repeat refine WC.seq ?_); refine WC.no rfl ?_
    refine WC.goes (fun _ _ => rfl) ?_
    (repeat refine WC.seq ?_); refine WC.region ?_
    refine WL.pures rfl rfl rfl rfl rfl ?_
    refine WL.load' rfl rfl (by (repeat (first | exact LdAt.head rfl | apply LdAt.tail | apply LdAt.right))) rfl rfl ?_
    refine WL.slice' (l := 124) (h := 512) rfl rfl rfl rfl (by decide) (by decide) (by decide) (by decide) rfl rfl ?_
    refine WL.pures rfl rfl rfl rfl rfl ?_
    refine WL.copy8L' rfl rfl rfl rfl (newsL rfl (enc8_one _) (rd8_whole .head (by simp [ofmt_length]) (Nat.le_refl _))) (by (repeat (first | exact TakeL.here | exact TakeL.one | apply TakeL.tail | apply TakeL.right))) (by simp [ofmt_length]) (by omega) (by first | omega | (dsimp only; omega)) rfl rfl (fun lD eD nD => ?_)
    refine WL.goes (fun _ _ => rfl) ?_
    (repeat refine WC.seq ?_); refine WC.region ?_
    refine WL.arith' rfl rfl (binV_i64 rfl (by omega)) rfl rfl ?_
    refine WL.pures rfl rfl rfl rfl rfl ?_
    refine WL.round (fun _ _ => rfl) (WR.succ ?_)
    (repeat refine WC.seq ?_); refine WC.region ?_
    refine WL.pures rfl rfl rfl rfl rfl ?_
    refine WL.goes (fun _ _ => rfl) ?_
    (repeat refine WC.seq ?_); refine WC.yes rfl ?_
    refine WC.goes (fun _ _ => rfl) ?_
    (repeat refine WC.seq ?_); refine WC.block ?_
    (repeat refine WC.seq ?_); refine WC.region ?_
    refine WL.indexAddr' rfl rfl rfl (by omega) (by omega) rfl rfl ?_
    first | refine WL.loadAll' rfl rfl (by (repeat (first | exact AllAt.head rfl | apply AllAt.tail | apply AllAt.right)); done) rfl rfl ?_ | refine WL.load' rfl rfl (by (repeat (first | exact LdAt.head rfl | apply LdAt.tail | apply LdAt.right)); done) rfl rfl ?_
    refine WL.alloc' rfl rfl rfl (fun b8 => ?_)
    refine WL.store' rfl rfl rfl rfl (List.all_eq_true.1 (by kernel_rfl)) (by (repeat (first | exact Upd.head | apply Upd.tail | apply Upd.right))) (by decide) rfl rfl ?_
    refine WL.goes (fun _ _ => rfl) ?_
    (repeat refine WC.seq ?_); refine WC.region ?_
    refine WL.pures rfl rfl rfl rfl rfl ?_
    refine WL.load' rfl rfl (by (repeat (first | exact LdAt.head rfl | apply LdAt.tail | apply LdAt.right))) rfl rfl ?_
    refine WL.pures rfl rfl rfl rfl rfl ?_
    refine WL.load' rfl rfl (by (repeat (first | exact LdAt.head rfl | apply LdAt.tail | apply LdAt.right))) rfl rfl ?_
    refine WL.callN' rfl rfl cf33 (octal_FormatW _ 12 _ b5 (by decide) (by decide) g5 rfl _ _) rfl rfl (fun bf => ?_)
    refine WL.pures rfl rfl rfl rfl rfl ?_
    refine WL.goes (fun _ _ => rfl) ?_
    (repeat refine WC.seq ?_); refine WC.region ?_
    refine WL.pures rfl rfl rfl rfl rfl ?_
    refine WL.goes (fun _ _ => rfl) ?_
    (repeat refine WC.seq ?_); refine WC.no rfl ?_
    refine WC.goes (fun _ _ => rfl) ?_
    (repeat refine WC.seq ?_); refine WC.region ?_
    refine WL.pures rfl rfl rfl rfl rfl ?_
    refine WL.load' rfl rfl (by (repeat (first | exact LdAt.head rfl | apply LdAt.tail | apply LdAt.right))) rfl rfl ?_
    refine WL.slice' (l := 136) (h := 512) rfl rfl rfl rfl (by decide) (by decide) (by decide) (by decide) rfl rfl ?_
    refine WL.pures rfl rfl rfl rfl rfl ?_
    refine WL.copy8L' rfl rfl rfl rfl (newsL rfl (enc8_one _) (rd8_whole .head (by simp [ofmt_length]) (Nat.le_refl _))) (by (repeat (first | exact TakeL.here | exact TakeL.one | apply TakeL.tail | apply TakeL.right))) (by simp [ofmt_length]) (by omega) (by first | omega | (dsimp only; omega)) rfl rfl (fun lE eE nE => ?_)
    refine WL.goes (fun _ _ => rfl) ?_
    (repeat refine WC.seq ?_); refine WC.region ?_
    refine WL.arith' rfl rfl (binV_i64 rfl (by omega)) rfl rfl ?_
    refine WL.pures rfl rfl rfl rfl rfl ?_
    refine WL.round (fun _ _ => rfl) (WR.succ ?_)
    (repeat refine WC.seq ?_); refine WC.region ?_
    refine WL.pures rfl rfl rfl rfl rfl ?_
    refine WL.goes (fun _ _ => rfl) ?_
    (repeat refine WC.seq ?_); refine WC.no rfl ?_
    refine WC.meetx lE (fun _ _ => rfl) ?_ ?_ ?_
    · exact ⟨rfl, rfl, trivial⟩
    · refine HDrop.sub ?_
      dsimp only
      ((repeat (first | with_reducible exact HDrop.refl _ | with_reducible exact HDrop.nil _ | ((with_reducible refine HDrop.keep1 ?_ ?_); focus rfl) | with_reducible apply HDrop.skip)); done)
    · refine ⟨?_, ?_⟩
      · omega
      · rw [eE, eD, eC, eB, eA]; rfl
  rintro l2 ⟨hl2, q2⟩
  (repeat refine WC.seq ?_); refine WC.region ?_
  refine WL.pures rfl rfl rfl rfl rfl ?_
  refine WL.load' rfl rfl (by (repeat (first | exact LdAt.head rfl | apply LdAt.tail | apply LdAt.right))) rfl rfl ?_
  refine WL.indexAddr' rfl rfl rfl (by omega) (by omega) rfl rfl ?_
  refine WL.store8L' rfl rfl rfl rfl (by (repeat (first | exact TakeL.here | exact TakeL.one | apply TakeL.tail | apply TakeL.right))) (by first | omega | (dsimp only; omega)) rfl rfl (fun l3 e3 n3 => ?_)
  refine WL.goes (fun _ _ => rfl) ?_
  (repeat refine WC.seq ?_); refine WC.region ?_
  refine WL.pures rfl rfl rfl rfl rfl ?_
  refine WL.slice' (l := 257) (h := 512) rfl rfl rfl rfl (by decide) (by decide) (by decide) (by decide) rfl rfl ?_
  refine WL.copy8L' (m := 8) (new := [117, 115, 116, 97, 114, 0, 48, 48]) rfl rfl rfl rfl (newsS rfl) (by (repeat (first | exact TakeL.here | exact TakeL.one | apply TakeL.tail | apply TakeL.right))) rfl (by omega) (by first | omega | (dsimp only; omega)) rfl rfl (fun l4 e4 n4 => ?_)
  refine WL.goes (fun _ _ => rfl) ?_
  (repeat refine WC.seq ?_); refine WC.region ?_
  refine WL.pures rfl rfl rfl rfl rfl ?_
  refine WL.callNS' rfl rfl cf34 (sum_Seal _ _ (by omega) _ _ (rd8_whole .head (by omega) (Nat.le_refl _))) rfl rfl (fun A n cap o ho hn hc => ?_)
  refine WL.pures rfl rfl rfl rfl rfl ?_
  refine WL.goes (fun _ _ => rfl) ?_
  have hl4 : l4 = hblock name link user group pre mode uid gid size mtime ty := by rw [e4, e3, q2, q1]; rfl
  rw [hl4] at ho
  exact WC.doneS (fun _ _ => rfl) rfl (by (repeat (first | exact HDrop.refl _ | exact HDrop.nil _ | refine HDrop.take (by (repeat (first | exact TakeL.here | exact TakeL.one | apply TakeL.tail | apply TakeL.right))) ?_ | refine HDrop.takeL (by (repeat (first | exact TakeL.here | exact TakeL.one | apply TakeL.tail | apply TakeL.right))) ?_ | refine HDrop.skip ?_ | refine HDrop.skipR ?_))) ⟨_, _, ho, rfl, rfl⟩
end Go.Proofs.YtdapbkdfanlkkaaDoor
