/- How an entry is split into a header and records. -/
import Derived.Test.YtdapbkdfanlkkaaDoorWalkI
set_option maxRecDepth 10000
set_option linter.unusedVariables false
set_option linter.unusedSimpArgs false
namespace Go.Proofs.YtdapbkdfanlkkaaDoor
open Go Go.Pan Go.RowKit

def kPath : ByteArray := ⟨#[112, 97, 116, 104]⟩
def kLink : ByteArray := ⟨#[108, 105, 110, 107, 112, 97, 116, 104]⟩
def kUname : ByteArray := ⟨#[117, 110, 97, 109, 101]⟩
def kGname : ByteArray := ⟨#[103, 110, 97, 109, 101]⟩
def kUid : ByteArray := ⟨#[117, 105, 100]⟩
def kGid : ByteArray := ⟨#[103, 105, 100]⟩
def kSize : ByteArray := ⟨#[115, 105, 122, 101]⟩
def kMtime : ByteArray := ⟨#[109, 116, 105, 109, 101]⟩
def kLong : ByteArray := ⟨#[108, 111, 110, 103]⟩
/-- The numbers are int64s. -/
def Ent.inr (e : Ent) : Prop := (-9223372036854775808 ≤ e.mode ∧ e.mode ≤ 9223372036854775807) ∧ (-9223372036854775808 ≤ e.uid ∧ e.uid ≤ 9223372036854775807) ∧ (-9223372036854775808 ≤ e.gid ∧ e.gid ≤ 9223372036854775807) ∧ (-9223372036854775808 ≤ e.size ∧ e.size ≤ 9223372036854775807) ∧ (-9223372036854775808 ≤ e.mtime ∧ e.mtime ≤ 9223372036854775807)
def cutS (s : ByteArray) (n : Int) : ByteArray := if fitsb s n then s else ⟨#[]⟩
def cutN (n w : Int) : Int := if ofits n w then n else 0
def Ent.spre (e : Ent) : ByteArray := match splitp e.path with
  | some (p, _) => p
  | none => ⟨#[]⟩
def Ent.sname (e : Ent) : ByteArray := match splitp e.path with
  | some (_, n) => n
  | none => kLong
def hdrC (pre name link user group : ByteArray) (ty mode uid gid size mtime : Int) : Array Value := #[.int .i64 0, .string name, .string link, .string pre, .string user, .string group, .int .u8 ty, .int .i64 mode, .int .i64 uid, .int .i64 gid, .int .i64 size, .int .i64 mtime]
def hdrB (pre name link user group : ByteArray) (ty mode uid gid size mtime : Int) : Obj := .cells (hdrC pre name link user group ty mode uid gid size mtime) 45 (0, 0)
def Ent.cells (e : Ent) : Array Value := #[.string e.path, .string e.link, .int .i64 e.kind, .int .i64 e.mode, .int .i64 e.uid, .int .i64 e.gid, .int .i64 e.mtime, .int .i64 e.size, .string e.user, .string e.group]
def Ent.m0 (e : Ent) : List (ByteArray × ByteArray) := opt (splitp e.path).isSome kPath e.path
def Ent.m1 (e : Ent) : List (ByteArray × ByteArray) := e.m0 ++ opt (fitsb e.link 100) kLink e.link
def Ent.m2 (e : Ent) : List (ByteArray × ByteArray) := e.m1 ++ opt (fitsb e.user 31) kUname e.user
def Ent.m3 (e : Ent) : List (ByteArray × ByteArray) := e.m2 ++ opt (fitsb e.group 31) kGname e.group
def Ent.m4 (e : Ent) : List (ByteArray × ByteArray) := e.m3 ++ opt (ofits e.uid 8) kUid (itoa e.uid)
def Ent.m5 (e : Ent) : List (ByteArray × ByteArray) := e.m4 ++ opt (ofits e.gid 8) kGid (itoa e.gid)
def Ent.m6 (e : Ent) : List (ByteArray × ByteArray) := e.m5 ++ opt (ofits e.size 12) kSize (itoa e.size)
def Ent.m7 (e : Ent) : List (ByteArray × ByteArray) := e.m6 ++ opt (ofits e.mtime 12) kMtime (itoa e.mtime)
def keysL : List ByteArray := [kGid, kGname, kLink, kMtime, kPath, kSize, kUid, kUname]
/-- The records of what doesn't fit, by their keys. -/
def recsOf (m : List (ByteArray × ByteArray)) (ks : List ByteArray) : List (ByteArray × ByteArray) := ks.filterMap fun k => (lkS k m).map fun v => (k, v)
def Ent.recs (e : Ent) : List (ByteArray × ByteArray) := recsOf e.m7 keysL
def Ent.hdr (e : Ent) : Array Value := hdrC e.spre e.sname (cutS e.link 100) (cutS e.user 31) (cutS e.group 31) (typ e.kind) e.mode (cutN e.uid 8) (cutN e.gid 8) (cutN e.size 12) (cutN e.mtime 12)
theorem recsOf_length (m : List (ByteArray × ByteArray)) (ks : List ByteArray) : (recsOf m ks).length ≤ ks.length := List.length_filterMap_le _ _
theorem recsOf_take {m : List (ByteArray × ByteArray)} {ks : List ByteArray} {i : Nat} (hi : i < ks.length) : recsOf m (ks.take (i + 1)) = recsOf m (ks.take i) ++ ((lkS ks[i] m).map fun v => (ks[i], v)).toList := by
  unfold recsOf
  rw [List.take_succ_eq_append_getElem hi, List.filterMap_append]
  congr 1
/-- What is known of the list of records in the middle. -/
structure KSt where
  i : Nat
  A : Option Addr
  n : Nat
  cap : Nat
  o : Hs
theorem splitV_eq (q : Option (ByteArray × ByteArray)) : splitV q = .tuple #[.string (match q with | some (p, _) => p | none => ⟨#[]⟩), .string (match q with | some (_, n) => n | none => ⟨#[]⟩), .bool q.isSome] := by
  cases q <;> rfl
theorem zeroS (w : World) : (zeroValue 9).run Tryd.prog w = .ok (.string ⟨#[]⟩) w := run_zero rfl w
set_option maxHeartbeats 4000000 in
theorem emit_split (e : Ent) (hsm : e.small) (hr : e.inr) (w0 : World) (hs : Hs) (ht : HasT hs) : CallsF Tryd.prog 15 [e.val] w0 hs (NewS (fun r => .tuple #[.agg e.hdr, r]) 72 2 (recC e.recs) hs) := by
  obtain ⟨s1, s2, s3, s4⟩ := hsm
  obtain ⟨⟨q1, q1'⟩, ⟨q2, q2'⟩, ⟨q3, q3'⟩, ⟨q4, q4'⟩, ⟨q5, q5'⟩⟩ := hr
  refine CallsF.enter [(0, _)] rfl Tryd.func15 rfl rfl rfl rfl ?_
  (repeat refine WC.seq ?_); refine WC.region ?_
  refine WL.box' rfl rfl rfl (fun b1 => ?_)
  refine WL.alloc' rfl rfl rfl (fun b2 => ?_)
  refine WL.pures rfl rfl rfl rfl rfl ?_
  refine WL.goes (fun _ _ => rfl) ?_
  (repeat refine WC.seq ?_)
  refine WC.cutB (σ := Nat) (x := .region 1 _ true) (fun b4 => [(1, .pointer (some ⟨b1, 0, none⟩)), (2, .pointer (some ⟨b2, 0, none⟩)), (4, .pointer (some ⟨b4, 0, none⟩))]) (fun b4 => (b4, hdrB ⟨#[]⟩ ⟨#[]⟩ e.link e.user e.group (typ e.kind) e.mode e.uid e.gid e.size e.mtime) :: (b2, .cells (hdrC ⟨#[]⟩ ⟨#[]⟩ ⟨#[]⟩ ⟨#[]⟩ ⟨#[]⟩ 0 0 0 0 0 0) 45 (0, 0)) :: (b1, .cells e.cells 23 (0, 0)) :: hs) (fun _ => True) ?_ ?_
  · refine WC.any [(b1, .cells e.cells 23 (0, 0))] mixed (HDrop.sub (.skip (.keep1 rfl (.nil _)))) ?_
    refine WA.pure 0 rfl rfl (by kernel_rfl) (fun _ _ _ _ h => h) rfl rfl rfl ?_
    refine WA.load 1 (v := .int .i64 e.kind) rfl rfl rfl rfl (.head rfl) (by kernel_rfl) (fun _ _ _ _ h => h) rfl rfl rfl ?_
    refine WA.pure 3 rfl rfl (by kernel_rfl) (fun _ _ _ _ h => h) rfl rfl rfl ?_
    refine WA.load 4 (v := .int .i64 e.mode) rfl rfl rfl rfl (.head rfl) (by kernel_rfl) (fun _ _ _ _ h => h) rfl rfl rfl ?_
    refine WA.pure 5 rfl rfl (by kernel_rfl) (fun _ _ _ _ h => h) rfl rfl rfl ?_
    refine WA.load 6 (v := .int .i64 e.uid) rfl rfl rfl rfl (.head rfl) (by kernel_rfl) (fun _ _ _ _ h => h) rfl rfl rfl ?_
    refine WA.pure 7 rfl rfl (by kernel_rfl) (fun _ _ _ _ h => h) rfl rfl rfl ?_
    refine WA.load 8 (v := .int .i64 e.gid) rfl rfl rfl rfl (.head rfl) (by kernel_rfl) (fun _ _ _ _ h => h) rfl rfl rfl ?_
    refine WA.pure 9 rfl rfl (by kernel_rfl) (fun _ _ _ _ h => h) rfl rfl rfl ?_
    refine WA.load 10 (v := .int .i64 e.size) rfl rfl rfl rfl (.head rfl) (by kernel_rfl) (fun _ _ _ _ h => h) rfl rfl rfl ?_
    refine WA.pure 11 rfl rfl (by kernel_rfl) (fun _ _ _ _ h => h) rfl rfl rfl ?_
    refine WA.load 12 (v := .int .i64 e.mtime) rfl rfl rfl rfl (.head rfl) (by kernel_rfl) (fun _ _ _ _ h => h) rfl rfl rfl ?_
    refine WA.pure 13 rfl rfl (by kernel_rfl) (fun _ _ _ _ h => h) rfl rfl rfl ?_
    refine WA.load 14 (v := .string e.link) rfl rfl rfl rfl (.head rfl) (by kernel_rfl) (fun _ _ _ _ h => h) rfl rfl rfl ?_
    refine WA.pure 15 rfl rfl (by kernel_rfl) (fun _ _ _ _ h => h) rfl rfl rfl ?_
    refine WA.load 16 (v := .string e.user) rfl rfl rfl rfl (.head rfl) (by kernel_rfl) (fun _ _ _ _ h => h) rfl rfl rfl ?_
    refine WA.pure 17 rfl rfl (by kernel_rfl) (fun _ _ _ _ h => h) rfl rfl rfl ?_
    refine WA.load 18 (v := .string e.group) rfl rfl rfl rfl (.head rfl) (by kernel_rfl) (fun _ _ _ _ h => h) rfl rfl rfl ?_
    refine WA.two 2 20 rfl rfl (by kernel_rfl) ?_ ?_
    · refine WL.callS' rfl rfl cf21 (kind_Type _ _ _) rfl rfl (WA.on (HDrop.sub (.skip (.keep1 rfl (.nil _)))) ?_)
      refine WA.build 19 (cells := hdrC ⟨#[]⟩ ⟨#[]⟩ e.link e.user e.group (typ e.kind) e.mode e.uid e.gid e.size e.mtime) rfl rfl rfl rfl rfl (by kernel_rfl) (by kernel_rfl) (fun _ _ _ _ h => h) rfl rfl rfl ?_
      refine WA.only 20 rfl (by kernel_rfl) ?_
      refine WL.alloc' rfl rfl rfl (fun b4 => WA.on (HDrop.sub (.skip (.skip (.keep1 rfl (.nil _))))) ?_)
      refine WA.only 21 rfl (by kernel_rfl) ?_
      refine WL.store' rfl rfl rfl rfl (List.all_eq_true.1 (by kernel_rfl)) (by (repeat (first | exact Upd.head | apply Upd.tail | apply Upd.right))) (by first | decide | exact Nat.le_of_ble_eq_true rfl) rfl rfl (WA.on (HDrop.sub (.skip (.skip (.keep1 rfl (.nil _))))) ?_)
      exact WA.meet b4 (by kernel_rfl) (fun _ _ => rfl) ⟨rfl, rfl, rfl, trivial⟩ (HDrop.sub (.keep1 (by kernel_rfl) (.keep1 (by kernel_rfl) (.keep1 (by kernel_rfl) (.refl _))))) trivial
    · refine WL.alloc' rfl rfl rfl (fun b4 => WA.on (HDrop.sub (.skip (.skip (.keep1 rfl (.nil _))))) ?_)
      refine WA.only 2 rfl (by kernel_rfl) ?_
      refine WL.callS' rfl rfl cf21 (kind_Type _ _ _) rfl rfl (WA.on (HDrop.sub (.skip (.skip (.keep1 rfl (.nil _))))) ?_)
      refine WA.build 19 (cells := hdrC ⟨#[]⟩ ⟨#[]⟩ e.link e.user e.group (typ e.kind) e.mode e.uid e.gid e.size e.mtime) rfl rfl rfl rfl rfl (by kernel_rfl) (by kernel_rfl) (fun _ _ _ _ h => h) rfl rfl rfl ?_
      refine WA.only 21 rfl (by kernel_rfl) ?_
      refine WL.store' rfl rfl rfl rfl (List.all_eq_true.1 (by kernel_rfl)) (by (repeat (first | exact Upd.head | apply Upd.tail | apply Upd.right))) (by first | decide | exact Nat.le_of_ble_eq_true rfl) rfl rfl (WA.on (HDrop.sub (.skip (.skip (.keep1 rfl (.nil _))))) ?_)
      exact WA.meet b4 (by kernel_rfl) (fun _ _ => rfl) ⟨rfl, rfl, rfl, trivial⟩ (HDrop.sub (.keep1 (by kernel_rfl) (.keep1 (by kernel_rfl) (.keep1 (by kernel_rfl) (.refl _))))) trivial
  rintro b4 -
  (repeat refine WC.seq ?_); refine WC.region ?_
  refine WL.makeMap' rfl rfl (fun mb => ?_)
  refine WL.pures rfl rfl rfl rfl rfl ?_
  refine WL.goes (fun _ _ => rfl) ?_
  (repeat refine WC.seq ?_); refine WC.region ?_
  refine WL.pures rfl rfl rfl rfl rfl ?_
  refine WL.load' rfl rfl (by (repeat (first | exact LdAt.head rfl | apply LdAt.tail | apply LdAt.right))) rfl rfl ?_
  refine WL.callS' rfl rfl cf24 (head_Split e.path (by omega) _ _) rfl rfl ?_; rw [splitV_eq]
  refine WL.pures rfl rfl rfl rfl rfl ?_
  refine WL.goes (fun _ _ => rfl) ?_
  (repeat refine WC.seq ?_); refine WC.region ?_
  refine WL.pures rfl rfl rfl rfl rfl ?_
  refine WL.store' rfl rfl rfl rfl (List.all_eq_true.1 (by kernel_rfl)) (by (repeat (first | exact Upd.head | apply Upd.tail | apply Upd.right))) (by first | decide | exact Nat.le_of_ble_eq_true rfl) rfl rfl ?_
  refine WL.pures rfl rfl rfl rfl rfl ?_
  refine WL.store' rfl rfl rfl rfl (List.all_eq_true.1 (by kernel_rfl)) (by (repeat (first | exact Upd.head | apply Upd.tail | apply Upd.right))) (by first | decide | exact Nat.le_of_ble_eq_true rfl) rfl rfl ?_
  refine WL.goes (fun _ _ => rfl) ?_
  (repeat refine WC.seq ?_); refine WC.region ?_
  refine WL.pures rfl rfl rfl rfl rfl ?_
  refine WL.goes (fun _ _ => rfl) ?_
  (repeat refine WC.seq ?_)
  refine WC.cutB (σ := Unit) (x := .cond _ _ _) (fun _ => [(2, .pointer (some ⟨b2, 0, none⟩)), (4, .pointer (some ⟨b4, 0, none⟩)), (5, .map (some mb))]) (fun _ => (mb, smap e.m0) :: (b4, hdrB e.spre e.sname e.link e.user e.group (typ e.kind) e.mode e.uid e.gid e.size e.mtime) :: (b2, .cells (hdrC ⟨#[]⟩ ⟨#[]⟩ ⟨#[]⟩ ⟨#[]⟩ ⟨#[]⟩ 0 0 0 0 0 0) 45 (0, 0)) :: hs) (fun _ => True) ?_ ?_
  · cases hsp : splitp e.path with
    | none =>
      refine WC.yes rfl ?_
      (repeat refine WC.seq ?_); refine WC.region ?_
      refine WL.pures rfl rfl rfl rfl rfl ?_
      refine WL.load' rfl rfl (by (repeat (first | exact LdAt.head rfl | apply LdAt.tail | apply LdAt.right))) rfl rfl ?_
      refine WL.mapPut' (kt := 9) (et := 9) rfl rfl rfl (by kernel_rfl) (by kernel_rfl) rfl (by (repeat (first | exact Upd.head | apply Upd.tail | apply Upd.right))) rfl rfl ?_
      refine WL.pures rfl rfl rfl rfl rfl ?_
      refine WL.store' rfl rfl rfl rfl (List.all_eq_true.1 (by kernel_rfl)) (by (repeat (first | exact Upd.head | apply Upd.tail | apply Upd.right))) (by first | decide | exact Nat.le_of_ble_eq_true rfl) rfl rfl ?_
      refine WL.pures rfl rfl rfl rfl rfl ?_
      refine WL.store' rfl rfl rfl rfl (List.all_eq_true.1 (by kernel_rfl)) (by (repeat (first | exact Upd.head | apply Upd.tail | apply Upd.right))) (by first | decide | exact Nat.le_of_ble_eq_true rfl) rfl rfl ?_
      refine WL.meet () (fun _ _ => rfl) ⟨rfl, rfl, rfl, trivial⟩ ?_ trivial
      refine HDrop.sub ?_
      rw [show e.spre = ⟨#[]⟩ by simp [Ent.spre, hsp], show e.sname = kLong by simp [Ent.sname, hsp], show e.m0 = [(kPath, e.path)] by simp [Ent.m0, hsp, opt_f]]
      ((repeat (first | with_reducible exact HDrop.refl _ | with_reducible exact HDrop.nil _ | ((with_reducible refine HDrop.keep1 ?_ ?_); focus (first | with_reducible rfl | kernel_rfl)) | with_reducible apply HDrop.skip)); done)
    | some q =>
      obtain ⟨p, n⟩ := q
      refine WC.no rfl ?_
      refine WC.meet () (fun _ _ => rfl) ⟨rfl, rfl, rfl, trivial⟩ ?_ trivial
      refine HDrop.sub ?_
      rw [show e.spre = p by simp [Ent.spre, hsp], show e.sname = n by simp [Ent.sname, hsp], show e.m0 = [] by simp [Ent.m0, hsp, opt_t]]
      ((repeat (first | with_reducible exact HDrop.refl _ | with_reducible exact HDrop.nil _ | ((with_reducible refine HDrop.keep1 ?_ ?_); focus (first | with_reducible rfl | kernel_rfl)) | with_reducible apply HDrop.skip)); done)
  rintro _ -
  (repeat refine WC.seq ?_); refine WC.region ?_
  refine WL.pures rfl rfl rfl rfl rfl ?_
  refine WL.buildA' rfl rfl rfl rfl (by kernel_rfl) rfl rfl ?_
  refine WL.pures rfl rfl rfl rfl rfl ?_
  refine WL.buildA' rfl rfl rfl rfl (by kernel_rfl) rfl rfl ?_
  refine WL.pures rfl rfl rfl rfl rfl ?_
  refine WL.buildA' rfl rfl rfl rfl (by kernel_rfl) rfl rfl ?_
  refine WL.litL' (cells := #[.string kLink, .pointer (some ⟨b4, 2, none⟩), .int .i64 100, .string kUname, .pointer (some ⟨b4, 4, none⟩), .int .i64 31, .string kGname, .pointer (some ⟨b4, 5, none⟩), .int .i64 31]) rfl rfl rfl rfl (by kernel_rfl) rfl rfl (fun bl => ?_)
  refine WL.lenl' rfl rfl rfl rfl rfl rfl ?_
  refine WL.pures rfl rfl rfl rfl rfl ?_
  refine WL.goes (fun _ _ => rfl) ?_
  (repeat refine WC.seq ?_); refine WC.block ?_
  refine WC.rounds 4 (WR.succ ?_)
  (repeat refine WC.seq ?_); refine WC.region ?_
  refine WL.pures rfl rfl rfl rfl rfl ?_
  refine WL.goes (fun _ _ => rfl) ?_
  (repeat refine WC.seq ?_); refine WC.yes rfl ?_
  refine WC.goes (fun _ _ => rfl) ?_
  (repeat refine WC.seq ?_)
  refine WC.cutB (σ := Unit) (x := .block 1 _) (fun _ => [(2, .pointer (some ⟨b2, 0, none⟩)), (4, .pointer (some ⟨b4, 0, none⟩)), (5, .map (some mb)), (63, .slice (some ⟨bl, 0, none⟩) 3 3), (64, .int .i64 3), (65, .int .i64 0)]) (fun _ => (bl, .cells #[.string kLink, .pointer (some ⟨b4, 2, none⟩), .int .i64 100, .string kUname, .pointer (some ⟨b4, 4, none⟩), .int .i64 31, .string kGname, .pointer (some ⟨b4, 5, none⟩), .int .i64 31] 61 (0, 0)) :: (mb, smap e.m1) :: (b4, hdrB e.spre e.sname (cutS e.link 100) e.user e.group (typ e.kind) e.mode e.uid e.gid e.size e.mtime) :: (b2, .cells (hdrC ⟨#[]⟩ ⟨#[]⟩ ⟨#[]⟩ ⟨#[]⟩ ⟨#[]⟩ 0 0 0 0 0 0) 45 (0, 0)) :: hs) (fun _ => True) ?_ ?_
  · refine WC.block ?_
    (repeat refine WC.seq ?_); refine WC.region ?_
    refine WL.indexAddr' rfl rfl rfl (by omega) (by omega) rfl rfl ?_
    first | refine WL.loadAll' rfl rfl (by (repeat (first | exact AllAt.head rfl | apply AllAt.tail | apply AllAt.right)); done) rfl rfl ?_ | refine WL.load' rfl rfl (by (repeat (first | exact LdAt.head rfl | apply LdAt.tail | apply LdAt.right)); done) rfl rfl ?_
    refine WL.alloc' rfl rfl rfl (fun b10 => ?_)
    refine WL.store' rfl rfl rfl rfl (List.all_eq_true.1 (by kernel_rfl)) (by (repeat (first | exact Upd.head | apply Upd.tail | apply Upd.right))) (by first | decide | exact Nat.le_of_ble_eq_true rfl) rfl rfl ?_
    refine WL.goes (fun _ _ => rfl) ?_
    (repeat refine WC.seq ?_)
    refine WC.any _ mixed (HDrop.sub (.keep (.skip (.skip (.keep (.nil _)))))) ?_
    refine WA.pure 0 rfl rfl (by kernel_rfl) (fun _ _ _ _ h => h) rfl rfl rfl ?_
    refine WA.load 1 (v := .pointer (some ⟨b4, 2, none⟩)) rfl rfl rfl rfl (by (repeat (first | exact LdAt.head rfl | apply LdAt.tail | apply LdAt.right))) (by kernel_rfl) (fun _ _ _ _ h => h) rfl rfl rfl ?_
    refine WA.pure 2 rfl rfl (by kernel_rfl) (fun _ _ _ _ h => h) rfl rfl rfl ?_
    refine WA.load 3 (v := .string e.link) rfl rfl rfl rfl (by (repeat (first | exact LdAt.head rfl | apply LdAt.tail | apply LdAt.right))) (by kernel_rfl) (fun _ _ _ _ h => h) rfl rfl rfl ?_
    refine WA.pure 4 rfl rfl (by kernel_rfl) (fun _ _ _ _ h => h) rfl rfl rfl ?_
    refine WA.load 5 (v := .int .i64 100) rfl rfl rfl rfl (by (repeat (first | exact LdAt.head rfl | apply LdAt.tail | apply LdAt.right))) (by kernel_rfl) (fun _ _ _ _ h => h) rfl rfl rfl ?_
    refine WA.only 6 rfl (by kernel_rfl) ?_
    refine WL.callS' rfl rfl cf25 (head_Fits e.link 100 _ _) rfl rfl (WA.on (HDrop.sub (.keep (.skip (.skip (.keep (.nil _)))))) ?_)
    refine WA.pure 7 rfl rfl (by kernel_rfl) (fun _ _ _ _ h => h) rfl rfl rfl ?_
    refine WA.goes (by kernel_rfl) (fun _ _ => rfl) ?_
    cases hf : fitsb e.link 100 with
    | true =>
      (repeat refine WC.seq ?_); refine WC.no rfl ?_
      refine WC.meet () (fun _ _ => rfl) ⟨rfl, rfl, rfl, rfl, rfl, rfl, trivial⟩ ?_ trivial
      refine HDrop.sub ?_
      rw [show cutS e.link 100 = e.link by simp [cutS, hf], show e.m1 = e.m0 by simp [Ent.m1, hf, opt_t]]
      ((repeat (first | with_reducible exact HDrop.refl _ | with_reducible exact HDrop.nil _ | ((with_reducible refine HDrop.keep1 ?_ ?_); focus (first | with_reducible rfl | kernel_rfl)) | with_reducible apply HDrop.skip)); done)
    | false =>
      have hno : lkS kLink e.m0 = none := by unfold Ent.m0; exact (by repeat (first | exact lkS_opt rfl | apply lkS_none))
      (repeat refine WC.seq ?_); refine WC.yes rfl ?_
      refine WC.any _ mixed (HDrop.head _ _).sub ?_
      refine WA.pure 0 rfl rfl (by kernel_rfl) (fun _ _ _ _ h => h) rfl rfl rfl ?_
      refine WA.pure 1 rfl rfl (by kernel_rfl) (fun _ _ _ _ h => h) rfl rfl rfl ?_
      refine WA.load 2 (v := .string kLink) rfl rfl rfl rfl (by (repeat (first | exact LdAt.head rfl | apply LdAt.tail | apply LdAt.right))) (by kernel_rfl) (fun _ _ _ _ h => h) rfl rfl rfl ?_
      refine WA.pure 3 rfl rfl (by kernel_rfl) (fun _ _ _ _ h => h) rfl rfl rfl ?_
      refine WA.load 4 (v := .pointer (some ⟨b4, 2, none⟩)) rfl rfl rfl rfl (by (repeat (first | exact LdAt.head rfl | apply LdAt.tail | apply LdAt.right))) (by kernel_rfl) (fun _ _ _ _ h => h) rfl rfl rfl ?_
      refine WA.pure 5 rfl rfl (by kernel_rfl) (fun _ _ _ _ h => h) rfl rfl rfl ?_
      refine WA.load 6 (v := .pointer (some ⟨b4, 2, none⟩)) rfl rfl rfl rfl (by (repeat (first | exact LdAt.head rfl | apply LdAt.tail | apply LdAt.right))) (by kernel_rfl) (fun _ _ _ _ h => h) rfl rfl rfl ?_
      refine WA.pure 7 rfl rfl (by kernel_rfl) (fun _ _ _ _ h => h) rfl rfl rfl ?_
      refine WA.two 8 9 rfl rfl (by kernel_rfl) ?_ ?_
      · refine WL.load' (v := .string e.link) rfl rfl (by (repeat (first | exact LdAt.head rfl | apply LdAt.tail | apply LdAt.right))) rfl rfl (WA.on (HDrop.head _ _).sub ?_)
        refine WA.only 9 rfl (by kernel_rfl) ?_
        refine WL.mapNew' (kt := 9) (et := 9) rfl rfl (by kernel_rfl) (by kernel_rfl) zeroS hno (by (repeat (first | exact Upd.head | apply Upd.tail | apply Upd.right))) rfl rfl (WA.on (HDrop.head _ _).sub ?_)
        refine WA.pure 10 rfl rfl (by kernel_rfl) (fun _ _ _ _ h => h) rfl rfl rfl ?_
        refine WA.only 11 rfl (by kernel_rfl) ?_
        refine WL.mapFill' (v := e.link) rfl rfl rfl (by (repeat (first | exact Upd.head | apply Upd.tail | apply Upd.right))) rfl rfl (WA.on (HDrop.head _ _).sub ?_)
        refine WA.pure 12 rfl rfl (by kernel_rfl) (fun _ _ _ _ h => h) rfl rfl rfl ?_
        refine WA.only 13 rfl (by kernel_rfl) ?_
        refine WL.store' rfl rfl rfl rfl (List.all_eq_true.1 (by kernel_rfl)) (by (repeat (first | exact Upd.head | apply Upd.tail | apply Upd.right))) (by first | decide | exact Nat.le_of_ble_eq_true rfl) rfl rfl (WA.on (HDrop.head _ _).sub ?_)
        refine WA.meet () (by kernel_rfl) (fun _ _ => rfl) ⟨rfl, rfl, rfl, rfl, rfl, rfl, trivial⟩ ?_ trivial
        refine HDrop.sub ?_
        rw [show cutS e.link 100 = ⟨#[]⟩ by simp [cutS, hf], show e.m1 = e.m0 ++ [(kLink, e.link)] by simp [Ent.m1, hf, opt_f]]
        ((repeat (first | with_reducible exact HDrop.refl _ | with_reducible exact HDrop.nil _ | ((with_reducible refine HDrop.keep1 ?_ ?_); focus (first | with_reducible rfl | kernel_rfl)) | with_reducible apply HDrop.skip)); done)
      · refine WL.mapNew' (kt := 9) (et := 9) rfl rfl (by kernel_rfl) (by kernel_rfl) zeroS hno (by (repeat (first | exact Upd.head | apply Upd.tail | apply Upd.right))) rfl rfl (WA.on (HDrop.head _ _).sub ?_)
        refine WA.pure 10 rfl rfl (by kernel_rfl) (fun _ _ _ _ h => h) rfl rfl rfl ?_
        refine WA.only 8 rfl (by kernel_rfl) ?_
        refine WL.load' (v := .string e.link) rfl rfl (by (repeat (first | exact LdAt.head rfl | apply LdAt.tail | apply LdAt.right))) rfl rfl (WA.on (HDrop.head _ _).sub ?_)
        refine WA.only 11 rfl (by kernel_rfl) ?_
        refine WL.mapFill' (v := e.link) rfl rfl rfl (by (repeat (first | exact Upd.head | apply Upd.tail | apply Upd.right))) rfl rfl (WA.on (HDrop.head _ _).sub ?_)
        refine WA.pure 12 rfl rfl (by kernel_rfl) (fun _ _ _ _ h => h) rfl rfl rfl ?_
        refine WA.only 13 rfl (by kernel_rfl) ?_
        refine WL.store' rfl rfl rfl rfl (List.all_eq_true.1 (by kernel_rfl)) (by (repeat (first | exact Upd.head | apply Upd.tail | apply Upd.right))) (by first | decide | exact Nat.le_of_ble_eq_true rfl) rfl rfl (WA.on (HDrop.head _ _).sub ?_)
        refine WA.meet () (by kernel_rfl) (fun _ _ => rfl) ⟨rfl, rfl, rfl, rfl, rfl, rfl, trivial⟩ ?_ trivial
        refine HDrop.sub ?_
        rw [show cutS e.link 100 = ⟨#[]⟩ by simp [cutS, hf], show e.m1 = e.m0 ++ [(kLink, e.link)] by simp [Ent.m1, hf, opt_f]]
        ((repeat (first | with_reducible exact HDrop.refl _ | with_reducible exact HDrop.nil _ | ((with_reducible refine HDrop.keep1 ?_ ?_); focus (first | with_reducible rfl | kernel_rfl)) | with_reducible apply HDrop.skip)); done)
  rintro _ -
  (repeat refine WC.seq ?_); refine WC.region ?_
  refine WL.arith' rfl rfl (binV_i64 rfl (by omega)) rfl rfl ?_
  refine WL.pures rfl rfl rfl rfl rfl ?_
  refine WL.round (fun _ _ => rfl) (WR.succ ?_)
  (repeat refine WC.seq ?_); refine WC.region ?_
  refine WL.pures rfl rfl rfl rfl rfl ?_
  refine WL.goes (fun _ _ => rfl) ?_
  (repeat refine WC.seq ?_); refine WC.yes rfl ?_
  refine WC.goes (fun _ _ => rfl) ?_
  (repeat refine WC.seq ?_)
  refine WC.cutB (σ := Unit) (x := .block 1 _) (fun _ => [(2, .pointer (some ⟨b2, 0, none⟩)), (4, .pointer (some ⟨b4, 0, none⟩)), (5, .map (some mb)), (63, .slice (some ⟨bl, 0, none⟩) 3 3), (64, .int .i64 3), (65, .int .i64 1)]) (fun _ => (bl, .cells #[.string kLink, .pointer (some ⟨b4, 2, none⟩), .int .i64 100, .string kUname, .pointer (some ⟨b4, 4, none⟩), .int .i64 31, .string kGname, .pointer (some ⟨b4, 5, none⟩), .int .i64 31] 61 (0, 0)) :: (mb, smap e.m2) :: (b4, hdrB e.spre e.sname (cutS e.link 100) (cutS e.user 31) e.group (typ e.kind) e.mode e.uid e.gid e.size e.mtime) :: (b2, .cells (hdrC ⟨#[]⟩ ⟨#[]⟩ ⟨#[]⟩ ⟨#[]⟩ ⟨#[]⟩ 0 0 0 0 0 0) 45 (0, 0)) :: hs) (fun _ => True) ?_ ?_
  · refine WC.block ?_
    (repeat refine WC.seq ?_); refine WC.region ?_
    refine WL.indexAddr' rfl rfl rfl (by omega) (by omega) rfl rfl ?_
    first | refine WL.loadAll' rfl rfl (by (repeat (first | exact AllAt.head rfl | apply AllAt.tail | apply AllAt.right)); done) rfl rfl ?_ | refine WL.load' rfl rfl (by (repeat (first | exact LdAt.head rfl | apply LdAt.tail | apply LdAt.right)); done) rfl rfl ?_
    refine WL.alloc' rfl rfl rfl (fun b10 => ?_)
    refine WL.store' rfl rfl rfl rfl (List.all_eq_true.1 (by kernel_rfl)) (by (repeat (first | exact Upd.head | apply Upd.tail | apply Upd.right))) (by first | decide | exact Nat.le_of_ble_eq_true rfl) rfl rfl ?_
    refine WL.goes (fun _ _ => rfl) ?_
    (repeat refine WC.seq ?_)
    refine WC.any _ mixed (HDrop.sub (.keep (.skip (.skip (.keep (.nil _)))))) ?_
    refine WA.pure 0 rfl rfl (by kernel_rfl) (fun _ _ _ _ h => h) rfl rfl rfl ?_
    refine WA.load 1 (v := .pointer (some ⟨b4, 4, none⟩)) rfl rfl rfl rfl (by (repeat (first | exact LdAt.head rfl | apply LdAt.tail | apply LdAt.right))) (by kernel_rfl) (fun _ _ _ _ h => h) rfl rfl rfl ?_
    refine WA.pure 2 rfl rfl (by kernel_rfl) (fun _ _ _ _ h => h) rfl rfl rfl ?_
    refine WA.load 3 (v := .string e.user) rfl rfl rfl rfl (by (repeat (first | exact LdAt.head rfl | apply LdAt.tail | apply LdAt.right))) (by kernel_rfl) (fun _ _ _ _ h => h) rfl rfl rfl ?_
    refine WA.pure 4 rfl rfl (by kernel_rfl) (fun _ _ _ _ h => h) rfl rfl rfl ?_
    refine WA.load 5 (v := .int .i64 31) rfl rfl rfl rfl (by (repeat (first | exact LdAt.head rfl | apply LdAt.tail | apply LdAt.right))) (by kernel_rfl) (fun _ _ _ _ h => h) rfl rfl rfl ?_
    refine WA.only 6 rfl (by kernel_rfl) ?_
    refine WL.callS' rfl rfl cf25 (head_Fits e.user 31 _ _) rfl rfl (WA.on (HDrop.sub (.keep (.skip (.skip (.keep (.nil _)))))) ?_)
    refine WA.pure 7 rfl rfl (by kernel_rfl) (fun _ _ _ _ h => h) rfl rfl rfl ?_
    refine WA.goes (by kernel_rfl) (fun _ _ => rfl) ?_
    cases hf : fitsb e.user 31 with
    | true =>
      (repeat refine WC.seq ?_); refine WC.no rfl ?_
      refine WC.meet () (fun _ _ => rfl) ⟨rfl, rfl, rfl, rfl, rfl, rfl, trivial⟩ ?_ trivial
      refine HDrop.sub ?_
      rw [show cutS e.user 31 = e.user by simp [cutS, hf], show e.m2 = e.m1 by simp [Ent.m2, hf, opt_t]]
      ((repeat (first | with_reducible exact HDrop.refl _ | with_reducible exact HDrop.nil _ | ((with_reducible refine HDrop.keep1 ?_ ?_); focus (first | with_reducible rfl | kernel_rfl)) | with_reducible apply HDrop.skip)); done)
    | false =>
      have hno : lkS kUname e.m1 = none := by unfold Ent.m1 Ent.m0; exact (by repeat (first | exact lkS_opt rfl | apply lkS_none))
      (repeat refine WC.seq ?_); refine WC.yes rfl ?_
      refine WC.any _ mixed (HDrop.head _ _).sub ?_
      refine WA.pure 0 rfl rfl (by kernel_rfl) (fun _ _ _ _ h => h) rfl rfl rfl ?_
      refine WA.pure 1 rfl rfl (by kernel_rfl) (fun _ _ _ _ h => h) rfl rfl rfl ?_
      refine WA.load 2 (v := .string kUname) rfl rfl rfl rfl (by (repeat (first | exact LdAt.head rfl | apply LdAt.tail | apply LdAt.right))) (by kernel_rfl) (fun _ _ _ _ h => h) rfl rfl rfl ?_
      refine WA.pure 3 rfl rfl (by kernel_rfl) (fun _ _ _ _ h => h) rfl rfl rfl ?_
      refine WA.load 4 (v := .pointer (some ⟨b4, 4, none⟩)) rfl rfl rfl rfl (by (repeat (first | exact LdAt.head rfl | apply LdAt.tail | apply LdAt.right))) (by kernel_rfl) (fun _ _ _ _ h => h) rfl rfl rfl ?_
      refine WA.pure 5 rfl rfl (by kernel_rfl) (fun _ _ _ _ h => h) rfl rfl rfl ?_
      refine WA.load 6 (v := .pointer (some ⟨b4, 4, none⟩)) rfl rfl rfl rfl (by (repeat (first | exact LdAt.head rfl | apply LdAt.tail | apply LdAt.right))) (by kernel_rfl) (fun _ _ _ _ h => h) rfl rfl rfl ?_
      refine WA.pure 7 rfl rfl (by kernel_rfl) (fun _ _ _ _ h => h) rfl rfl rfl ?_
      refine WA.two 8 9 rfl rfl (by kernel_rfl) ?_ ?_
      · refine WL.load' (v := .string e.user) rfl rfl (by (repeat (first | exact LdAt.head rfl | apply LdAt.tail | apply LdAt.right))) rfl rfl (WA.on (HDrop.head _ _).sub ?_)
        refine WA.only 9 rfl (by kernel_rfl) ?_
        refine WL.mapNew' (kt := 9) (et := 9) rfl rfl (by kernel_rfl) (by kernel_rfl) zeroS hno (by (repeat (first | exact Upd.head | apply Upd.tail | apply Upd.right))) rfl rfl (WA.on (HDrop.head _ _).sub ?_)
        refine WA.pure 10 rfl rfl (by kernel_rfl) (fun _ _ _ _ h => h) rfl rfl rfl ?_
        refine WA.only 11 rfl (by kernel_rfl) ?_
        refine WL.mapFill' (v := e.user) rfl rfl rfl (by (repeat (first | exact Upd.head | apply Upd.tail | apply Upd.right))) rfl rfl (WA.on (HDrop.head _ _).sub ?_)
        refine WA.pure 12 rfl rfl (by kernel_rfl) (fun _ _ _ _ h => h) rfl rfl rfl ?_
        refine WA.only 13 rfl (by kernel_rfl) ?_
        refine WL.store' rfl rfl rfl rfl (List.all_eq_true.1 (by kernel_rfl)) (by (repeat (first | exact Upd.head | apply Upd.tail | apply Upd.right))) (by first | decide | exact Nat.le_of_ble_eq_true rfl) rfl rfl (WA.on (HDrop.head _ _).sub ?_)
        refine WA.meet () (by kernel_rfl) (fun _ _ => rfl) ⟨rfl, rfl, rfl, rfl, rfl, rfl, trivial⟩ ?_ trivial
        refine HDrop.sub ?_
        rw [show cutS e.user 31 = ⟨#[]⟩ by simp [cutS, hf], show e.m2 = e.m1 ++ [(kUname, e.user)] by simp [Ent.m2, hf, opt_f]]
        ((repeat (first | with_reducible exact HDrop.refl _ | with_reducible exact HDrop.nil _ | ((with_reducible refine HDrop.keep1 ?_ ?_); focus (first | with_reducible rfl | kernel_rfl)) | with_reducible apply HDrop.skip)); done)
      · refine WL.mapNew' (kt := 9) (et := 9) rfl rfl (by kernel_rfl) (by kernel_rfl) zeroS hno (by (repeat (first | exact Upd.head | apply Upd.tail | apply Upd.right))) rfl rfl (WA.on (HDrop.head _ _).sub ?_)
        refine WA.pure 10 rfl rfl (by kernel_rfl) (fun _ _ _ _ h => h) rfl rfl rfl ?_
        refine WA.only 8 rfl (by kernel_rfl) ?_
        refine WL.load' (v := .string e.user) rfl rfl (by (repeat (first | exact LdAt.head rfl | apply LdAt.tail | apply LdAt.right))) rfl rfl (WA.on (HDrop.head _ _).sub ?_)
        refine WA.only 11 rfl (by kernel_rfl) ?_
        refine WL.mapFill' (v := e.user) rfl rfl rfl (by (repeat (first | exact Upd.head | apply Upd.tail | apply Upd.right))) rfl rfl (WA.on (HDrop.head _ _).sub ?_)
        refine WA.pure 12 rfl rfl (by kernel_rfl) (fun _ _ _ _ h => h) rfl rfl rfl ?_
        refine WA.only 13 rfl (by kernel_rfl) ?_
        refine WL.store' rfl rfl rfl rfl (List.all_eq_true.1 (by kernel_rfl)) (by (repeat (first | exact Upd.head | apply Upd.tail | apply Upd.right))) (by first | decide | exact Nat.le_of_ble_eq_true rfl) rfl rfl (WA.on (HDrop.head _ _).sub ?_)
        refine WA.meet () (by kernel_rfl) (fun _ _ => rfl) ⟨rfl, rfl, rfl, rfl, rfl, rfl, trivial⟩ ?_ trivial
        refine HDrop.sub ?_
        rw [show cutS e.user 31 = ⟨#[]⟩ by simp [cutS, hf], show e.m2 = e.m1 ++ [(kUname, e.user)] by simp [Ent.m2, hf, opt_f]]
        ((repeat (first | with_reducible exact HDrop.refl _ | with_reducible exact HDrop.nil _ | ((with_reducible refine HDrop.keep1 ?_ ?_); focus (first | with_reducible rfl | kernel_rfl)) | with_reducible apply HDrop.skip)); done)
  rintro _ -
  (repeat refine WC.seq ?_); refine WC.region ?_
  refine WL.arith' rfl rfl (binV_i64 rfl (by omega)) rfl rfl ?_
  refine WL.pures rfl rfl rfl rfl rfl ?_
  refine WL.round (fun _ _ => rfl) (WR.succ ?_)
  (repeat refine WC.seq ?_); refine WC.region ?_
  refine WL.pures rfl rfl rfl rfl rfl ?_
  refine WL.goes (fun _ _ => rfl) ?_
  (repeat refine WC.seq ?_); refine WC.yes rfl ?_
  refine WC.goes (fun _ _ => rfl) ?_
  (repeat refine WC.seq ?_)
  refine WC.cutB (σ := Unit) (x := .block 1 _) (fun _ => [(2, .pointer (some ⟨b2, 0, none⟩)), (4, .pointer (some ⟨b4, 0, none⟩)), (5, .map (some mb)), (63, .slice (some ⟨bl, 0, none⟩) 3 3), (64, .int .i64 3), (65, .int .i64 2)]) (fun _ => (bl, .cells #[.string kLink, .pointer (some ⟨b4, 2, none⟩), .int .i64 100, .string kUname, .pointer (some ⟨b4, 4, none⟩), .int .i64 31, .string kGname, .pointer (some ⟨b4, 5, none⟩), .int .i64 31] 61 (0, 0)) :: (mb, smap e.m3) :: (b4, hdrB e.spre e.sname (cutS e.link 100) (cutS e.user 31) (cutS e.group 31) (typ e.kind) e.mode e.uid e.gid e.size e.mtime) :: (b2, .cells (hdrC ⟨#[]⟩ ⟨#[]⟩ ⟨#[]⟩ ⟨#[]⟩ ⟨#[]⟩ 0 0 0 0 0 0) 45 (0, 0)) :: hs) (fun _ => True) ?_ ?_
  · refine WC.block ?_
    (repeat refine WC.seq ?_); refine WC.region ?_
    refine WL.indexAddr' rfl rfl rfl (by omega) (by omega) rfl rfl ?_
    first | refine WL.loadAll' rfl rfl (by (repeat (first | exact AllAt.head rfl | apply AllAt.tail | apply AllAt.right)); done) rfl rfl ?_ | refine WL.load' rfl rfl (by (repeat (first | exact LdAt.head rfl | apply LdAt.tail | apply LdAt.right)); done) rfl rfl ?_
    refine WL.alloc' rfl rfl rfl (fun b10 => ?_)
    refine WL.store' rfl rfl rfl rfl (List.all_eq_true.1 (by kernel_rfl)) (by (repeat (first | exact Upd.head | apply Upd.tail | apply Upd.right))) (by first | decide | exact Nat.le_of_ble_eq_true rfl) rfl rfl ?_
    refine WL.goes (fun _ _ => rfl) ?_
    (repeat refine WC.seq ?_)
    refine WC.any _ mixed (HDrop.sub (.keep (.skip (.skip (.keep (.nil _)))))) ?_
    refine WA.pure 0 rfl rfl (by kernel_rfl) (fun _ _ _ _ h => h) rfl rfl rfl ?_
    refine WA.load 1 (v := .pointer (some ⟨b4, 5, none⟩)) rfl rfl rfl rfl (by (repeat (first | exact LdAt.head rfl | apply LdAt.tail | apply LdAt.right))) (by kernel_rfl) (fun _ _ _ _ h => h) rfl rfl rfl ?_
    refine WA.pure 2 rfl rfl (by kernel_rfl) (fun _ _ _ _ h => h) rfl rfl rfl ?_
    refine WA.load 3 (v := .string e.group) rfl rfl rfl rfl (by (repeat (first | exact LdAt.head rfl | apply LdAt.tail | apply LdAt.right))) (by kernel_rfl) (fun _ _ _ _ h => h) rfl rfl rfl ?_
    refine WA.pure 4 rfl rfl (by kernel_rfl) (fun _ _ _ _ h => h) rfl rfl rfl ?_
    refine WA.load 5 (v := .int .i64 31) rfl rfl rfl rfl (by (repeat (first | exact LdAt.head rfl | apply LdAt.tail | apply LdAt.right))) (by kernel_rfl) (fun _ _ _ _ h => h) rfl rfl rfl ?_
    refine WA.only 6 rfl (by kernel_rfl) ?_
    refine WL.callS' rfl rfl cf25 (head_Fits e.group 31 _ _) rfl rfl (WA.on (HDrop.sub (.keep (.skip (.skip (.keep (.nil _)))))) ?_)
    refine WA.pure 7 rfl rfl (by kernel_rfl) (fun _ _ _ _ h => h) rfl rfl rfl ?_
    refine WA.goes (by kernel_rfl) (fun _ _ => rfl) ?_
    cases hf : fitsb e.group 31 with
    | true =>
      (repeat refine WC.seq ?_); refine WC.no rfl ?_
      refine WC.meet () (fun _ _ => rfl) ⟨rfl, rfl, rfl, rfl, rfl, rfl, trivial⟩ ?_ trivial
      refine HDrop.sub ?_
      rw [show cutS e.group 31 = e.group by simp [cutS, hf], show e.m3 = e.m2 by simp [Ent.m3, hf, opt_t]]
      ((repeat (first | with_reducible exact HDrop.refl _ | with_reducible exact HDrop.nil _ | ((with_reducible refine HDrop.keep1 ?_ ?_); focus (first | with_reducible rfl | kernel_rfl)) | with_reducible apply HDrop.skip)); done)
    | false =>
      have hno : lkS kGname e.m2 = none := by unfold Ent.m2 Ent.m1 Ent.m0; exact (by repeat (first | exact lkS_opt rfl | apply lkS_none))
      (repeat refine WC.seq ?_); refine WC.yes rfl ?_
      refine WC.any _ mixed (HDrop.head _ _).sub ?_
      refine WA.pure 0 rfl rfl (by kernel_rfl) (fun _ _ _ _ h => h) rfl rfl rfl ?_
      refine WA.pure 1 rfl rfl (by kernel_rfl) (fun _ _ _ _ h => h) rfl rfl rfl ?_
      refine WA.load 2 (v := .string kGname) rfl rfl rfl rfl (by (repeat (first | exact LdAt.head rfl | apply LdAt.tail | apply LdAt.right))) (by kernel_rfl) (fun _ _ _ _ h => h) rfl rfl rfl ?_
      refine WA.pure 3 rfl rfl (by kernel_rfl) (fun _ _ _ _ h => h) rfl rfl rfl ?_
      refine WA.load 4 (v := .pointer (some ⟨b4, 5, none⟩)) rfl rfl rfl rfl (by (repeat (first | exact LdAt.head rfl | apply LdAt.tail | apply LdAt.right))) (by kernel_rfl) (fun _ _ _ _ h => h) rfl rfl rfl ?_
      refine WA.pure 5 rfl rfl (by kernel_rfl) (fun _ _ _ _ h => h) rfl rfl rfl ?_
      refine WA.load 6 (v := .pointer (some ⟨b4, 5, none⟩)) rfl rfl rfl rfl (by (repeat (first | exact LdAt.head rfl | apply LdAt.tail | apply LdAt.right))) (by kernel_rfl) (fun _ _ _ _ h => h) rfl rfl rfl ?_
      refine WA.pure 7 rfl rfl (by kernel_rfl) (fun _ _ _ _ h => h) rfl rfl rfl ?_
      refine WA.two 8 9 rfl rfl (by kernel_rfl) ?_ ?_
      · refine WL.load' (v := .string e.group) rfl rfl (by (repeat (first | exact LdAt.head rfl | apply LdAt.tail | apply LdAt.right))) rfl rfl (WA.on (HDrop.head _ _).sub ?_)
        refine WA.only 9 rfl (by kernel_rfl) ?_
        refine WL.mapNew' (kt := 9) (et := 9) rfl rfl (by kernel_rfl) (by kernel_rfl) zeroS hno (by (repeat (first | exact Upd.head | apply Upd.tail | apply Upd.right))) rfl rfl (WA.on (HDrop.head _ _).sub ?_)
        refine WA.pure 10 rfl rfl (by kernel_rfl) (fun _ _ _ _ h => h) rfl rfl rfl ?_
        refine WA.only 11 rfl (by kernel_rfl) ?_
        refine WL.mapFill' (v := e.group) rfl rfl rfl (by (repeat (first | exact Upd.head | apply Upd.tail | apply Upd.right))) rfl rfl (WA.on (HDrop.head _ _).sub ?_)
        refine WA.pure 12 rfl rfl (by kernel_rfl) (fun _ _ _ _ h => h) rfl rfl rfl ?_
        refine WA.only 13 rfl (by kernel_rfl) ?_
        refine WL.store' rfl rfl rfl rfl (List.all_eq_true.1 (by kernel_rfl)) (by (repeat (first | exact Upd.head | apply Upd.tail | apply Upd.right))) (by first | decide | exact Nat.le_of_ble_eq_true rfl) rfl rfl (WA.on (HDrop.head _ _).sub ?_)
        refine WA.meet () (by kernel_rfl) (fun _ _ => rfl) ⟨rfl, rfl, rfl, rfl, rfl, rfl, trivial⟩ ?_ trivial
        refine HDrop.sub ?_
        rw [show cutS e.group 31 = ⟨#[]⟩ by simp [cutS, hf], show e.m3 = e.m2 ++ [(kGname, e.group)] by simp [Ent.m3, hf, opt_f]]
        ((repeat (first | with_reducible exact HDrop.refl _ | with_reducible exact HDrop.nil _ | ((with_reducible refine HDrop.keep1 ?_ ?_); focus (first | with_reducible rfl | kernel_rfl)) | with_reducible apply HDrop.skip)); done)
      · refine WL.mapNew' (kt := 9) (et := 9) rfl rfl (by kernel_rfl) (by kernel_rfl) zeroS hno (by (repeat (first | exact Upd.head | apply Upd.tail | apply Upd.right))) rfl rfl (WA.on (HDrop.head _ _).sub ?_)
        refine WA.pure 10 rfl rfl (by kernel_rfl) (fun _ _ _ _ h => h) rfl rfl rfl ?_
        refine WA.only 8 rfl (by kernel_rfl) ?_
        refine WL.load' (v := .string e.group) rfl rfl (by (repeat (first | exact LdAt.head rfl | apply LdAt.tail | apply LdAt.right))) rfl rfl (WA.on (HDrop.head _ _).sub ?_)
        refine WA.only 11 rfl (by kernel_rfl) ?_
        refine WL.mapFill' (v := e.group) rfl rfl rfl (by (repeat (first | exact Upd.head | apply Upd.tail | apply Upd.right))) rfl rfl (WA.on (HDrop.head _ _).sub ?_)
        refine WA.pure 12 rfl rfl (by kernel_rfl) (fun _ _ _ _ h => h) rfl rfl rfl ?_
        refine WA.only 13 rfl (by kernel_rfl) ?_
        refine WL.store' rfl rfl rfl rfl (List.all_eq_true.1 (by kernel_rfl)) (by (repeat (first | exact Upd.head | apply Upd.tail | apply Upd.right))) (by first | decide | exact Nat.le_of_ble_eq_true rfl) rfl rfl (WA.on (HDrop.head _ _).sub ?_)
        refine WA.meet () (by kernel_rfl) (fun _ _ => rfl) ⟨rfl, rfl, rfl, rfl, rfl, rfl, trivial⟩ ?_ trivial
        refine HDrop.sub ?_
        rw [show cutS e.group 31 = ⟨#[]⟩ by simp [cutS, hf], show e.m3 = e.m2 ++ [(kGname, e.group)] by simp [Ent.m3, hf, opt_f]]
        ((repeat (first | with_reducible exact HDrop.refl _ | with_reducible exact HDrop.nil _ | ((with_reducible refine HDrop.keep1 ?_ ?_); focus (first | with_reducible rfl | kernel_rfl)) | with_reducible apply HDrop.skip)); done)
  rintro _ -
  (repeat refine WC.seq ?_); refine WC.region ?_
  refine WL.arith' rfl rfl (binV_i64 rfl (by omega)) rfl rfl ?_
  refine WL.pures rfl rfl rfl rfl rfl ?_
  refine WL.round (fun _ _ => rfl) (WR.succ ?_)
  (repeat refine WC.seq ?_); refine WC.region ?_
  refine WL.pures rfl rfl rfl rfl rfl ?_
  refine WL.goes (fun _ _ => rfl) ?_
  (repeat refine WC.seq ?_); refine WC.no rfl ?_
  refine WC.exits (fun _ _ => rfl) ?_
  (repeat refine WC.seq ?_); refine WC.region ?_
  refine WL.pures rfl rfl rfl rfl rfl ?_
  refine WL.buildA' rfl rfl rfl rfl (by kernel_rfl) rfl rfl ?_
  refine WL.pures rfl rfl rfl rfl rfl ?_
  refine WL.buildA' rfl rfl rfl rfl (by kernel_rfl) rfl rfl ?_
  refine WL.pures rfl rfl rfl rfl rfl ?_
  refine WL.buildA' rfl rfl rfl rfl (by kernel_rfl) rfl rfl ?_
  refine WL.pures rfl rfl rfl rfl rfl ?_
  refine WL.buildA' rfl rfl rfl rfl (by kernel_rfl) rfl rfl ?_
  refine WL.litL' (cells := #[.string kUid, .pointer (some ⟨b4, 8, none⟩), .int .i64 8, .string kGid, .pointer (some ⟨b4, 9, none⟩), .int .i64 8, .string kSize, .pointer (some ⟨b4, 10, none⟩), .int .i64 12, .string kMtime, .pointer (some ⟨b4, 11, none⟩), .int .i64 12]) rfl rfl rfl rfl (by kernel_rfl) rfl rfl (fun bn => ?_)
  refine WL.lenl' rfl rfl rfl rfl rfl rfl ?_
  refine WL.pures rfl rfl rfl rfl rfl ?_
  refine WL.goes (fun _ _ => rfl) ?_
  (repeat refine WC.seq ?_); refine WC.block ?_
  refine WC.rounds 5 (WR.succ ?_)
  (repeat refine WC.seq ?_); refine WC.region ?_
  refine WL.pures rfl rfl rfl rfl rfl ?_
  refine WL.goes (fun _ _ => rfl) ?_
  (repeat refine WC.seq ?_); refine WC.yes rfl ?_
  refine WC.goes (fun _ _ => rfl) ?_
  (repeat refine WC.seq ?_)
  refine WC.cutB (σ := Unit) (x := .block 3 _) (fun _ => [(2, .pointer (some ⟨b2, 0, none⟩)), (4, .pointer (some ⟨b4, 0, none⟩)), (5, .map (some mb)), (98, .slice (some ⟨bn, 0, none⟩) 4 4), (99, .int .i64 4), (100, .int .i64 0)]) (fun _ => (bn, .cells #[.string kUid, .pointer (some ⟨b4, 8, none⟩), .int .i64 8, .string kGid, .pointer (some ⟨b4, 9, none⟩), .int .i64 8, .string kSize, .pointer (some ⟨b4, 10, none⟩), .int .i64 12, .string kMtime, .pointer (some ⟨b4, 11, none⟩), .int .i64 12] 66 (0, 0)) :: (mb, smap e.m4) :: (b4, hdrB e.spre e.sname (cutS e.link 100) (cutS e.user 31) (cutS e.group 31) (typ e.kind) e.mode (cutN e.uid 8) e.gid e.size e.mtime) :: (b2, .cells (hdrC ⟨#[]⟩ ⟨#[]⟩ ⟨#[]⟩ ⟨#[]⟩ ⟨#[]⟩ 0 0 0 0 0 0) 45 (0, 0)) :: hs) (fun _ => True) ?_ ?_
  · refine WC.block ?_
    (repeat refine WC.seq ?_); refine WC.region ?_
    refine WL.indexAddr' rfl rfl rfl (by omega) (by omega) rfl rfl ?_
    first | refine WL.loadAll' rfl rfl (by (repeat (first | exact AllAt.head rfl | apply AllAt.tail | apply AllAt.right)); done) rfl rfl ?_ | refine WL.load' rfl rfl (by (repeat (first | exact LdAt.head rfl | apply LdAt.tail | apply LdAt.right)); done) rfl rfl ?_
    refine WL.alloc' rfl rfl rfl (fun b12 => ?_)
    refine WL.store' rfl rfl rfl rfl (List.all_eq_true.1 (by kernel_rfl)) (by (repeat (first | exact Upd.head | apply Upd.tail | apply Upd.right))) (by first | decide | exact Nat.le_of_ble_eq_true rfl) rfl rfl ?_
    refine WL.goes (fun _ _ => rfl) ?_
    (repeat refine WC.seq ?_)
    refine WC.any _ mixed (HDrop.sub (.keep (.skip (.skip (.skip (.keep (.nil _))))))) ?_
    refine WA.pure 0 rfl rfl (by kernel_rfl) (fun _ _ _ _ h => h) rfl rfl rfl ?_
    refine WA.load 1 (v := .pointer (some ⟨b4, 8, none⟩)) rfl rfl rfl rfl (by (repeat (first | exact LdAt.head rfl | apply LdAt.tail | apply LdAt.right))) (by kernel_rfl) (fun _ _ _ _ h => h) rfl rfl rfl ?_
    refine WA.pure 2 rfl rfl (by kernel_rfl) (fun _ _ _ _ h => h) rfl rfl rfl ?_
    refine WA.load 3 (v := .int .i64 e.uid) rfl rfl rfl rfl (by (repeat (first | exact LdAt.head rfl | apply LdAt.tail | apply LdAt.right))) (by kernel_rfl) (fun _ _ _ _ h => h) rfl rfl rfl ?_
    refine WA.pure 4 rfl rfl (by kernel_rfl) (fun _ _ _ _ h => h) rfl rfl rfl ?_
    refine WA.load 5 (v := .int .i64 8) rfl rfl rfl rfl (by (repeat (first | exact LdAt.head rfl | apply LdAt.tail | apply LdAt.right))) (by kernel_rfl) (fun _ _ _ _ h => h) rfl rfl rfl ?_
    refine WA.only 6 rfl (by kernel_rfl) ?_
    refine WL.callS' rfl rfl cf26 (octal_Fits e.uid 8 (by assumption) (by assumption) _ _) rfl rfl (WA.on (HDrop.sub (.keep (.skip (.skip (.skip (.keep (.nil _))))))) ?_)
    refine WA.pure 7 rfl rfl (by kernel_rfl) (fun _ _ _ _ h => h) rfl rfl rfl ?_
    refine WA.goes (by kernel_rfl) (fun _ _ => rfl) ?_
    cases hf : ofits e.uid 8 with
    | true =>
      (repeat refine WC.seq ?_); refine WC.no rfl ?_
      refine WC.meet () (fun _ _ => rfl) ⟨rfl, rfl, rfl, rfl, rfl, rfl, trivial⟩ ?_ trivial
      refine HDrop.sub ?_
      rw [show cutN e.uid 8 = e.uid by simp [cutN, hf], show e.m4 = e.m3 by simp [Ent.m4, hf, opt_t]]
      ((repeat (first | with_reducible exact HDrop.refl _ | with_reducible exact HDrop.nil _ | ((with_reducible refine HDrop.keep1 ?_ ?_); focus (first | with_reducible rfl | kernel_rfl)) | with_reducible apply HDrop.skip)); done)
    | false =>
      have hno : lkS kUid e.m3 = none := by unfold Ent.m3 Ent.m2 Ent.m1 Ent.m0; exact (by repeat (first | exact lkS_opt rfl | apply lkS_none))
      (repeat refine WC.seq ?_); refine WC.yes rfl ?_
      refine WC.any _ mixed (HDrop.head _ _).sub ?_
      refine WA.pure 0 rfl rfl (by kernel_rfl) (fun _ _ _ _ h => h) rfl rfl rfl ?_
      refine WA.pure 1 rfl rfl (by kernel_rfl) (fun _ _ _ _ h => h) rfl rfl rfl ?_
      refine WA.load 2 (v := .string kUid) rfl rfl rfl rfl (by (repeat (first | exact LdAt.head rfl | apply LdAt.tail | apply LdAt.right))) (by kernel_rfl) (fun _ _ _ _ h => h) rfl rfl rfl ?_
      refine WA.pure 3 rfl rfl (by kernel_rfl) (fun _ _ _ _ h => h) rfl rfl rfl ?_
      refine WA.load 4 (v := .pointer (some ⟨b4, 8, none⟩)) rfl rfl rfl rfl (by (repeat (first | exact LdAt.head rfl | apply LdAt.tail | apply LdAt.right))) (by kernel_rfl) (fun _ _ _ _ h => h) rfl rfl rfl ?_
      refine WA.pure 5 rfl rfl (by kernel_rfl) (fun _ _ _ _ h => h) rfl rfl rfl ?_
      refine WA.load 6 (v := .pointer (some ⟨b4, 8, none⟩)) rfl rfl rfl rfl (by (repeat (first | exact LdAt.head rfl | apply LdAt.tail | apply LdAt.right))) (by kernel_rfl) (fun _ _ _ _ h => h) rfl rfl rfl ?_
      refine WA.pure 7 rfl rfl (by kernel_rfl) (fun _ _ _ _ h => h) rfl rfl rfl ?_
      refine WA.only 8 rfl (by kernel_rfl) ?_
      refine WL.load' (v := .int .i64 e.uid) rfl rfl (by (repeat (first | exact LdAt.head rfl | apply LdAt.tail | apply LdAt.right))) rfl rfl (WA.on (HDrop.head _ _).sub ?_)
      refine WA.only 9 rfl (by kernel_rfl) ?_
      refine WL.callS' rfl rfl cf27 (str_FormatInt e.uid (by assumption) (by assumption) _ _ ((((((ht.cons _).cons _).cons _).cons _).cons _).cons _)) rfl rfl (WA.on (HDrop.head _ _).sub ?_)
      refine WA.only 10 rfl (by kernel_rfl) ?_
      refine WL.mapNew' (kt := 9) (et := 9) rfl rfl (by kernel_rfl) (by kernel_rfl) zeroS hno (by (repeat (first | exact Upd.head | apply Upd.tail | apply Upd.right))) rfl rfl (WA.on (HDrop.head _ _).sub ?_)
      refine WA.pure 11 rfl rfl (by kernel_rfl) (fun _ _ _ _ h => h) rfl rfl rfl ?_
      refine WA.only 12 rfl (by kernel_rfl) ?_
      refine WL.mapFill' (v := itoa e.uid) rfl rfl rfl (by (repeat (first | exact Upd.head | apply Upd.tail | apply Upd.right))) rfl rfl (WA.on (HDrop.head _ _).sub ?_)
      refine WA.pure 13 rfl rfl (by kernel_rfl) (fun _ _ _ _ h => h) rfl rfl rfl ?_
      refine WA.only 14 rfl (by kernel_rfl) ?_
      refine WL.store' rfl rfl rfl rfl (List.all_eq_true.1 (by kernel_rfl)) (by (repeat (first | exact Upd.head | apply Upd.tail | apply Upd.right))) (by first | decide | exact Nat.le_of_ble_eq_true rfl) rfl rfl (WA.on (HDrop.head _ _).sub ?_)
      refine WA.meet () (by kernel_rfl) (fun _ _ => rfl) ⟨rfl, rfl, rfl, rfl, rfl, rfl, trivial⟩ ?_ trivial
      refine HDrop.sub ?_
      rw [show cutN e.uid 8 = 0 by simp [cutN, hf], show e.m4 = e.m3 ++ [(kUid, itoa e.uid)] by simp [Ent.m4, hf, opt_f]]
      ((repeat (first | with_reducible exact HDrop.refl _ | with_reducible exact HDrop.nil _ | ((with_reducible refine HDrop.keep1 ?_ ?_); focus (first | with_reducible rfl | kernel_rfl)) | with_reducible apply HDrop.skip)); done)
  rintro _ -
  (repeat refine WC.seq ?_); refine WC.region ?_
  refine WL.arith' rfl rfl (binV_i64 rfl (by omega)) rfl rfl ?_
  refine WL.pures rfl rfl rfl rfl rfl ?_
  refine WL.round (fun _ _ => rfl) (WR.succ ?_)
  (repeat refine WC.seq ?_); refine WC.region ?_
  refine WL.pures rfl rfl rfl rfl rfl ?_
  refine WL.goes (fun _ _ => rfl) ?_
  (repeat refine WC.seq ?_); refine WC.yes rfl ?_
  refine WC.goes (fun _ _ => rfl) ?_
  (repeat refine WC.seq ?_)
  refine WC.cutB (σ := Unit) (x := .block 3 _) (fun _ => [(2, .pointer (some ⟨b2, 0, none⟩)), (4, .pointer (some ⟨b4, 0, none⟩)), (5, .map (some mb)), (98, .slice (some ⟨bn, 0, none⟩) 4 4), (99, .int .i64 4), (100, .int .i64 1)]) (fun _ => (bn, .cells #[.string kUid, .pointer (some ⟨b4, 8, none⟩), .int .i64 8, .string kGid, .pointer (some ⟨b4, 9, none⟩), .int .i64 8, .string kSize, .pointer (some ⟨b4, 10, none⟩), .int .i64 12, .string kMtime, .pointer (some ⟨b4, 11, none⟩), .int .i64 12] 66 (0, 0)) :: (mb, smap e.m5) :: (b4, hdrB e.spre e.sname (cutS e.link 100) (cutS e.user 31) (cutS e.group 31) (typ e.kind) e.mode (cutN e.uid 8) (cutN e.gid 8) e.size e.mtime) :: (b2, .cells (hdrC ⟨#[]⟩ ⟨#[]⟩ ⟨#[]⟩ ⟨#[]⟩ ⟨#[]⟩ 0 0 0 0 0 0) 45 (0, 0)) :: hs) (fun _ => True) ?_ ?_
  · refine WC.block ?_
    (repeat refine WC.seq ?_); refine WC.region ?_
    refine WL.indexAddr' rfl rfl rfl (by omega) (by omega) rfl rfl ?_
    first | refine WL.loadAll' rfl rfl (by (repeat (first | exact AllAt.head rfl | apply AllAt.tail | apply AllAt.right)); done) rfl rfl ?_ | refine WL.load' rfl rfl (by (repeat (first | exact LdAt.head rfl | apply LdAt.tail | apply LdAt.right)); done) rfl rfl ?_
    refine WL.alloc' rfl rfl rfl (fun b12 => ?_)
    refine WL.store' rfl rfl rfl rfl (List.all_eq_true.1 (by kernel_rfl)) (by (repeat (first | exact Upd.head | apply Upd.tail | apply Upd.right))) (by first | decide | exact Nat.le_of_ble_eq_true rfl) rfl rfl ?_
    refine WL.goes (fun _ _ => rfl) ?_
    (repeat refine WC.seq ?_)
    refine WC.any _ mixed (HDrop.sub (.keep (.skip (.skip (.keep (.nil _)))))) ?_
    refine WA.pure 0 rfl rfl (by kernel_rfl) (fun _ _ _ _ h => h) rfl rfl rfl ?_
    refine WA.load 1 (v := .pointer (some ⟨b4, 9, none⟩)) rfl rfl rfl rfl (by (repeat (first | exact LdAt.head rfl | apply LdAt.tail | apply LdAt.right))) (by kernel_rfl) (fun _ _ _ _ h => h) rfl rfl rfl ?_
    refine WA.pure 2 rfl rfl (by kernel_rfl) (fun _ _ _ _ h => h) rfl rfl rfl ?_
    refine WA.load 3 (v := .int .i64 e.gid) rfl rfl rfl rfl (by (repeat (first | exact LdAt.head rfl | apply LdAt.tail | apply LdAt.right))) (by kernel_rfl) (fun _ _ _ _ h => h) rfl rfl rfl ?_
    refine WA.pure 4 rfl rfl (by kernel_rfl) (fun _ _ _ _ h => h) rfl rfl rfl ?_
    refine WA.load 5 (v := .int .i64 8) rfl rfl rfl rfl (by (repeat (first | exact LdAt.head rfl | apply LdAt.tail | apply LdAt.right))) (by kernel_rfl) (fun _ _ _ _ h => h) rfl rfl rfl ?_
    refine WA.only 6 rfl (by kernel_rfl) ?_
    refine WL.callS' rfl rfl cf26 (octal_Fits e.gid 8 (by assumption) (by assumption) _ _) rfl rfl (WA.on (HDrop.sub (.keep (.skip (.skip (.keep (.nil _)))))) ?_)
    refine WA.pure 7 rfl rfl (by kernel_rfl) (fun _ _ _ _ h => h) rfl rfl rfl ?_
    refine WA.goes (by kernel_rfl) (fun _ _ => rfl) ?_
    cases hf : ofits e.gid 8 with
    | true =>
      (repeat refine WC.seq ?_); refine WC.no rfl ?_
      refine WC.meet () (fun _ _ => rfl) ⟨rfl, rfl, rfl, rfl, rfl, rfl, trivial⟩ ?_ trivial
      refine HDrop.sub ?_
      rw [show cutN e.gid 8 = e.gid by simp [cutN, hf], show e.m5 = e.m4 by simp [Ent.m5, hf, opt_t]]
      ((repeat (first | with_reducible exact HDrop.refl _ | with_reducible exact HDrop.nil _ | ((with_reducible refine HDrop.keep1 ?_ ?_); focus (first | with_reducible rfl | kernel_rfl)) | with_reducible apply HDrop.skip)); done)
    | false =>
      have hno : lkS kGid e.m4 = none := by unfold Ent.m4 Ent.m3 Ent.m2 Ent.m1 Ent.m0; exact (by repeat (first | exact lkS_opt rfl | apply lkS_none))
      (repeat refine WC.seq ?_); refine WC.yes rfl ?_
      refine WC.any _ mixed (HDrop.head _ _).sub ?_
      refine WA.pure 0 rfl rfl (by kernel_rfl) (fun _ _ _ _ h => h) rfl rfl rfl ?_
      refine WA.pure 1 rfl rfl (by kernel_rfl) (fun _ _ _ _ h => h) rfl rfl rfl ?_
      refine WA.load 2 (v := .string kGid) rfl rfl rfl rfl (by (repeat (first | exact LdAt.head rfl | apply LdAt.tail | apply LdAt.right))) (by kernel_rfl) (fun _ _ _ _ h => h) rfl rfl rfl ?_
      refine WA.pure 3 rfl rfl (by kernel_rfl) (fun _ _ _ _ h => h) rfl rfl rfl ?_
      refine WA.load 4 (v := .pointer (some ⟨b4, 9, none⟩)) rfl rfl rfl rfl (by (repeat (first | exact LdAt.head rfl | apply LdAt.tail | apply LdAt.right))) (by kernel_rfl) (fun _ _ _ _ h => h) rfl rfl rfl ?_
      refine WA.pure 5 rfl rfl (by kernel_rfl) (fun _ _ _ _ h => h) rfl rfl rfl ?_
      refine WA.load 6 (v := .pointer (some ⟨b4, 9, none⟩)) rfl rfl rfl rfl (by (repeat (first | exact LdAt.head rfl | apply LdAt.tail | apply LdAt.right))) (by kernel_rfl) (fun _ _ _ _ h => h) rfl rfl rfl ?_
      refine WA.pure 7 rfl rfl (by kernel_rfl) (fun _ _ _ _ h => h) rfl rfl rfl ?_
      refine WA.only 8 rfl (by kernel_rfl) ?_
      refine WL.load' (v := .int .i64 e.gid) rfl rfl (by (repeat (first | exact LdAt.head rfl | apply LdAt.tail | apply LdAt.right))) rfl rfl (WA.on (HDrop.head _ _).sub ?_)
      refine WA.only 9 rfl (by kernel_rfl) ?_
      refine WL.callS' rfl rfl cf27 (str_FormatInt e.gid (by assumption) (by assumption) _ _ (((((ht.cons _).cons _).cons _).cons _).cons _)) rfl rfl (WA.on (HDrop.head _ _).sub ?_)
      refine WA.only 10 rfl (by kernel_rfl) ?_
      refine WL.mapNew' (kt := 9) (et := 9) rfl rfl (by kernel_rfl) (by kernel_rfl) zeroS hno (by (repeat (first | exact Upd.head | apply Upd.tail | apply Upd.right))) rfl rfl (WA.on (HDrop.head _ _).sub ?_)
      refine WA.pure 11 rfl rfl (by kernel_rfl) (fun _ _ _ _ h => h) rfl rfl rfl ?_
      refine WA.only 12 rfl (by kernel_rfl) ?_
      refine WL.mapFill' (v := itoa e.gid) rfl rfl rfl (by (repeat (first | exact Upd.head | apply Upd.tail | apply Upd.right))) rfl rfl (WA.on (HDrop.head _ _).sub ?_)
      refine WA.pure 13 rfl rfl (by kernel_rfl) (fun _ _ _ _ h => h) rfl rfl rfl ?_
      refine WA.only 14 rfl (by kernel_rfl) ?_
      refine WL.store' rfl rfl rfl rfl (List.all_eq_true.1 (by kernel_rfl)) (by (repeat (first | exact Upd.head | apply Upd.tail | apply Upd.right))) (by first | decide | exact Nat.le_of_ble_eq_true rfl) rfl rfl (WA.on (HDrop.head _ _).sub ?_)
      refine WA.meet () (by kernel_rfl) (fun _ _ => rfl) ⟨rfl, rfl, rfl, rfl, rfl, rfl, trivial⟩ ?_ trivial
      refine HDrop.sub ?_
      rw [show cutN e.gid 8 = 0 by simp [cutN, hf], show e.m5 = e.m4 ++ [(kGid, itoa e.gid)] by simp [Ent.m5, hf, opt_f]]
      ((repeat (first | with_reducible exact HDrop.refl _ | with_reducible exact HDrop.nil _ | ((with_reducible refine HDrop.keep1 ?_ ?_); focus (first | with_reducible rfl | kernel_rfl)) | with_reducible apply HDrop.skip)); done)
  rintro _ -
  (repeat refine WC.seq ?_); refine WC.region ?_
  refine WL.arith' rfl rfl (binV_i64 rfl (by omega)) rfl rfl ?_
  refine WL.pures rfl rfl rfl rfl rfl ?_
  refine WL.round (fun _ _ => rfl) (WR.succ ?_)
  (repeat refine WC.seq ?_); refine WC.region ?_
  refine WL.pures rfl rfl rfl rfl rfl ?_
  refine WL.goes (fun _ _ => rfl) ?_
  (repeat refine WC.seq ?_); refine WC.yes rfl ?_
  refine WC.goes (fun _ _ => rfl) ?_
  (repeat refine WC.seq ?_)
  refine WC.cutB (σ := Unit) (x := .block 3 _) (fun _ => [(2, .pointer (some ⟨b2, 0, none⟩)), (4, .pointer (some ⟨b4, 0, none⟩)), (5, .map (some mb)), (98, .slice (some ⟨bn, 0, none⟩) 4 4), (99, .int .i64 4), (100, .int .i64 2)]) (fun _ => (bn, .cells #[.string kUid, .pointer (some ⟨b4, 8, none⟩), .int .i64 8, .string kGid, .pointer (some ⟨b4, 9, none⟩), .int .i64 8, .string kSize, .pointer (some ⟨b4, 10, none⟩), .int .i64 12, .string kMtime, .pointer (some ⟨b4, 11, none⟩), .int .i64 12] 66 (0, 0)) :: (mb, smap e.m6) :: (b4, hdrB e.spre e.sname (cutS e.link 100) (cutS e.user 31) (cutS e.group 31) (typ e.kind) e.mode (cutN e.uid 8) (cutN e.gid 8) (cutN e.size 12) e.mtime) :: (b2, .cells (hdrC ⟨#[]⟩ ⟨#[]⟩ ⟨#[]⟩ ⟨#[]⟩ ⟨#[]⟩ 0 0 0 0 0 0) 45 (0, 0)) :: hs) (fun _ => True) ?_ ?_
  · refine WC.block ?_
    (repeat refine WC.seq ?_); refine WC.region ?_
    refine WL.indexAddr' rfl rfl rfl (by omega) (by omega) rfl rfl ?_
    first | refine WL.loadAll' rfl rfl (by (repeat (first | exact AllAt.head rfl | apply AllAt.tail | apply AllAt.right)); done) rfl rfl ?_ | refine WL.load' rfl rfl (by (repeat (first | exact LdAt.head rfl | apply LdAt.tail | apply LdAt.right)); done) rfl rfl ?_
    refine WL.alloc' rfl rfl rfl (fun b12 => ?_)
    refine WL.store' rfl rfl rfl rfl (List.all_eq_true.1 (by kernel_rfl)) (by (repeat (first | exact Upd.head | apply Upd.tail | apply Upd.right))) (by first | decide | exact Nat.le_of_ble_eq_true rfl) rfl rfl ?_
    refine WL.goes (fun _ _ => rfl) ?_
    (repeat refine WC.seq ?_)
    refine WC.any _ mixed (HDrop.sub (.keep (.skip (.skip (.keep (.nil _)))))) ?_
    refine WA.pure 0 rfl rfl (by kernel_rfl) (fun _ _ _ _ h => h) rfl rfl rfl ?_
    refine WA.load 1 (v := .pointer (some ⟨b4, 10, none⟩)) rfl rfl rfl rfl (by (repeat (first | exact LdAt.head rfl | apply LdAt.tail | apply LdAt.right))) (by kernel_rfl) (fun _ _ _ _ h => h) rfl rfl rfl ?_
    refine WA.pure 2 rfl rfl (by kernel_rfl) (fun _ _ _ _ h => h) rfl rfl rfl ?_
    refine WA.load 3 (v := .int .i64 e.size) rfl rfl rfl rfl (by (repeat (first | exact LdAt.head rfl | apply LdAt.tail | apply LdAt.right))) (by kernel_rfl) (fun _ _ _ _ h => h) rfl rfl rfl ?_
    refine WA.pure 4 rfl rfl (by kernel_rfl) (fun _ _ _ _ h => h) rfl rfl rfl ?_
    refine WA.load 5 (v := .int .i64 12) rfl rfl rfl rfl (by (repeat (first | exact LdAt.head rfl | apply LdAt.tail | apply LdAt.right))) (by kernel_rfl) (fun _ _ _ _ h => h) rfl rfl rfl ?_
    refine WA.only 6 rfl (by kernel_rfl) ?_
    refine WL.callS' rfl rfl cf26 (octal_Fits e.size 12 (by assumption) (by assumption) _ _) rfl rfl (WA.on (HDrop.sub (.keep (.skip (.skip (.keep (.nil _)))))) ?_)
    refine WA.pure 7 rfl rfl (by kernel_rfl) (fun _ _ _ _ h => h) rfl rfl rfl ?_
    refine WA.goes (by kernel_rfl) (fun _ _ => rfl) ?_
    cases hf : ofits e.size 12 with
    | true =>
      (repeat refine WC.seq ?_); refine WC.no rfl ?_
      refine WC.meet () (fun _ _ => rfl) ⟨rfl, rfl, rfl, rfl, rfl, rfl, trivial⟩ ?_ trivial
      refine HDrop.sub ?_
      rw [show cutN e.size 12 = e.size by simp [cutN, hf], show e.m6 = e.m5 by simp [Ent.m6, hf, opt_t]]
      ((repeat (first | with_reducible exact HDrop.refl _ | with_reducible exact HDrop.nil _ | ((with_reducible refine HDrop.keep1 ?_ ?_); focus (first | with_reducible rfl | kernel_rfl)) | with_reducible apply HDrop.skip)); done)
    | false =>
      have hno : lkS kSize e.m5 = none := by unfold Ent.m5 Ent.m4 Ent.m3 Ent.m2 Ent.m1 Ent.m0; exact (by repeat (first | exact lkS_opt rfl | apply lkS_none))
      (repeat refine WC.seq ?_); refine WC.yes rfl ?_
      refine WC.any _ mixed (HDrop.head _ _).sub ?_
      refine WA.pure 0 rfl rfl (by kernel_rfl) (fun _ _ _ _ h => h) rfl rfl rfl ?_
      refine WA.pure 1 rfl rfl (by kernel_rfl) (fun _ _ _ _ h => h) rfl rfl rfl ?_
      refine WA.load 2 (v := .string kSize) rfl rfl rfl rfl (by (repeat (first | exact LdAt.head rfl | apply LdAt.tail | apply LdAt.right))) (by kernel_rfl) (fun _ _ _ _ h => h) rfl rfl rfl ?_
      refine WA.pure 3 rfl rfl (by kernel_rfl) (fun _ _ _ _ h => h) rfl rfl rfl ?_
      refine WA.load 4 (v := .pointer (some ⟨b4, 10, none⟩)) rfl rfl rfl rfl (by (repeat (first | exact LdAt.head rfl | apply LdAt.tail | apply LdAt.right))) (by kernel_rfl) (fun _ _ _ _ h => h) rfl rfl rfl ?_
      refine WA.pure 5 rfl rfl (by kernel_rfl) (fun _ _ _ _ h => h) rfl rfl rfl ?_
      refine WA.load 6 (v := .pointer (some ⟨b4, 10, none⟩)) rfl rfl rfl rfl (by (repeat (first | exact LdAt.head rfl | apply LdAt.tail | apply LdAt.right))) (by kernel_rfl) (fun _ _ _ _ h => h) rfl rfl rfl ?_
      refine WA.pure 7 rfl rfl (by kernel_rfl) (fun _ _ _ _ h => h) rfl rfl rfl ?_
      refine WA.only 8 rfl (by kernel_rfl) ?_
      refine WL.load' (v := .int .i64 e.size) rfl rfl (by (repeat (first | exact LdAt.head rfl | apply LdAt.tail | apply LdAt.right))) rfl rfl (WA.on (HDrop.head _ _).sub ?_)
      refine WA.only 9 rfl (by kernel_rfl) ?_
      refine WL.callS' rfl rfl cf27 (str_FormatInt e.size (by assumption) (by assumption) _ _ (((((ht.cons _).cons _).cons _).cons _).cons _)) rfl rfl (WA.on (HDrop.head _ _).sub ?_)
      refine WA.only 10 rfl (by kernel_rfl) ?_
      refine WL.mapNew' (kt := 9) (et := 9) rfl rfl (by kernel_rfl) (by kernel_rfl) zeroS hno (by (repeat (first | exact Upd.head | apply Upd.tail | apply Upd.right))) rfl rfl (WA.on (HDrop.head _ _).sub ?_)
      refine WA.pure 11 rfl rfl (by kernel_rfl) (fun _ _ _ _ h => h) rfl rfl rfl ?_
      refine WA.only 12 rfl (by kernel_rfl) ?_
      refine WL.mapFill' (v := itoa e.size) rfl rfl rfl (by (repeat (first | exact Upd.head | apply Upd.tail | apply Upd.right))) rfl rfl (WA.on (HDrop.head _ _).sub ?_)
      refine WA.pure 13 rfl rfl (by kernel_rfl) (fun _ _ _ _ h => h) rfl rfl rfl ?_
      refine WA.only 14 rfl (by kernel_rfl) ?_
      refine WL.store' rfl rfl rfl rfl (List.all_eq_true.1 (by kernel_rfl)) (by (repeat (first | exact Upd.head | apply Upd.tail | apply Upd.right))) (by first | decide | exact Nat.le_of_ble_eq_true rfl) rfl rfl (WA.on (HDrop.head _ _).sub ?_)
      refine WA.meet () (by kernel_rfl) (fun _ _ => rfl) ⟨rfl, rfl, rfl, rfl, rfl, rfl, trivial⟩ ?_ trivial
      refine HDrop.sub ?_
      rw [show cutN e.size 12 = 0 by simp [cutN, hf], show e.m6 = e.m5 ++ [(kSize, itoa e.size)] by simp [Ent.m6, hf, opt_f]]
      ((repeat (first | with_reducible exact HDrop.refl _ | with_reducible exact HDrop.nil _ | ((with_reducible refine HDrop.keep1 ?_ ?_); focus (first | with_reducible rfl | kernel_rfl)) | with_reducible apply HDrop.skip)); done)
  rintro _ -
  (repeat refine WC.seq ?_); refine WC.region ?_
  refine WL.arith' rfl rfl (binV_i64 rfl (by omega)) rfl rfl ?_
  refine WL.pures rfl rfl rfl rfl rfl ?_
  refine WL.round (fun _ _ => rfl) (WR.succ ?_)
  (repeat refine WC.seq ?_); refine WC.region ?_
  refine WL.pures rfl rfl rfl rfl rfl ?_
  refine WL.goes (fun _ _ => rfl) ?_
  (repeat refine WC.seq ?_); refine WC.yes rfl ?_
  refine WC.goes (fun _ _ => rfl) ?_
  (repeat refine WC.seq ?_)
  refine WC.cutB (σ := Unit) (x := .block 3 _) (fun _ => [(2, .pointer (some ⟨b2, 0, none⟩)), (4, .pointer (some ⟨b4, 0, none⟩)), (5, .map (some mb)), (98, .slice (some ⟨bn, 0, none⟩) 4 4), (99, .int .i64 4), (100, .int .i64 3)]) (fun _ => (bn, .cells #[.string kUid, .pointer (some ⟨b4, 8, none⟩), .int .i64 8, .string kGid, .pointer (some ⟨b4, 9, none⟩), .int .i64 8, .string kSize, .pointer (some ⟨b4, 10, none⟩), .int .i64 12, .string kMtime, .pointer (some ⟨b4, 11, none⟩), .int .i64 12] 66 (0, 0)) :: (mb, smap e.m7) :: (b4, hdrB e.spre e.sname (cutS e.link 100) (cutS e.user 31) (cutS e.group 31) (typ e.kind) e.mode (cutN e.uid 8) (cutN e.gid 8) (cutN e.size 12) (cutN e.mtime 12)) :: (b2, .cells (hdrC ⟨#[]⟩ ⟨#[]⟩ ⟨#[]⟩ ⟨#[]⟩ ⟨#[]⟩ 0 0 0 0 0 0) 45 (0, 0)) :: hs) (fun _ => True) ?_ ?_
  · refine WC.block ?_
    (repeat refine WC.seq ?_); refine WC.region ?_
    refine WL.indexAddr' rfl rfl rfl (by omega) (by omega) rfl rfl ?_
    first | refine WL.loadAll' rfl rfl (by (repeat (first | exact AllAt.head rfl | apply AllAt.tail | apply AllAt.right)); done) rfl rfl ?_ | refine WL.load' rfl rfl (by (repeat (first | exact LdAt.head rfl | apply LdAt.tail | apply LdAt.right)); done) rfl rfl ?_
    refine WL.alloc' rfl rfl rfl (fun b12 => ?_)
    refine WL.store' rfl rfl rfl rfl (List.all_eq_true.1 (by kernel_rfl)) (by (repeat (first | exact Upd.head | apply Upd.tail | apply Upd.right))) (by first | decide | exact Nat.le_of_ble_eq_true rfl) rfl rfl ?_
    refine WL.goes (fun _ _ => rfl) ?_
    (repeat refine WC.seq ?_)
    refine WC.any _ mixed (HDrop.sub (.keep (.skip (.skip (.keep (.nil _)))))) ?_
    refine WA.pure 0 rfl rfl (by kernel_rfl) (fun _ _ _ _ h => h) rfl rfl rfl ?_
    refine WA.load 1 (v := .pointer (some ⟨b4, 11, none⟩)) rfl rfl rfl rfl (by (repeat (first | exact LdAt.head rfl | apply LdAt.tail | apply LdAt.right))) (by kernel_rfl) (fun _ _ _ _ h => h) rfl rfl rfl ?_
    refine WA.pure 2 rfl rfl (by kernel_rfl) (fun _ _ _ _ h => h) rfl rfl rfl ?_
    refine WA.load 3 (v := .int .i64 e.mtime) rfl rfl rfl rfl (by (repeat (first | exact LdAt.head rfl | apply LdAt.tail | apply LdAt.right))) (by kernel_rfl) (fun _ _ _ _ h => h) rfl rfl rfl ?_
    refine WA.pure 4 rfl rfl (by kernel_rfl) (fun _ _ _ _ h => h) rfl rfl rfl ?_
    refine WA.load 5 (v := .int .i64 12) rfl rfl rfl rfl (by (repeat (first | exact LdAt.head rfl | apply LdAt.tail | apply LdAt.right))) (by kernel_rfl) (fun _ _ _ _ h => h) rfl rfl rfl ?_
    refine WA.only 6 rfl (by kernel_rfl) ?_
    refine WL.callS' rfl rfl cf26 (octal_Fits e.mtime 12 (by assumption) (by assumption) _ _) rfl rfl (WA.on (HDrop.sub (.keep (.skip (.skip (.keep (.nil _)))))) ?_)
    refine WA.pure 7 rfl rfl (by kernel_rfl) (fun _ _ _ _ h => h) rfl rfl rfl ?_
    refine WA.goes (by kernel_rfl) (fun _ _ => rfl) ?_
    cases hf : ofits e.mtime 12 with
    | true =>
      (repeat refine WC.seq ?_); refine WC.no rfl ?_
      refine WC.meet () (fun _ _ => rfl) ⟨rfl, rfl, rfl, rfl, rfl, rfl, trivial⟩ ?_ trivial
      refine HDrop.sub ?_
      rw [show cutN e.mtime 12 = e.mtime by simp [cutN, hf], show e.m7 = e.m6 by simp [Ent.m7, hf, opt_t]]
      ((repeat (first | with_reducible exact HDrop.refl _ | with_reducible exact HDrop.nil _ | ((with_reducible refine HDrop.keep1 ?_ ?_); focus (first | with_reducible rfl | kernel_rfl)) | with_reducible apply HDrop.skip)); done)
    | false =>
      have hno : lkS kMtime e.m6 = none := by unfold Ent.m6 Ent.m5 Ent.m4 Ent.m3 Ent.m2 Ent.m1 Ent.m0; exact (by repeat (first | exact lkS_opt rfl | apply lkS_none))
      (repeat refine WC.seq ?_); refine WC.yes rfl ?_
      refine WC.any _ mixed (HDrop.head _ _).sub ?_
      refine WA.pure 0 rfl rfl (by kernel_rfl) (fun _ _ _ _ h => h) rfl rfl rfl ?_
      refine WA.pure 1 rfl rfl (by kernel_rfl) (fun _ _ _ _ h => h) rfl rfl rfl ?_
      refine WA.load 2 (v := .string kMtime) rfl rfl rfl rfl (by (repeat (first | exact LdAt.head rfl | apply LdAt.tail | apply LdAt.right))) (by kernel_rfl) (fun _ _ _ _ h => h) rfl rfl rfl ?_
      refine WA.pure 3 rfl rfl (by kernel_rfl) (fun _ _ _ _ h => h) rfl rfl rfl ?_
      refine WA.load 4 (v := .pointer (some ⟨b4, 11, none⟩)) rfl rfl rfl rfl (by (repeat (first | exact LdAt.head rfl | apply LdAt.tail | apply LdAt.right))) (by kernel_rfl) (fun _ _ _ _ h => h) rfl rfl rfl ?_
      refine WA.pure 5 rfl rfl (by kernel_rfl) (fun _ _ _ _ h => h) rfl rfl rfl ?_
      refine WA.load 6 (v := .pointer (some ⟨b4, 11, none⟩)) rfl rfl rfl rfl (by (repeat (first | exact LdAt.head rfl | apply LdAt.tail | apply LdAt.right))) (by kernel_rfl) (fun _ _ _ _ h => h) rfl rfl rfl ?_
      refine WA.pure 7 rfl rfl (by kernel_rfl) (fun _ _ _ _ h => h) rfl rfl rfl ?_
      refine WA.only 8 rfl (by kernel_rfl) ?_
      refine WL.load' (v := .int .i64 e.mtime) rfl rfl (by (repeat (first | exact LdAt.head rfl | apply LdAt.tail | apply LdAt.right))) rfl rfl (WA.on (HDrop.head _ _).sub ?_)
      refine WA.only 9 rfl (by kernel_rfl) ?_
      refine WL.callS' rfl rfl cf27 (str_FormatInt e.mtime (by assumption) (by assumption) _ _ (((((ht.cons _).cons _).cons _).cons _).cons _)) rfl rfl (WA.on (HDrop.head _ _).sub ?_)
      refine WA.only 10 rfl (by kernel_rfl) ?_
      refine WL.mapNew' (kt := 9) (et := 9) rfl rfl (by kernel_rfl) (by kernel_rfl) zeroS hno (by (repeat (first | exact Upd.head | apply Upd.tail | apply Upd.right))) rfl rfl (WA.on (HDrop.head _ _).sub ?_)
      refine WA.pure 11 rfl rfl (by kernel_rfl) (fun _ _ _ _ h => h) rfl rfl rfl ?_
      refine WA.only 12 rfl (by kernel_rfl) ?_
      refine WL.mapFill' (v := itoa e.mtime) rfl rfl rfl (by (repeat (first | exact Upd.head | apply Upd.tail | apply Upd.right))) rfl rfl (WA.on (HDrop.head _ _).sub ?_)
      refine WA.pure 13 rfl rfl (by kernel_rfl) (fun _ _ _ _ h => h) rfl rfl rfl ?_
      refine WA.only 14 rfl (by kernel_rfl) ?_
      refine WL.store' rfl rfl rfl rfl (List.all_eq_true.1 (by kernel_rfl)) (by (repeat (first | exact Upd.head | apply Upd.tail | apply Upd.right))) (by first | decide | exact Nat.le_of_ble_eq_true rfl) rfl rfl (WA.on (HDrop.head _ _).sub ?_)
      refine WA.meet () (by kernel_rfl) (fun _ _ => rfl) ⟨rfl, rfl, rfl, rfl, rfl, rfl, trivial⟩ ?_ trivial
      refine HDrop.sub ?_
      rw [show cutN e.mtime 12 = 0 by simp [cutN, hf], show e.m7 = e.m6 ++ [(kMtime, itoa e.mtime)] by simp [Ent.m7, hf, opt_f]]
      ((repeat (first | with_reducible exact HDrop.refl _ | with_reducible exact HDrop.nil _ | ((with_reducible refine HDrop.keep1 ?_ ?_); focus (first | with_reducible rfl | kernel_rfl)) | with_reducible apply HDrop.skip)); done)
  rintro _ -
  (repeat refine WC.seq ?_); refine WC.region ?_
  refine WL.arith' rfl rfl (binV_i64 rfl (by omega)) rfl rfl ?_
  refine WL.pures rfl rfl rfl rfl rfl ?_
  refine WL.round (fun _ _ => rfl) (WR.succ ?_)
  (repeat refine WC.seq ?_); refine WC.region ?_
  refine WL.pures rfl rfl rfl rfl rfl ?_
  refine WL.goes (fun _ _ => rfl) ?_
  (repeat refine WC.seq ?_); refine WC.no rfl ?_
  refine WC.exits (fun _ _ => rfl) ?_
  (repeat refine WC.seq ?_); refine WC.region ?_
  refine WL.pures rfl rfl rfl rfl rfl ?_
  refine WL.goes (fun _ _ => rfl) ?_
  (repeat refine WC.seq ?_); refine WC.region ?_
  refine WL.litL' (cells := #[.string kGid, .string kGname, .string kLink, .string kMtime, .string kPath, .string kSize, .string kUid, .string kUname]) rfl rfl rfl rfl (by kernel_rfl) rfl rfl (fun bk => ?_)
  refine WL.lenl' rfl rfl rfl rfl rfl rfl ?_
  refine WL.pures rfl rfl rfl rfl rfl ?_
  refine WL.goes (fun _ _ => rfl) ?_
  (repeat refine WC.seq ?_); refine WC.block ?_
  refine WC.loopS (σ := KSt) (fun s => [(2, .pointer (some ⟨b2, 0, none⟩)), (4, .pointer (some ⟨b4, 0, none⟩)), (5, .map (some mb)), (13, .slice s.A s.n s.cap), (126, .slice (some ⟨bk, 0, none⟩) 8 8), (127, .int .i64 8), (128, .int .i64 s.i)])
    (fun s => (bk, .cells (keysL.map .string).toArray 9 (0, 0)) :: (mb, smap e.m7) :: (b4, hdrB e.spre e.sname (cutS e.link 100) (cutS e.user 31) (cutS e.group 31) (typ e.kind) e.mode (cutN e.uid 8) (cutN e.gid 8) (cutN e.size 12) (cutN e.mtime 12)) :: (b2, .cells (hdrC ⟨#[]⟩ ⟨#[]⟩ ⟨#[]⟩ ⟨#[]⟩ ⟨#[]⟩ 0 0 0 0 0 0) 45 (0, 0)) :: (s.o ++ hs))
    (fun s => s.i ≤ 8 ∧ Own 72 2 (.slice s.A s.n s.cap) (recC (recsOf e.m7 (keysL.take s.i))) s.o) (fun s => 8 - s.i) ⟨0, none, 0, 0, []⟩ ⟨rfl, rfl, rfl, rfl, rfl, rfl, rfl, trivial⟩ (HDrop.sub ?_) ⟨Nat.zero_le _, Own.nil _ _⟩ ?_
  · dsimp only [List.nil_append]
    ((repeat (first | with_reducible exact HDrop.refl _ | with_reducible exact HDrop.nil _ | ((with_reducible refine HDrop.keep1 ?_ ?_); focus (first | with_reducible rfl | kernel_rfl)) | with_reducible apply HDrop.skip)); done)
  rintro ⟨i, A, n, cap, o⟩ ⟨hi, hown⟩
  simp only at hi hown
  (repeat refine WC.seq ?_); refine WC.region ?_
  refine WL.pures rfl rfl rfl rfl rfl ?_
  refine WL.goes (fun _ _ => rfl) ?_
  (repeat refine WC.seq ?_); refine WC.ite rfl (fun c => ?_) (fun c => ?_)
  · have c' : (i : Int) < 8 := c
    have hil : i < keysL.length := by show i < 8; omega
    have htake := recsOf_take (m := e.m7) hil
    have hkey : (keysL.map Value.string).toArray[0 + i * 1]? = some (.string keysL[i]) := by
      rw [show 0 + i * 1 = i by omega]
      simp only [List.getElem?_toArray, List.getElem?_map, List.getElem?_eq_getElem hil, Option.map_some]
    have hlen := recsOf_length e.m7 (keysL.take i)
    have hn : n * 2 ≤ 16 := by
      obtain ⟨_, _, _, he, h1, _⟩ := hown.form
      cases he
      rw [recC_length] at h1
      have : (keysL.take i).length ≤ 8 := by rw [List.length_take]; omega
      omega
    generalize keysL[i] = key at *
    refine WC.goes (fun _ _ => rfl) ?_
    (repeat refine WC.seq ?_); refine WC.block ?_
    (repeat refine WC.seq ?_); refine WC.region ?_
    refine WL.indexAddr' rfl rfl rfl (by omega) (by omega) rfl rfl ?_; rw [Int.toNat_natCast]
    refine WL.load' rfl rfl (.head hkey) rfl rfl ?_
    refine WL.pures rfl rfl rfl rfl rfl ?_
    refine WL.goes (fun _ _ => rfl) ?_
    (repeat refine WC.seq ?_); refine WC.region ?_
    refine WL.pures rfl rfl rfl rfl rfl ?_
    refine WL.mapGet' (kt := 9) (et := 9) rfl rfl (by kernel_rfl) (by kernel_rfl) zeroS (.tail .head) rfl rfl ?_
    refine WL.pures rfl rfl rfl rfl rfl ?_
    refine WL.goes (fun _ _ => rfl) ?_
    cases hg : lkS key e.m7 with
    | none =>
      rw [hg] at htake
      (repeat refine WC.seq ?_); refine WC.region ?_
      refine WL.pures rfl rfl rfl rfl rfl ?_
      refine WL.goes (fun _ _ => rfl) ?_
      (repeat refine WC.seq ?_); refine WC.no rfl ?_
      refine WC.goes (fun _ _ => rfl) ?_
      (repeat refine WC.seq ?_); refine WC.region ?_
      refine WL.arith' rfl rfl (binV_i64 rfl (by omega)) rfl rfl ?_
      refine WL.pures rfl rfl rfl rfl rfl ?_
      refine WL.again ⟨i + 1, A, n, cap, o⟩ (fun _ _ => rfl) ⟨rfl, rfl, rfl, rfl, rfl, rfl, rfl, trivial⟩ (.refl _) ⟨(show i + 1 ≤ 8 by omega), by rw [htake, Option.map_none, Option.toList_none, List.append_nil]; exact hown⟩ (by simp only; omega)
    | some v =>
      rw [hg] at htake
      (repeat refine WC.seq ?_); refine WC.region ?_
      refine WL.pures rfl rfl rfl rfl rfl ?_
      refine WL.goes (fun _ _ => rfl) ?_
      (repeat refine WC.seq ?_); refine WC.yes rfl ?_
      (repeat refine WC.seq ?_); refine WC.region ?_
      refine WL.pures rfl rfl rfl rfl rfl ?_
      refine WL.buildA' rfl rfl rfl rfl (by kernel_rfl) rfl rfl ?_
      refine WL.litL' (cells := #[.string key, .string v]) rfl rfl rfl rfl (by kernel_rfl) rfl rfl (fun b143 => ?_)
      refine WL.append' rfl rfl rfl rfl rfl rfl hown (by (repeat (first | exact TakeL.here | exact TakeL.one | apply TakeL.tail | apply TakeL.right))) (newsL rfl (recC_one [(key, v)]) (rd_one .head)) (by dsimp only; omega) (by dsimp only; omega) rfl rfl (fun A' cap' o' hown' => ?_)
      refine WL.pures rfl rfl rfl rfl rfl ?_
      refine WL.goes (fun _ _ => rfl) ?_
      (repeat refine WC.seq ?_); refine WC.region ?_
      refine WL.arith' rfl rfl (binV_i64 rfl (by omega)) rfl rfl ?_
      refine WL.pures rfl rfl rfl rfl rfl ?_
      refine WL.again ⟨i + 1, A', n + 1, cap', o'⟩ (fun _ _ => rfl) ⟨rfl, rfl, rfl, rfl, rfl, rfl, rfl, trivial⟩ (HDrop.sub (.take (.right (.tail .one)) (.take (.right (.tail .one)) (.take (.right (.tail .one)) (.take (.right (.tail .one)) (.takeL .here (.skip (.refl _)))))))) ⟨(show i + 1 ≤ 8 by omega), by rw [htake, recC_append]; exact hown'⟩ (by simp only; omega)
  · have c' : ¬ (i : Int) < 8 := c
    obtain rfl : i = 8 := by omega
    refine WC.exits (fun _ _ => rfl) ?_
    (repeat refine WC.seq ?_); refine WC.region ?_
    refine WL.loadAll' rfl rfl (.tail (.tail (.head rfl))) rfl rfl ?_
    refine WL.pures rfl rfl rfl rfl rfl ?_
    refine WL.store' rfl rfl rfl rfl (List.all_eq_true.1 (by kernel_rfl)) (.tail (.tail (.tail .head))) (by decide) rfl rfl ?_
    refine WL.pures rfl rfl rfl rfl rfl ?_
    refine WL.goes (fun _ _ => rfl) ?_
    exact WC.doneC (fun _ _ => rfl) (.cell (v := .agg e.hdr) rfl rfl (.tail (.tail (.tail (.head (by kernel_rfl))))) (.tmp rfl .nil)) (.skip (.skip (.skip (.skip (.refl _))))) ⟨_, _, hown, rfl, rfl⟩
end Go.Proofs.YtdapbkdfanlkkaaDoor
