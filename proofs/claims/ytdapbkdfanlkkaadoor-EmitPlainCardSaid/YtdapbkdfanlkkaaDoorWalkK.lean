/- How an entry's header is written. -/
import Derived.Test.YtdapbkdfanlkkaaDoorPureB
set_option maxRecDepth 10000
set_option linter.unusedVariables false
set_option linter.unusedSimpArgs false
namespace Go.Proofs.YtdapbkdfanlkkaaDoor
open Go Go.Pan Go.RowKit

theorem head_EncodeI (name link pre user group : ByteArray) (ty : UInt8) (mode uid gid size mtime : Int)
    (f1 : fitsb name 100 = true) (f2 : fitsb link 100 = true) (f3 : fitsb user 31 = true) (f4 : fitsb group 31 = true) (f5 : fitsb pre 155 = true)
    (g1 : ofits mode 8 = true) (g2 : ofits uid 8 = true) (g3 : ofits gid 8 = true) (g4 : ofits size 12 = true) (g5 : ofits mtime 12 = true)
    (b1 : mode ≤ 9223372036854775807) (b2 : uid ≤ 9223372036854775807) (b3 : gid ≤ 9223372036854775807) (b4 : size ≤ 9223372036854775807) (b5 : mtime ≤ 9223372036854775807)
    (w0 : World) (hs : Hs) : CallsF Tryd.prog 17 [.agg (hdrC pre name link user group ty.toNat mode uid gid size mtime)] w0 hs
      (NewS (fun r => .tuple #[r, .int .i64 0]) 5 1 (enc8 (seal8 (hblock name link user group pre mode.toNat uid.toNat gid.toNat size.toNat mtime.toNat ty))) hs) := by
  obtain ⟨mode, rfl⟩ := Int.eq_ofNat_of_zero_le (ofits_nonneg g1)
  obtain ⟨uid, rfl⟩ := Int.eq_ofNat_of_zero_le (ofits_nonneg g2)
  obtain ⟨gid, rfl⟩ := Int.eq_ofNat_of_zero_le (ofits_nonneg g3)
  obtain ⟨size, rfl⟩ := Int.eq_ofNat_of_zero_le (ofits_nonneg g4)
  obtain ⟨mtime, rfl⟩ := Int.eq_ofNat_of_zero_le (ofits_nonneg g5)
  exact head_Encode 0 name link pre user group ty mode uid gid size mtime f1 f2 f3 f4 f5 g1 g2 g3 g4 g5 b1 b2 b3 b4 b5 w0 hs
def kPax : ByteArray := ⟨#[112, 97, 120]⟩
/-- The header of an entry itself. -/
def Ent.head (e : Ent) : List UInt8 := seal8 (hblock e.sname (cutS e.link 100) (cutS e.user 31) (cutS e.group 31) e.spre e.mode.toNat (cutN e.uid 8).toNat (cutN e.gid 8).toNat (cutN e.size 12).toNat (cutN e.mtime 12).toNat (tyB e.kind))
/-- The header of records. -/
def paxHead (n : Nat) : List UInt8 := seal8 (hblock kPax ⟨#[]⟩ ⟨#[]⟩ ⟨#[]⟩ ⟨#[]⟩ 420 0 0 n 0 120)
/-- What stands ahead of an entry's header. -/
def paxAll (l : List (ByteArray × ByteArray)) : List UInt8 := paxHead (paxs l).length ++ paxs l ++ List.replicate (padn (paxs l).length) 0
def Ent.ahead (e : Ent) : List UInt8 := if e.recs = [] then [] else paxAll e.recs
def Ent.bytes (e : Ent) : List UInt8 := e.ahead ++ e.head
/-- Are the records too long? -/
def toolong (l : List (ByteArray × ByteArray)) : Prop := l ≠ [] ∧ (l.all rshort = false ∨ 8192 < (paxs l).length)
theorem Ent.head_length (e : Ent) : e.head.length = 512 := by
  have h := fun n => fitsb_size (fitsb_cutS (s := e.link) (n := 100) (by omega))
  exact seal8_length (hblock_length (by have := fitsb_size (sname_fits e); omega) (by have := fitsb_size (fitsb_cutS (s := e.link) (n := 100) (by omega)); omega) (by have := fitsb_size (fitsb_cutS (s := e.user) (n := 31) (by omega)); omega) (by have := fitsb_size (fitsb_cutS (s := e.group) (n := 31) (by omega)); omega) (by have := fitsb_size (spre_fits e); omega))
theorem paxHead_length (n : Nat) : (paxHead n).length = 512 := seal8_length (hblock_length (by decide) (by decide) (by decide) (by decide) (by decide))
theorem paxAll_length (l : List (ByteArray × ByteArray)) : (paxAll l).length = 512 + (paxs l).length + padn (paxs l).length := by
  simp [paxAll, paxHead_length, Nat.add_assoc]
/-- What the contract says of an entry's header. -/
def EntR (e : Ent) (hs : Hs) (v : Value) (hs' : Hs) : Prop :=
  (e.ok ∧ ¬ toolong e.recs ∧ NewS (fun r => .tuple #[r, .int .i64 0]) 5 1 (enc8 e.bytes) hs v hs') ∨
  (e.ok ∧ toolong e.recs ∧ Same (.tuple #[.slice none 0 0, .int .i64 2]) hs v hs') ∨ (¬ e.ok ∧ Same (.tuple #[.slice none 0 0, .int .i64 90]) hs v hs')
structure SSt where
  A : Option Addr
  n : Nat
  cap : Nat
  o : Hs
set_option maxHeartbeats 2000000 in
theorem emit_Entry (e : Ent) (hsm : e.small) (hr : e.inr) (w0 : World) (hs : Hs) (ht : HasT hs) : CallsF Tryd.prog 8 [e.val] w0 hs (EntR e hs) := by
  have hrs := recs_size hsm hr
  have hr8 := recs_len e
  have hrg := recs_good (e := e)
  refine CallsF.enter [(0, _)] rfl Tryd.func8 rfl rfl rfl rfl ?_
  (repeat refine WC.seq ?_); refine WC.region ?_
  refine WL.box' rfl rfl rfl (fun b1 => ?_)
  refine WL.pures rfl rfl rfl rfl rfl ?_
  refine WL.goes (fun _ _ => rfl) ?_
  (repeat refine WC.seq ?_); refine WC.region ?_
  refine WL.load' (v := e.val) rfl rfl (.head (by kernel_rfl)) rfl rfl ?_
  refine WL.call' rfl rfl cf11 (emit_Check e hsm _ _) rfl rfl (fun v hs' hv => ?_); obtain ⟨rfl, bc, cc, rfl⟩ := hv
  refine WL.pures rfl rfl rfl rfl rfl ?_
  refine WL.goes (fun _ _ => rfl) ?_
  by_cases hok : e.ok
  case neg =>
    rw [if_neg hok]
    (repeat refine WC.seq ?_); refine WC.region ?_
    refine WL.pures rfl rfl rfl rfl rfl ?_
    refine WL.goes (fun _ _ => rfl) ?_
    (repeat refine WC.seq ?_); refine WC.yes rfl ?_
    (repeat refine WC.seq ?_); refine WC.region ?_
    refine WL.pures rfl rfl rfl rfl rfl ?_
    refine WL.goes (fun _ _ => rfl) ?_
    exact WC.doneS (fun _ _ => rfl) rfl (.skip (.skip (.refl _))) (.inr (.inr ⟨hok, rfl, rfl⟩))
  rw [if_pos hok]
  obtain ⟨⟨k1, k2, k3, k4, k5, k6⟩, _⟩ := id hok
  obtain ⟨⟨q1, q1'⟩, ⟨q2, q2'⟩, ⟨q3, q3'⟩, ⟨q4, q4'⟩, ⟨q5, q5'⟩⟩ := id hr
  have hmode : ofits e.mode 8 = true := by
    obtain ⟨m, hm⟩ := Int.eq_ofNat_of_zero_le k2
    rw [hm]
    exact ofits_lt (n := m) (w := 8) (by omega) (by omega)
  (repeat refine WC.seq ?_); refine WC.region ?_
  refine WL.pures rfl rfl rfl rfl rfl ?_
  refine WL.goes (fun _ _ => rfl) ?_
  (repeat refine WC.seq ?_); refine WC.no rfl ?_
  refine WC.goes (fun _ _ => rfl) ?_
  (repeat refine WC.seq ?_); refine WC.region ?_
  refine WL.load' (v := e.val) rfl rfl (.tail (.head (by kernel_rfl))) rfl rfl ?_
  refine WL.callNS' rfl rfl cf15 (emit_split e hsm hr _ _ ((ht.cons _).cons _)) rfl rfl (fun A n cap o hown hn hcap => ?_)
  refine WL.pures rfl rfl rfl rfl rfl ?_
  refine WL.alloc' rfl rfl rfl (fun b5 => ?_)
  refine WL.store' rfl rfl rfl rfl (List.all_eq_true.1 (by kernel_rfl)) .head (by decide) rfl rfl ?_
  refine WL.pures rfl rfl rfl rfl rfl ?_
  refine WL.goes (fun _ _ => rfl) ?_
  rw [recC_length] at hn
  obtain rfl : n = e.recs.length := by omega
  (repeat refine WC.seq ?_); refine WC.region ?_
  refine WL.pures rfl rfl rfl rfl rfl ?_
  refine WL.goes (fun _ _ => rfl) ?_
  (repeat refine WC.seq ?_); refine WC.region ?_
  refine WL.pures rfl rfl rfl rfl rfl ?_
  refine WL.lenl' rfl rfl rfl rfl rfl rfl ?_
  refine WL.pures rfl rfl rfl rfl rfl ?_
  refine WL.goes (fun _ _ => rfl) ?_
  (repeat refine WC.seq ?_)
  refine WC.cutB (σ := SSt) (x := .cond _ _ _) (fun s => [(5, .pointer (some ⟨b5, 0, none⟩)), (7, .slice s.A s.n s.cap)]) (fun s => (b5, .cells e.hdr 45 (0, 0)) :: (s.o ++ hs)) (fun s => ¬ toolong e.recs ∧ Own 5 1 (.slice s.A s.n s.cap) (enc8 e.ahead) s.o) ?_ ?_
  · refine WC.ite rfl (fun c => ?_) (fun c => ?_)
    · have hne : e.recs ≠ [] := fun h => by rw [h] at c; simp at c
      have hpos : 0 < e.recs.length := List.length_pos_iff.2 hne
      (repeat refine WC.seq ?_); refine WC.region ?_
      refine WL.pures rfl rfl rfl rfl rfl ?_
      refine WL.call' rfl rfl cf16 (pax_Encode e.recs _ _ _ ((hown.rd _).cons _) hpos (by omega) hrg hrs ((((ht.cons _).cons _).right _).cons _)) rfl rfl (fun v hs' hv => ?_)
      skip
      skip
      skip
      skip
      skip
      skip
      cases hsh : e.recs.all rshort with
      | false =>
        rw [hsh, if_neg (by decide)] at hv
        obtain ⟨rfl, rfl⟩ := hv
        refine WL.pures rfl rfl rfl rfl rfl ?_
        refine WL.goes (fun _ _ => rfl) ?_
        (repeat refine WC.seq ?_); refine WC.region ?_
        refine WL.pures rfl rfl rfl rfl rfl ?_
        refine WL.goes (fun _ _ => rfl) ?_
        (repeat refine WC.seq ?_); refine WC.yes rfl ?_
        (repeat refine WC.seq ?_); refine WC.region ?_
        refine WL.pures rfl rfl rfl rfl rfl ?_
        refine WL.goes (fun _ _ => rfl) ?_
        exact WC.doneS (fun _ _ => rfl) rfl (.skip (.skipR (.skip (.skip (.refl _))))) (.inr (.inl ⟨hok, ⟨hne, .inl hsh⟩, rfl, rfl⟩))
      | true =>
        rw [hsh, if_pos rfl] at hv
        obtain ⟨bp, m, capp, cp, frp, rfl, hrdp, rfl⟩ := hv
        obtain rfl : m = (paxs e.recs).length := by
          obtain ⟨_, _, _, he, h1, _⟩ := hrdp.form
          cases he
          rw [enc8_length] at h1
          omega
        refine WL.pures rfl rfl rfl rfl rfl ?_
        refine WL.goes (fun _ _ => rfl) ?_
        (repeat refine WC.seq ?_); refine WC.region ?_
        refine WL.pures rfl rfl rfl rfl rfl ?_
        refine WL.goes (fun _ _ => rfl) ?_
        (repeat refine WC.seq ?_); refine WC.no rfl ?_
        refine WC.goes (fun _ _ => rfl) ?_
        (repeat refine WC.seq ?_); refine WC.region ?_
        refine WL.pures rfl rfl rfl rfl rfl ?_
        refine WL.lenl' rfl rfl rfl rfl rfl rfl ?_
        refine WL.pures rfl rfl rfl rfl rfl ?_
        refine WL.goes (fun _ _ => rfl) ?_
        (repeat refine WC.seq ?_); refine WC.ite rfl (fun c => ?_) (fun c => ?_)
        · (repeat refine WC.seq ?_); refine WC.region ?_
          refine WL.pures rfl rfl rfl rfl rfl ?_
          refine WL.goes (fun _ _ => rfl) ?_
          exact WC.doneS (fun _ _ => rfl) rfl (.skip (.skip (.skipR (.skip (.skip (.refl _)))))) (.inr (.inl ⟨hok, ⟨hne, .inr (by omega)⟩, rfl, rfl⟩))
        · have hnt : ¬ toolong e.recs := fun ⟨_, h⟩ => by
            rcases h with h | h
            · rw [hsh] at h; cases h
            · omega
          have hpad : padn (paxs e.recs).length < 512 := Nat.mod_lt _ (by omega)
          refine WC.goes (fun _ _ => rfl) ?_
          (repeat refine WC.seq ?_); refine WC.region ?_
          refine WL.pures rfl rfl rfl rfl rfl ?_
          refine WL.lenl' rfl rfl rfl rfl rfl rfl ?_
          refine WL.build' (cells := hdrC ⟨#[]⟩ kPax ⟨#[]⟩ ⟨#[]⟩ ⟨#[]⟩ ((120 : UInt8).toNat) 420 0 0 (paxs e.recs).length 0) rfl rfl rfl (by kernel_rfl) rfl rfl ?_
          refine WL.callNS' rfl rfl cf17 (head_EncodeI kPax ⟨#[]⟩ ⟨#[]⟩ ⟨#[]⟩ ⟨#[]⟩ 120 420 0 0 (paxs e.recs).length 0 (by rfl) (by rfl) (by rfl) (by rfl) (by rfl) (ofits_lt (n := 420) (w := 8) (by decide) (by decide)) (ofits_0 (by decide)) (ofits_0 (by decide)) (ofits_lt (n := (paxs e.recs).length) (w := 12) (by decide) (by omega)) (ofits_0 (by decide)) (by decide) (by decide) (by decide) (by omega) (by decide) _ _) rfl rfl (fun Ax nx capx ox hox hnx hcapx => ?_)
          refine WL.pures rfl rfl rfl rfl rfl ?_
          refine WL.goes (fun _ _ => rfl) ?_
          have hox' : Own 5 1 (.slice Ax nx capx) (enc8 (paxHead (paxs e.recs).length)) ox := hox
          have hnx' : nx = 512 := by
            obtain ⟨_, _, _, he, h1, _⟩ := hox'.form
            cases he
            rw [enc8_length, paxHead_length] at h1
            omega
          (repeat refine WC.seq ?_); refine WC.region ?_
          refine WL.pures rfl rfl rfl rfl rfl ?_
          refine WL.goes (fun _ _ => rfl) ?_
          (repeat refine WC.seq ?_); refine WC.no rfl ?_
          refine WC.goes (fun _ _ => rfl) ?_
          (repeat refine WC.seq ?_); refine WC.region ?_
          refine WL.pures rfl rfl rfl rfl rfl ?_
          refine WL.append8' rfl rfl rfl rfl rfl rfl (own8_nil _) .none (newsL rfl (enc8_one _) (hox'.rd _)) (by omega) (by omega) rfl rfl (fun A1 cap1 o1 h1 => ?_)
          refine WL.pures rfl rfl rfl rfl rfl ?_
          refine WL.append8' rfl rfl rfl rfl rfl rfl h1 .here (newsL rfl (enc8_one _) ((hrdp.app _).app _)) (by omega) (by omega) rfl rfl (fun A2 cap2 o2 h2 => ?_)
          refine WL.pures rfl rfl rfl rfl rfl ?_
          refine WL.lenl' rfl rfl rfl rfl rfl rfl ?_
          refine WL.callN' rfl rfl cf13 (emit_Fill _ (by omega) _ _) rfl rfl (fun bf => ?_)
          refine WL.append8' rfl rfl rfl rfl rfl rfl h2 (.tail .here) (newsL rfl (enc8_one _) (rd8_whole .head (by simp) (Nat.le_refl _))) (by omega) (by omega) rfl rfl (fun A3 cap3 o3 h3 => ?_)
          refine WL.pures rfl rfl rfl rfl rfl ?_
          refine WL.meet ⟨A3, _, cap3, o3⟩ (fun _ _ => rfl) ⟨rfl, rfl, trivial⟩ (HDrop.sub (.takeE (.right (.tail (.right (.tail .one)))) (by kernel_rfl) (.takeL .here (.skip (.skipR (.skip (.skipR (.skip (.skip (.refl _)))))))))) ⟨hnt, by rw [Ent.ahead, if_neg hne]; exact h3⟩
    · have hnil : e.recs = [] := List.length_eq_zero_iff.1 (by omega)
      refine WC.meet ⟨none, 0, 0, []⟩ (fun _ _ => rfl) ⟨rfl, rfl, trivial⟩ (HDrop.sub (.keep1 (by kernel_rfl) (.skipR (.skip (.skip (.refl _)))))) ⟨fun h => h.1 hnil, by rw [Ent.ahead, if_pos hnil]; exact Own.nil _ _⟩
  · rintro ⟨A, n, cap, o⟩ ⟨hnt, hown⟩
    have heq : e.hdr = hdrC e.spre e.sname (cutS e.link 100) (cutS e.user 31) (cutS e.group 31) (tyB e.kind).toNat e.mode (cutN e.uid 8) (cutN e.gid 8) (cutN e.size 12) (cutN e.mtime 12) := by rw [← tyB_typ]; rfl
    simp only at hown
    (repeat refine WC.seq ?_); refine WC.region ?_
    refine WL.loadAll' rfl rfl (.head rfl) rfl rfl ?_; rw [heq]
    refine WL.callNS' rfl rfl cf17 (head_EncodeI e.sname (cutS e.link 100) e.spre (cutS e.user 31) (cutS e.group 31) (tyB e.kind) e.mode _ _ _ _ (sname_fits e) (fitsb_cutS (by decide)) (fitsb_cutS (by decide)) (fitsb_cutS (by decide)) (spre_fits e) hmode (ofits_cutN (by decide)) (ofits_cutN (by decide)) (ofits_cutN (by decide)) (ofits_cutN (by decide)) (by omega) (cutN_le (by assumption)) (cutN_le (by assumption)) (cutN_le (by assumption)) (cutN_le (by assumption)) _ _) rfl rfl (fun Ax nx capx ox hox hnx hcapx => ?_)
    refine WL.pures rfl rfl rfl rfl rfl ?_
    refine WL.goes (fun _ _ => rfl) ?_
    have hox' : Own 5 1 (.slice Ax nx capx) (enc8 e.head) ox := hox
    have hnx' : nx = 512 := by
      obtain ⟨_, _, _, he, h1, _⟩ := hox'.form
      cases he
      rw [enc8_length, e.head_length] at h1
      omega
    have hn' : n ≤ 100000 := by
      obtain ⟨_, _, _, he, h1, _⟩ := hown.form
      cases he
      rw [enc8_length] at h1
      have : e.ahead.length ≤ 100000 := by
        unfold Ent.ahead
        split
        · simp
        · rename_i hne
          rw [paxAll_length]
          have hpad : padn (paxs e.recs).length < 512 := Nat.mod_lt _ (by omega)
          have : ¬ 8192 < (paxs e.recs).length := fun h => hnt ⟨hne, .inr h⟩
          omega
      omega
    (repeat refine WC.seq ?_); refine WC.region ?_
    refine WL.pures rfl rfl rfl rfl rfl ?_
    refine WL.goes (fun _ _ => rfl) ?_
    (repeat refine WC.seq ?_); refine WC.no rfl ?_
    refine WC.goes (fun _ _ => rfl) ?_
    (repeat refine WC.seq ?_); refine WC.region ?_
    refine WL.pures rfl rfl rfl rfl rfl ?_
    refine WL.append8' rfl rfl rfl rfl rfl rfl hown (.right (.tail .here)) (newsL rfl (enc8_one _) (hox'.rd _)) (by dsimp only; omega) (by dsimp only; omega) rfl rfl (fun A3 cap3 o3 h3 => ?_)
    refine WL.pures rfl rfl rfl rfl rfl ?_
    refine WL.goes (fun _ _ => rfl) ?_
    exact WC.doneS (fun _ _ => rfl) rfl (.takeL .here (.skipR (.skip (.refl _)))) (.inl ⟨hok, hnt, _, _, h3, rfl, rfl⟩)
end Go.Proofs.YtdapbkdfanlkkaaDoor
