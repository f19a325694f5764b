/- How a list of records is written. -/
import Derived.Test.YtdapbkdfanlkkaaDoorWalkG
set_option maxRecDepth 10000
set_option linter.unusedVariables false
set_option linter.unusedSimpArgs false
namespace Go.Proofs.YtdapbkdfanlkkaaDoor
open Go Go.Pan Go.RowKit

/-- A record's line. -/
def pline (r : ByteArray × ByteArray) : ByteArray := ((((itoa (plen r : Nat) ++ ⟨#[32]⟩) ++ r.1) ++ ⟨#[61]⟩) ++ r.2) ++ ⟨#[10]⟩
def paxs (l : List (ByteArray × ByteArray)) : List UInt8 := (l.map fun r => (pline r).data.toList).flatten
theorem plen_le {r : ByteArray × ByteArray} (h1 : r.1.size ≤ 100000) (h2 : r.2.size ≤ 100000) : plen r ≤ 300000 := by
  have z1 := itoa_size ((r.1.size + r.2.size + 3 : Nat) : Int) (by omega) (by omega)
  unfold plen
  simp only
  split <;> omega
theorem paxs_take {l : List (ByteArray × ByteArray)} {i : Nat} (hi : i < l.length) : paxs (l.take (i + 1)) = paxs (l.take i) ++ (pline l[i]).data.toList := by
  unfold paxs
  rw [List.take_succ_eq_append_getElem hi, List.map_append, List.flatten_append]
  congr 1
  simp only [List.map_cons, List.map_nil, List.flatten_cons, List.flatten_nil, List.append_nil]
theorem paxs_cons (r : ByteArray × ByteArray) (l : List (ByteArray × ByteArray)) : (paxs (r :: l)).length = (pline r).size + (paxs l).length := by
  show ((pline r).data.toList ++ paxs l).length = _
  rw [List.length_append, Array.length_toList]; rfl
theorem pline_size {r : ByteArray × ByteArray} (h1 : r.1.size ≤ 100000) (h2 : r.2.size ≤ 100000) : (pline r).size ≤ 300000 ∧ 0 < (pline r).size := by
  have z1 := itoa_size (plen r : Nat) (by omega) (by have := plen_le h1 h2; omega)
  have e1 : (⟨#[32]⟩ : ByteArray).size = 1 := rfl
  have e2 : (⟨#[61]⟩ : ByteArray).size = 1 := rfl
  have e3 : (⟨#[10]⟩ : ByteArray).size = 1 := rfl
  simp only [pline, ByteArray.size_append, e1, e2, e3]
  omega
theorem paxs_len {l : List (ByteArray × ByteArray)} (h : ∀ r ∈ l, r.1.size ≤ 100000 ∧ r.2.size ≤ 100000) : (paxs l).length ≤ 300000 * l.length := by
  induction l with
  | nil => simp [paxs]
  | cons r l ih =>
    have h1 := ih (fun x hx => h x (by simp [hx]))
    obtain ⟨h2, h3⟩ := h r (by simp)
    have h4 := (pline_size h2 h3).1
    rw [paxs_cons, List.length_cons]; omega
/-- What is known of a builder in the middle. -/
structure BSt where
  i : Nat
  p : Option Addr
  A : Option Addr
  n : Nat
  cap : Nat
  o : Hs
set_option maxHeartbeats 1000000 in
theorem pax_Encode (l : List (ByteArray × ByteArray)) (v : Value) (w0 : World) (hs : Hs) (hrd : Rd hs 2 v (recC l)) (hn : 0 < l.length) (h64 : l.length ≤ 64) (hk : ∀ r ∈ l, kgood r.1 = true) (hv : ∀ r ∈ l, r.2.size ≤ 100000) (ht : HasT hs) :
    CallsF Tryd.prog 16 [v] w0 hs (if l.all rshort then NewR (fun r => .tuple #[r, .int .i64 0]) 5 (enc8 (paxs l)) hs else Same (.tuple #[.slice none 0 0, .int .i64 2]) hs) := by
  have hks : ∀ r ∈ l, r.1.size ≤ 64 := fun r hr => by
    have := hk r hr
    simp only [kgood, Bool.and_eq_true, decide_eq_true_eq] at this
    exact this.2.1
  obtain ⟨rb, roff, rcap, rfl, _⟩ := hrd.rec2 hn
  refine CallsF.enter [(0, _)] rfl Tryd.func16 rfl rfl rfl rfl ?_
  (repeat refine WC.seq ?_); refine WC.region ?_
  refine WL.pures rfl rfl rfl rfl rfl ?_
  refine WL.goes (fun _ _ => rfl) ?_
  (repeat refine WC.seq ?_); refine WC.region ?_
  refine WL.pures rfl rfl rfl rfl rfl ?_
  refine WL.lenl' rfl rfl rfl rfl rfl rfl ?_
  refine WL.pures rfl rfl rfl rfl rfl ?_
  refine WL.goes (fun _ _ => rfl) ?_
  (repeat refine WC.seq ?_); refine WC.ite rfl (fun c => ?_) (fun c => ?_)
  · exfalso; omega
  refine WC.goes (fun _ _ => rfl) ?_
  (repeat refine WC.seq ?_); refine WC.region ?_
  refine WL.alloc' rfl rfl rfl (fun bb => ?_)
  refine WL.goes (fun _ _ => rfl) ?_
  (repeat refine WC.seq ?_); refine WC.region ?_
  refine WL.pures rfl rfl rfl rfl rfl ?_
  refine WL.lenl' rfl rfl rfl rfl rfl rfl ?_
  refine WL.pures rfl rfl rfl rfl rfl ?_
  refine WL.goes (fun _ _ => rfl) ?_
  (repeat refine WC.seq ?_); refine WC.block ?_
  refine WC.loopS (σ := BSt) (fun s => [(4, .pointer (some ⟨bb, 0, none⟩)), (11, .slice (some ⟨rb, roff, none⟩) l.length rcap), (12, .int .i64 l.length), (13, .int .i64 s.i)])
    (fun s => (bb, .cells #[.pointer s.p, .slice s.A s.n s.cap] 75 (0, 0)) :: (s.o ++ hs))
    (fun s => s.i ≤ l.length ∧ (s.p = none ∨ s.p = some ⟨bb, 0, none⟩) ∧ Own 5 1 (.slice s.A s.n s.cap) (enc8 (paxs (l.take s.i))) s.o ∧ (l.take s.i).all rshort = true)
    (fun s => l.length - s.i) ⟨0, none, none, 0, 0, []⟩ ⟨rfl, rfl, rfl, rfl, trivial⟩ (.refl _) ⟨Nat.zero_le _, .inl rfl, Own.nil _ _, rfl⟩ ?_
  rintro ⟨i, p, A, n, cap, o⟩ ⟨hi, hp, hown, hall⟩
  simp only at hi hp hown hall
  (repeat refine WC.seq ?_); refine WC.region ?_
  refine WL.pures rfl rfl rfl rfl rfl ?_
  refine WL.goes (fun _ _ => rfl) ?_
  (repeat refine WC.seq ?_); refine WC.ite rfl (fun c => ?_) (fun c => ?_)
  · have c' : (i : Int) < l.length := c
    have hil : i < l.length := by omega
    have hmem : l[i] ∈ l := List.getElem_mem hil
    obtain ⟨_, _, _, he, hld⟩ := hrd.rec2 hil
    cases he
    have hkl := hk _ hmem
    have hk1 := hks _ hmem
    have hv1 := hv _ hmem
    have hpl := plen_le (r := l[i]) (by omega) hv1
    have hz := itoa_size (plen l[i] : Nat) (by omega) (by omega)
    have htake := paxs_take hil
    have hps := pline_size (r := l[i]) (by omega) hv1
    have hall' : (l.take (i + 1)).all rshort = ((l.take i).all rshort && rshort l[i]) := by
      rw [List.take_succ_eq_append_getElem hil, List.all_append]
      simp only [List.all_cons, List.all_nil, Bool.and_true]
    have hlen : (paxs (l.take i)).length ≤ 300000 * 64 := by
      have h1 := paxs_len (l := l.take i) (fun r hr => ⟨by have := hks r (List.mem_of_mem_take hr); omega, hv r (List.mem_of_mem_take hr)⟩)
      have h2 : (l.take i).length ≤ 64 := by simp; omega
      omega
    have hlong : rshort l[i] = false → l.all rshort = false := fun h => by
      rw [List.all_eq_false]
      exact ⟨_, hmem, by simp [h]⟩
    have hline : pline l[i] = ((((itoa (plen l[i] : Nat) ++ ⟨#[32]⟩) ++ l[i].1) ++ ⟨#[61]⟩) ++ l[i].2) ++ ⟨#[10]⟩ := rfl
    generalize l[i] = r at *
    obtain ⟨k, v⟩ := r
    simp only at *
    have e1 : (⟨#[32]⟩ : ByteArray).size = 1 := rfl
    have e2 : (⟨#[61]⟩ : ByteArray).size = 1 := rfl
    have e3 : (⟨#[10]⟩ : ByteArray).size = 1 := rfl
    refine WC.goes (fun _ _ => rfl) ?_
    (repeat refine WC.seq ?_); refine WC.block ?_
    (repeat refine WC.seq ?_); refine WC.region ?_
    refine WL.indexAddr' rfl rfl rfl (by omega) (by omega) rfl rfl ?_; rw [Int.toNat_natCast]
    refine WL.load' rfl rfl (.tail (.right hld)) rfl rfl ?_
    refine WL.alloc' rfl rfl rfl (fun b6 => ?_)
    refine WL.store' rfl rfl rfl rfl (List.all_eq_true.1 (by kernel_rfl)) (by (repeat (first | exact Upd.head | apply Upd.tail | apply Upd.right))) (by first | decide | exact Nat.le_of_ble_eq_true rfl) rfl rfl ?_
    refine WL.goes (fun _ _ => rfl) ?_
    (repeat refine WC.seq ?_); refine WC.region ?_
    refine WL.load' (v := .agg #[.string k, .string v]) rfl rfl (.head rfl) rfl rfl ?_
    refine WL.callS' rfl rfl cf28 (pax_Check k v hkl hv1 _ _) rfl rfl ?_
    refine WL.pures rfl rfl rfl rfl rfl ?_
    refine WL.goes (fun _ _ => rfl) ?_
    cases hsh : rshort (k, v) with
    | false =>
      rw [hlong hsh]
      (repeat refine WC.seq ?_); refine WC.region ?_
      refine WL.pures rfl rfl rfl rfl rfl ?_
      refine WL.goes (fun _ _ => rfl) ?_
      (repeat refine WC.seq ?_); refine WC.yes rfl ?_
      (repeat refine WC.seq ?_); refine WC.region ?_
      refine WL.pures rfl rfl rfl rfl rfl ?_
      refine WL.goes (fun _ _ => rfl) ?_
      exact WC.doneS (fun _ _ => rfl) rfl (.skip (.skip (.skipR (.refl _)))) ⟨rfl, rfl⟩
    | true =>
      (repeat refine WC.seq ?_); refine WC.region ?_
      refine WL.pures rfl rfl rfl rfl rfl ?_
      refine WL.goes (fun _ _ => rfl) ?_
      (repeat refine WC.seq ?_); refine WC.no rfl ?_
      refine WC.goes (fun _ _ => rfl) ?_
      (repeat refine WC.seq ?_)
      refine WC.any [_] mixed (HDrop.head _ _).sub ?_
      refine WA.load 0 (v := .agg #[.string k, .string v]) rfl rfl rfl rfl (.head rfl) (by kernel_rfl) (fun _ _ _ _ h => h) rfl rfl rfl ?_
      refine WA.pure 4 rfl rfl (by kernel_rfl) (fun _ _ _ _ h => h) rfl rfl rfl ?_
      refine WA.load 5 (v := .string k) rfl rfl rfl rfl (.head rfl) (by kernel_rfl) (fun _ _ _ _ h => h) rfl rfl rfl ?_
      refine WA.pure 8 rfl rfl (by kernel_rfl) (fun _ _ _ _ h => h) rfl rfl rfl ?_
      refine WA.load 9 (v := .string v) rfl rfl rfl rfl (.head rfl) (by kernel_rfl) (fun _ _ _ _ h => h) rfl rfl rfl ?_
      refine WA.only 1 rfl (by kernel_rfl) ?_
      refine WL.callS' rfl rfl cf31 (pax_length k v (by omega) hv1 _ _ ((ht.right _).cons _ |>.cons _)) rfl rfl (WA.on (HDrop.head _ _).sub ?_)
      refine WA.only 2 rfl (by kernel_rfl) ?_
      refine WL.callS' rfl rfl cf30 (str_Itoa _ (by omega) (by omega) _ _ ((ht.right _).cons _ |>.cons _)) rfl rfl (WA.on (HDrop.head _ _).sub ?_)
      refine WA.cat 3 rfl rfl rfl rfl (by omega) (by kernel_rfl) (fun _ _ _ _ h => h) rfl rfl rfl ?_
      refine WA.cat 6 rfl rfl rfl rfl (by simp only [ByteArray.size_append]; omega) (by kernel_rfl) (fun _ _ _ _ h => h) rfl rfl rfl ?_
      refine WA.cat 7 rfl rfl rfl rfl (by simp only [ByteArray.size_append]; omega) (by kernel_rfl) (fun _ _ _ _ h => h) rfl rfl rfl ?_
      refine WA.cat 10 rfl rfl rfl rfl (by simp only [ByteArray.size_append]; omega) (by kernel_rfl) (fun _ _ _ _ h => h) rfl rfl rfl ?_
      refine WA.cat 11 rfl rfl rfl rfl (by simp only [ByteArray.size_append]; omega) (by kernel_rfl) (fun _ _ _ _ h => h) rfl rfl rfl ?_
      rw [← hline]
      refine WA.only 12 rfl (by kernel_rfl) ?_
      refine WL.call' rfl rfl cf29 ((b_Write (pline (k, v)) bb p hp A n cap _ o hown (by omega) _ ((_, _) :: hs)).hsub (HDrop.sub (.take (.tail .one) (.takeL (.tail .here) (.refl _))))) rfl rfl (fun v' hs' hv' => ?_)
      obtain ⟨rfl, A', n', cap', o', hown', rfl⟩ := hv'
      refine WA.on (HDrop.sub (.skip (.skipR (.head _ _)))) ?_
      refine WA.goes (by kernel_rfl) (fun _ _ => rfl) ?_
      (repeat refine WC.seq ?_); refine WC.region ?_
      refine WL.arith' rfl rfl (binV_i64 rfl (by omega)) rfl rfl ?_
      refine WL.pures rfl rfl rfl rfl rfl ?_
      refine WL.again ⟨i + 1, _, A', n', cap', o'⟩ (fun _ _ => rfl) ⟨rfl, rfl, rfl, rfl, trivial⟩ (HDrop.sub (.take .one (.takeL .here (.skip (.refl _))))) ⟨(show i + 1 ≤ l.length from hil), .inr rfl, by rw [htake]; exact hown', by rw [hall', hall, hsh]; rfl⟩ (by simp only; omega)
  · have c' : ¬ (i : Int) < l.length := c
    have hil : i = l.length := by omega
    subst hil
    rw [List.take_length] at hown hall
    rw [hall]
    have hne : paxs l ≠ [] := by
      cases l with
      | nil => simp at hn
      | cons r l =>
        have := (pline_size (r := r) (by have := hks r (by simp); omega) (hv r (by simp))).2
        intro h
        have h2 := paxs_cons r l
        rw [h] at h2
        simp only [List.length_nil] at h2
        omega
    have hlen : (paxs l).length ≤ 300000 * 64 := by
      have h1 := paxs_len (l := l) (fun r hr => ⟨by have := hks r hr; omega, hv r hr⟩)
      omega
    refine WC.exits (fun _ _ => rfl) ?_
    (repeat refine WC.seq ?_); refine WC.region ?_
    refine WL.call' rfl rfl cf32 (b_String bb p A n cap _ o hown hne (by omega) _ hs) rfl rfl (fun v' hs' hv' => ?_); obtain ⟨rfl, rfl⟩ := hv'
    refine WL.bytes' rfl rfl rfl rfl rfl rfl (fun b5 cap5 c5 fr5 hcap5 hrd5 => ?_)
    refine WL.pures rfl rfl rfl rfl rfl ?_
    refine WL.goes (fun _ _ => rfl) ?_
    exact WC.done (fun _ _ => rfl) rfl ⟨_, _, _, _, _, rfl, hrd5, rfl⟩
end Go.Proofs.YtdapbkdfanlkkaaDoor
