/- The library's texts of numbers, and its builder of texts. -/
import Derived.Test.YtdapbkdfanlkkaaDoorWalkE
import Derived.Test.YtdapbkdfanlkkaaDoorShelf
import Derived.Test.YtdapbkdfanlkkaaDoorCoreK
set_option maxRecDepth 10000
set_option linter.unusedVariables false
set_option linter.unusedSimpArgs false
namespace Go.Proofs.YtdapbkdfanlkkaaDoor
open Go Go.Pan Go.RowKit

/-- The library's table of tens lies among the blocks. -/
def HasT (hs : Hs) : Prop := ∃ g x, Mem g x hs ∧ ∀ w : World, w.heap[g]? = some x → Lib.TabIs Tryd.prog w "internal/strconv.uint64pow10" .u64 Lib.pow10Tab
theorem HasT.cons {hs : Hs} (h : HasT hs) (p : Nat × Obj) : HasT (p :: hs) := by
  obtain ⟨g, x, h1, h2⟩ := h
  exact ⟨g, x, .tail h1, h2⟩
theorem HasT.right {hs : Hs} (h : HasT hs) (o : Hs) : HasT (o ++ hs) := by
  obtain ⟨g, x, h1, h2⟩ := h
  exact ⟨g, x, .right h1, h2⟩
/-- The text of a number. -/
def itoa (n : Int) : ByteArray := ⟨(Lib.itoa n).toArray⟩
theorem below_grow (B : Nat) (w : World) (hB : B ≤ w.heap.size) (k : Nat) (os : Array Obj) : Below B w (Sort.grow (w.drewN k) os) := by
  refine ⟨rfl, rfl, rfl, ?_, fun j hj => ?_⟩
  · show w.heap.size ≤ (w.heap ++ os).size
    rw [Array.size_append]; omega
  · show (w.heap ++ os)[j]? = w.heap[j]?
    rw [Array.getElem?_append, if_pos (by omega)]
theorem str_Itoa (n : Int) (h0 : -9223372036854775808 ≤ n) (h1 : n ≤ 9223372036854775807) (w0 : World) (hs : Hs) (ht : HasT hs) : CallsF Tryd.prog 30 [.int .i64 n] w0 hs (Same (.string (itoa n)) hs) := by
  obtain ⟨g, x, h2, h3⟩ := ht
  refine CallsF.below fun H k hf => (Tryd.strconv_Itoa n h0 h1 (wd w0 H k) (h3 _ (h2.at_ hf))).mono ?_
  rintro e w' ⟨rfl, k', os, rfl⟩
  exact ⟨rfl, below_grow H.size (wd w0 H k) (Nat.le_refl _) _ _⟩
theorem str_FormatInt (n : Int) (h0 : -9223372036854775808 ≤ n) (h1 : n ≤ 9223372036854775807) (w0 : World) (hs : Hs) (ht : HasT hs) : CallsF Tryd.prog 27 [.int .i64 n, .int .i64 10] w0 hs (Same (.string (itoa n)) hs) := by
  obtain ⟨g, x, h2, h3⟩ := ht
  refine CallsF.below fun H k hf => (Tryd.strconv_FormatInt_10 n h0 h1 (wd w0 H k) (h3 _ (h2.at_ hf))).mono ?_
  rintro e w' ⟨rfl, k', os, rfl⟩
  exact ⟨rfl, below_grow H.size (wd w0 H k) (Nat.le_refl _) _ _⟩
theorem str_ContainsAny (s c : ByteArray) (hs' : s.size < 4294967281) (hc : c.size < 4294967281) (h1 : (s.data.toList.all fun b => decide (b.toNat < 128)) = true) (h2 : (c.data.toList.all fun b => decide (b.toNat < 128)) = true) (w0 : World) (hs : Hs) :
    CallsF Tryd.prog 41 [.string s, .string c] w0 hs (Same (.bool (Lib.containsAny s.data.toList c.data.toList)) hs) := by
  have all : ∀ {l : List UInt8}, (l.all fun b => decide (b.toNat < 128)) = true → ∀ (j : Nat) b, l[j]? = some b → b.toNat < 128 := fun h j b hb => by
    have := List.all_eq_true.1 h b (List.mem_of_getElem? hb)
    simpa using this
  refine CallsF.below fun H k hf => (Tryd.strings_ContainsAny_laid s c (wd w0 H k) hs' hc (all h1) (all h2)).mono ?_
  rintro e w' ⟨rfl, hb⟩
  exact ⟨rfl, hb⟩

/-! ### strings.Builder -/
theorem run_noEscape (x : Value) (w : World) : (callFunc 52 #[x]).run Tryd.prog w = .ok (.value x) w := by
  rw [ex52, Lib.run_noEscape]
  rfl
theorem b_check (b : Nat) (p : Option Addr) (hp : p = none ∨ p = some ⟨b, 0, none⟩) (r : Value) (w0 : World) (hs : Hs) :
    CallsF Tryd.prog 42 [.pointer (some ⟨b, 0, none⟩)] w0 ((b, .cells #[.pointer p, r] 75 (0, 0)) :: hs) (Same (.tuple #[]) ((b, .cells #[.pointer (some ⟨b, 0, none⟩), r] 75 (0, 0)) :: hs)) := by
  refine CallsF.enter [(0, _)] rfl Tryd.func42 rfl rfl rfl rfl ?_
  rcases hp with rfl | rfl
  · (repeat refine WC.seq ?_); refine WC.region ?_
    refine WL.pures rfl rfl rfl rfl rfl ?_
    refine WL.load' rfl rfl (by (repeat (first | exact LdAt.head rfl | apply LdAt.tail | apply LdAt.right))) rfl rfl ?_
    refine WL.eqNilNil' rfl rfl rfl rfl rfl rfl ?_
    refine WL.goes (fun _ _ => rfl) ?_
    (repeat refine WC.seq ?_); refine WC.yes rfl ?_
    (repeat refine WC.seq ?_); refine WC.region ?_
    refine WL.pures rfl rfl rfl rfl rfl ?_
    refine WL.toUnsafe' rfl rfl (by kernel_rfl) rfl (by decide) .head (Nat.zero_lt_succ _) rfl rfl ?_
    refine WL.ext' rfl rfl (run_noEscape _) rfl rfl ?_
    refine WL.fromUnsafe' rfl (by kernel_rfl) rfl rfl .head (by kernel_rfl) rfl rfl ?_
    refine WL.pures rfl rfl rfl rfl rfl ?_
    refine WL.store' rfl rfl rfl rfl (List.all_eq_true.1 rfl) .head (Nat.succ_le_succ (Nat.zero_le _)) rfl rfl ?_
    exact WL.fin (fun _ _ => rfl) rfl ⟨rfl, rfl⟩
  · (repeat refine WC.seq ?_); refine WC.region ?_
    refine WL.pures rfl rfl rfl rfl rfl ?_
    refine WL.load' rfl rfl (by (repeat (first | exact LdAt.head rfl | apply LdAt.tail | apply LdAt.right))) rfl rfl ?_
    refine WL.eqPtrNil' rfl rfl rfl rfl rfl rfl ?_
    refine WL.goes (fun _ _ => rfl) ?_
    (repeat refine WC.seq ?_); refine WC.no rfl ?_
    (repeat refine WC.seq ?_); refine WC.region ?_
    refine WL.pures rfl rfl rfl rfl rfl ?_
    refine WL.load' rfl rfl (by (repeat (first | exact LdAt.head rfl | apply LdAt.tail | apply LdAt.right))) rfl rfl ?_
    refine WL.pures rfl rfl rfl rfl rfl ?_
    refine WL.neSame' rfl rfl rfl rfl rfl rfl ?_
    refine WL.goes (fun _ _ => rfl) ?_
    (repeat refine WC.seq ?_); refine WC.no rfl ?_
    exact WC.fin (fun _ _ => rfl) rfl ⟨rfl, rfl⟩
/-- A builder in block b that bears these bytes. -/
theorem b_Write (s : ByteArray) (b : Nat) (p : Option Addr) (hp : p = none ∨ p = some ⟨b, 0, none⟩) (A : Option Addr) (n cap : Nat) (l : List UInt8) (o : Hs) (hown : Own 5 1 (.slice A n cap) (enc8 l) o) (hlen : l.length + s.size ≤ 140737488355328) (w0 : World) (hs : Hs) :
    CallsF Tryd.prog 29 [.pointer (some ⟨b, 0, none⟩), .string s] w0 ((b, .cells #[.pointer p, .slice A n cap] 75 (0, 0)) :: (o ++ hs))
      (fun v hs' => v = .tuple #[.int .i64 s.size, .nilIface] ∧ ∃ A' n' cap' o', Own 5 1 (.slice A' n' cap') (enc8 (l ++ s.data.toList)) o' ∧ hs' = (b, .cells #[.pointer (some ⟨b, 0, none⟩), .slice A' n' cap'] 75 (0, 0)) :: (o' ++ hs)) := by
  refine CallsF.enter [(0, _), (1, _)] rfl Tryd.func29 rfl rfl rfl rfl ?_
  have hn : n = l.length := by
    obtain ⟨_, _, _, e, h1, _⟩ := hown.form
    cases e
    simpa [enc8_length] using h1
  subst hn
  (repeat refine WC.seq ?_); refine WC.region ?_
  refine WL.pures rfl rfl rfl rfl rfl ?_
  refine WL.goes (fun _ _ => rfl) ?_
  (repeat refine WC.seq ?_); refine WC.region ?_
  refine WL.pures rfl rfl rfl rfl rfl ?_
  refine WL.call' rfl rfl cf42 (b_check b p hp _ _ _) rfl rfl (fun v hs' hv => ?_); obtain ⟨rfl, rfl⟩ := hv
  refine WL.goes (fun _ _ => rfl) ?_
  (repeat refine WC.seq ?_); refine WC.region ?_
  refine WL.pures rfl rfl rfl rfl rfl ?_
  refine WL.load' rfl rfl (by (repeat (first | exact LdAt.head rfl | apply LdAt.tail | apply LdAt.right))) rfl rfl ?_
  refine WL.pures rfl rfl rfl rfl rfl ?_
  refine WL.append8' rfl rfl rfl rfl rfl rfl hown (.tail .here) (newsS rfl) (by omega) (by omega) rfl rfl (fun A' cap' o' h => ?_)
  refine WL.pures rfl rfl rfl rfl rfl ?_
  refine WL.store' rfl rfl rfl rfl (List.all_eq_true.1 rfl) (.right .head) (Nat.le_refl _) rfl rfl ?_
  refine WL.goes (fun _ _ => rfl) ?_
  (repeat refine WC.seq ?_); refine WC.region ?_
  refine WL.pures rfl rfl rfl rfl rfl ?_
  refine WL.lens' rfl rfl rfl rfl rfl rfl ?_
  refine WL.pures rfl rfl rfl rfl rfl ?_
  refine WL.goes (fun _ _ => rfl) ?_
  exact WC.doneS (fun _ _ => rfl) rfl (HDrop.takeL (o := [_]) (.right .one) (HDrop.refl _)) ⟨rfl, _, _, _, _, h, rfl⟩
theorem b_String (b : Nat) (p : Option Addr) (A : Option Addr) (n cap : Nat) (l : List UInt8) (o : Hs) (hown : Own 5 1 (.slice A n cap) (enc8 l) o) (h0 : l ≠ []) (hlen : l.length ≤ 140737488355328) (w0 : World) (hs : Hs) :
    CallsF Tryd.prog 32 [.pointer (some ⟨b, 0, none⟩)] w0 ((b, .cells #[.pointer p, .slice A n cap] 75 (0, 0)) :: (o ++ hs)) (Same (.string ⟨l.toArray⟩) hs) := by
  refine CallsF.enter [(0, _)] rfl Tryd.func32 rfl rfl rfl rfl ?_
  have hn : n = l.length := by
    obtain ⟨_, _, _, e, h1, _⟩ := hown.form
    cases e
    simpa [enc8_length] using h1
  subst hn
  obtain ⟨g, off, c, rfl, rfl, h2, h3, h4, h5⟩ := hown.some (List.length_pos_iff.2 h0)
  have hl0 := List.length_pos_iff.2 h0
  have hcap : cap ≠ 0 := by omega
  (repeat refine WC.seq ?_); refine WC.region ?_
  refine WL.pures rfl rfl rfl rfl rfl ?_
  refine WL.goes (fun _ _ => rfl) ?_
  (repeat refine WC.seq ?_)
  refine WC.any [(b, .cells #[.pointer p, .slice (some ⟨g, off, none⟩) l.length cap] 75 (0, 0))] mixed (HDrop.head _ _).sub ?_
  refine WA.pure 0 rfl rfl (by kernel_rfl) (fun _ _ _ _ h => h) rfl rfl rfl ?_
  refine WA.pure 1 rfl rfl (by kernel_rfl) (fun _ _ _ _ h => h) rfl rfl rfl ?_
  refine WA.pure 2 rfl rfl (by kernel_rfl) (fun _ _ _ _ h => h) rfl rfl rfl ?_
  refine WA.load 3 rfl rfl rfl rfl (by (repeat (first | exact LdAt.head rfl | apply LdAt.tail | apply LdAt.right))) (by kernel_rfl) (fun _ _ _ _ h => h) rfl rfl rfl ?_
  refine WA.sliceData 4 rfl rfl rfl rfl hcap (by kernel_rfl) (fun _ _ _ _ h => h) rfl rfl rfl ?_
  refine WA.pure 5 rfl rfl (by kernel_rfl) (fun _ _ _ _ h => h) rfl rfl rfl ?_
  refine WA.pure 6 rfl rfl (by kernel_rfl) (fun _ _ _ _ h => h) rfl rfl rfl ?_
  refine WA.pure 7 rfl rfl (by kernel_rfl) (fun _ _ _ _ h => h) rfl rfl rfl ?_
  refine WA.load 8 rfl rfl rfl rfl (by (repeat (first | exact LdAt.head rfl | apply LdAt.tail | apply LdAt.right))) (by kernel_rfl) (fun _ _ _ _ h => h) rfl rfl rfl ?_
  refine WA.lenl 9 rfl rfl rfl rfl rfl rfl (by kernel_rfl) (fun _ _ _ _ h => h) rfl rfl rfl ?_
  refine WA.only 10 rfl (by kernel_rfl) ?_
  refine WL.unsafeStr rfl rfl rfl rfl (by kernel_rfl) (by kernel_rfl) (.tail .one) h0 (by omega) (by omega) h5 rfl rfl rfl (WA.on (HDrop.head _ _).sub ?_)
  refine WA.only 11 rfl (by kernel_rfl) ?_
  refine WL.pures rfl rfl rfl rfl rfl (WA.on (HDrop.head _ _).sub ?_)
  refine WA.goes (by kernel_rfl) (fun _ _ => rfl) ?_
  exact WC.doneS (fun _ _ => rfl) rfl (.skip (.refl _)) ⟨rfl, rfl⟩
end Go.Proofs.YtdapbkdfanlkkaaDoor
