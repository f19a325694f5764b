/- The sums of headers, and their seal. -/
import Derived.Test.YtdapbkdfanlkkaaDoorWalkB
set_option maxRecDepth 10000
set_option linter.unusedVariables false
set_option linter.unusedSimpArgs false
namespace Go.Proofs.YtdapbkdfanlkkaaDoor
open Go Go.Pan

theorem Rd.at8 {hs : Hs} {v : Value} {l : List UInt8} (h : Rd hs 1 v (enc8 l)) {i : Nat} (hi : i < l.length) : ∃ b off cap, v = .slice (some ⟨b, off, none⟩) l.length cap ∧ LdAt b (off + i * 1) false 1 (.int .u8 l[i].toNat) hs := by
  obtain ⟨A, n, cap, h1, h2, h3, h4⟩ := h
  rw [enc8_length] at h2 h4
  obtain ⟨b, off, c, T, fr, h5, h6, h7⟩ := h4 (by omega)
  refine ⟨b, off, cap, by rw [h1, h5, ← h2, Nat.mul_one], .mem h6 ?_⟩
  have := h7 i hi
  rw [enc8_get hi] at this
  simp [ldv, this]
theorem sum_Plain1 (x : Int) (h0 : 0 ≤ x) (h1 : x < 256) (w0 : World) (hs : Hs) : CallsF Tryd.prog 54 [.int .u8 x] w0 hs (Same (.int .i64 x) hs) := by
  refine CallsF.enter [(0, _)] rfl Tryd.func54 rfl rfl rfl rfl ?_
  repeat' (first
    | (show WL _ _ _ _ _ (_ :: _) _ _; first
      | refine WL.conv' rfl rfl rfl (IntWalk.i64_in _ (by omega)) rfl rfl ?_
      | refine WL.pures rfl rfl rfl rfl rfl ?_
      | refine WL.pure rfl rfl rfl rfl ?_
      | refine WL.loadAll' rfl rfl (by (repeat (first | exact AllAt.head rfl | apply AllAt.tail | apply AllAt.right))) rfl rfl ?_
      | refine WL.load' rfl rfl (by (repeat (first | exact LdAt.head rfl | apply LdAt.tail | apply LdAt.right))) rfl rfl ?_
      | refine WL.pass rfl rfl ?_
      | refine WL.arith' rfl rfl (binV_i64 rfl (by omega)) rfl rfl ?_
      | refine WL.lens' rfl rfl rfl rfl rfl rfl ?_
      | refine WL.lenl' rfl rfl rfl rfl rfl rfl ?_
      | (refine WL.splitP rfl rfl rfl (fun _ => ?_) (fun _ => ?_) <;> (try (exfalso; omega)))
      | refine WL.box' rfl rfl rfl (fun _ => ?_)
      | refine WL.alloc' rfl rfl rfl (fun _ => ?_)
      | refine WL.store' rfl rfl rfl rfl (List.all_eq_true.1 (by kernel_rfl)) (by (repeat (first | exact Upd.head | apply Upd.tail | apply Upd.right))) (by decide) rfl rfl ?_
      | refine WL.buildA' rfl rfl rfl rfl (by kernel_rfl) rfl rfl ?_
      | refine WL.litA' rfl rfl rfl rfl rfl (by kernel_rfl) rfl rfl (fun _ => ?_)
      | refine WL.build' rfl rfl rfl rfl rfl rfl ?_)
    | (show WL _ _ _ _ _ [] _ _; first
      | refine WL.done ?_
      | refine WL.goes (fun _ _ => rfl) ?_)
    | (show WC _ _ _ _ _ _ _; first
      | exact WC.done (fun _ _ => rfl) rfl ⟨rfl, rfl⟩
      | refine WC.seq (WC.region ?_)
      | refine WC.seq ?_
      | refine WC.region ?_
      | refine WC.block ?_
      | refine WC.yes rfl ?_
      | refine WC.no rfl ?_
      | (refine WC.ite rfl (fun _ => ?_) (fun _ => ?_) <;> (try (exfalso; omega)))
      | refine WC.goes (fun _ _ => rfl) ?_
      | refine WC.exits (fun _ _ => rfl) ?_))
theorem sum_each (l : List UInt8) (v : Value) (hl : l.length ≤ 1000000000) (w0 : World) (hs : Hs) (h : Rd hs 1 v (enc8 l)) : CallsF Tryd.prog 53 [v, .func (.func 54) #[] #[]] w0 hs (Same (.int .i64 (sum8 0 l)) hs) := by
  obtain ⟨A, n, cap, rfl, hn, hcap⟩ := h.form
  rw [enc8_length, Nat.mul_one] at hn
  refine CallsF.enter [(0, _), (1, _)] rfl Tryd.func53 rfl rfl rfl rfl ?_
  repeat' (first
    | (show WL _ _ _ _ _ (_ :: _) _ _; first
      | refine WL.pures rfl rfl rfl rfl rfl ?_
      | refine WL.pure rfl rfl rfl rfl ?_
      | refine WL.loadAll' rfl rfl (by (repeat (first | exact AllAt.head rfl | apply AllAt.tail | apply AllAt.right))) rfl rfl ?_
      | refine WL.load' rfl rfl (by (repeat (first | exact LdAt.head rfl | apply LdAt.tail | apply LdAt.right))) rfl rfl ?_
      | refine WL.pass rfl rfl ?_
      | refine WL.arith' rfl rfl (binV_i64 rfl (by omega)) rfl rfl ?_
      | refine WL.lens' rfl rfl rfl rfl rfl rfl ?_
      | refine WL.lenl' rfl rfl rfl rfl rfl rfl ?_
      | (refine WL.splitP rfl rfl rfl (fun _ => ?_) (fun _ => ?_) <;> (try (exfalso; omega)))
      | refine WL.box' rfl rfl rfl (fun _ => ?_)
      | refine WL.alloc' rfl rfl rfl (fun _ => ?_)
      | refine WL.store' rfl rfl rfl rfl (List.all_eq_true.1 (by kernel_rfl)) (by (repeat (first | exact Upd.head | apply Upd.tail | apply Upd.right))) (by decide) rfl rfl ?_
      | refine WL.buildA' rfl rfl rfl rfl (by kernel_rfl) rfl rfl ?_
      | refine WL.litA' rfl rfl rfl rfl rfl (by kernel_rfl) rfl rfl (fun _ => ?_)
      | refine WL.build' rfl rfl rfl rfl rfl rfl ?_)
    | (show WL _ _ _ _ _ [] _ _; first
      | refine WL.done ?_
      | refine WL.goes (fun _ _ => rfl) ?_)
    | (show WC _ _ _ _ _ _ _; first
      | refine WC.loopS (σ := Nat) (fun i => [(1, .func (.func 54) #[] #[]), (5, .int .i64 (sum8 0 (l.take i))), (8, .slice A n cap), (9, .int .i64 n), (10, .int .i64 i)]) (fun _ => hs) (fun i => i ≤ n) (fun i => n - i) 0 ⟨rfl, rfl, rfl, rfl, rfl, trivial⟩ (.refl _) (Nat.zero_le _) ?_
      | refine WC.seq (WC.region ?_)
      | refine WC.seq ?_
      | refine WC.region ?_
      | refine WC.block ?_
      | refine WC.yes rfl ?_
      | refine WC.no rfl ?_
      | (refine WC.ite rfl (fun _ => ?_) (fun _ => ?_) <;> (try (exfalso; omega)))
      | refine WC.goes (fun _ _ => rfl) ?_
      | refine WC.exits (fun _ _ => rfl) ?_))
  intro i hi
  by_cases hlt : i < n
  · have e1 := sum8_take (l := l) (i := i) (by omega)
    have e2 := sum8_le 0 (l.take i)
    have e3 : (l.take i).length = i := by simp; omega
    have e4 := (l[i]'(by omega)).toNat_lt
    obtain ⟨b, off, cap', hv, hld⟩ := Rd.at8 h (i := i) (by omega)
    cases hv
    repeat' (first
      | (show WL _ _ _ _ _ (_ :: _) _ _; first
        | refine WL.pures rfl rfl rfl rfl rfl ?_
        | refine WL.pure rfl rfl rfl rfl ?_
        | refine WL.loadAll' rfl rfl (by (repeat (first | exact AllAt.head rfl | apply AllAt.tail | apply AllAt.right))) rfl rfl ?_
        | refine WL.load' rfl rfl (by (repeat (first | exact LdAt.head rfl | apply LdAt.tail | apply LdAt.right))) rfl rfl ?_
        | refine WL.pass rfl rfl ?_
        | refine WL.arith' rfl rfl (binV_i64 rfl (by omega)) rfl rfl ?_
        | refine WL.lens' rfl rfl rfl rfl rfl rfl ?_
        | refine WL.lenl' rfl rfl rfl rfl rfl rfl ?_
        | (refine WL.splitP rfl rfl rfl (fun _ => ?_) (fun _ => ?_) <;> (try (exfalso; omega)))
        | refine WL.box' rfl rfl rfl (fun _ => ?_)
        | refine WL.alloc' rfl rfl rfl (fun _ => ?_)
        | refine WL.store' rfl rfl rfl rfl (List.all_eq_true.1 (by kernel_rfl)) (by (repeat (first | exact Upd.head | apply Upd.tail | apply Upd.right))) (by decide) rfl rfl ?_
        | refine WL.buildA' rfl rfl rfl rfl (by kernel_rfl) rfl rfl ?_
        | refine WL.litA' rfl rfl rfl rfl rfl (by kernel_rfl) rfl rfl (fun _ => ?_)
        | refine WL.build' rfl rfl rfl rfl rfl rfl ?_
        | refine WL.indexAddr' rfl rfl rfl (by omega) (by omega) rfl rfl ?_
        | refine WL.load' rfl rfl hld rfl rfl ?_
        | refine WL.callvS' rfl rfl rfl cf54 (sum_Plain1 _ (by omega) (by omega) _ _) rfl rfl ?_)
      | (show WL _ _ _ _ _ [] _ _; first
        | (refine WL.again (i + 1) (fun _ _ => rfl) ⟨rfl, ?_, rfl, rfl, rfl, trivial⟩ (.refl _) (by omega) (by omega))
        | refine WL.done ?_
        | refine WL.goes (fun _ _ => rfl) ?_)
      | (show WC _ _ _ _ _ _ _; first
        | refine WC.seq (WC.region ?_)
        | refine WC.seq ?_
        | refine WC.region ?_
        | refine WC.block ?_
        | refine WC.yes rfl ?_
        | refine WC.no rfl ?_
        | (refine WC.ite rfl (fun _ => ?_) (fun _ => ?_) <;> (try (exfalso; omega)))
        | refine WC.goes (fun _ _ => rfl) ?_
        | refine WC.exits (fun _ _ => rfl) ?_))
    · rw [e1, if_pos (by omega)]; rfl
    · rw [e1, if_neg (by omega)]; rfl
    · rw [e1, if_neg (by omega)]; rfl
  · obtain rfl : i = n := by omega
    repeat' (first
      | (show WL _ _ _ _ _ (_ :: _) _ _; first
        | refine WL.pures rfl rfl rfl rfl rfl ?_
        | refine WL.pure rfl rfl rfl rfl ?_
        | refine WL.loadAll' rfl rfl (by (repeat (first | exact AllAt.head rfl | apply AllAt.tail | apply AllAt.right))) rfl rfl ?_
        | refine WL.load' rfl rfl (by (repeat (first | exact LdAt.head rfl | apply LdAt.tail | apply LdAt.right))) rfl rfl ?_
        | refine WL.pass rfl rfl ?_
        | refine WL.arith' rfl rfl (binV_i64 rfl (by omega)) rfl rfl ?_
        | refine WL.lens' rfl rfl rfl rfl rfl rfl ?_
        | refine WL.lenl' rfl rfl rfl rfl rfl rfl ?_
        | (refine WL.splitP rfl rfl rfl (fun _ => ?_) (fun _ => ?_) <;> (try (exfalso; omega)))
        | refine WL.box' rfl rfl rfl (fun _ => ?_)
        | refine WL.alloc' rfl rfl rfl (fun _ => ?_)
        | refine WL.store' rfl rfl rfl rfl (List.all_eq_true.1 (by kernel_rfl)) (by (repeat (first | exact Upd.head | apply Upd.tail | apply Upd.right))) (by decide) rfl rfl ?_
        | refine WL.buildA' rfl rfl rfl rfl (by kernel_rfl) rfl rfl ?_
        | refine WL.litA' rfl rfl rfl rfl rfl (by kernel_rfl) rfl rfl (fun _ => ?_)
        | refine WL.build' rfl rfl rfl rfl rfl rfl ?_)
      | (show WL _ _ _ _ _ [] _ _; first
        | refine WL.done ?_
        | refine WL.goes (fun _ _ => rfl) ?_)
      | (show WC _ _ _ _ _ _ _; first
        | refine WC.done (fun _ _ => rfl) rfl ⟨?_, rfl⟩
        | refine WC.seq (WC.region ?_)
        | refine WC.seq ?_
        | refine WC.region ?_
        | refine WC.block ?_
        | refine WC.yes rfl ?_
        | refine WC.no rfl ?_
        | (refine WC.ite rfl (fun _ => ?_) (fun _ => ?_) <;> (try (exfalso; omega)))
        | refine WC.goes (fun _ _ => rfl) ?_
        | refine WC.exits (fun _ _ => rfl) ?_))
    rw [hn, List.take_length]; rfl
theorem sum_Plain (l : List UInt8) (v : Value) (hl : l.length ≤ 1000000000) (w0 : World) (hs : Hs) (h : Rd hs 1 v (enc8 l)) : CallsF Tryd.prog 44 [v] w0 hs (Same (.int .i64 (sum8 0 l)) hs) := by
  refine CallsF.enter [(0, _)] rfl Tryd.func44 rfl rfl rfl rfl ?_
  repeat' (first
    | (show WL _ _ _ _ _ (_ :: _) _ _; first
      | refine WL.pures rfl rfl rfl rfl rfl ?_
      | refine WL.pure rfl rfl rfl rfl ?_
      | refine WL.loadAll' rfl rfl (by (repeat (first | exact AllAt.head rfl | apply AllAt.tail | apply AllAt.right))) rfl rfl ?_
      | refine WL.load' rfl rfl (by (repeat (first | exact LdAt.head rfl | apply LdAt.tail | apply LdAt.right))) rfl rfl ?_
      | refine WL.pass rfl rfl ?_
      | refine WL.arith' rfl rfl (binV_i64 rfl (by omega)) rfl rfl ?_
      | refine WL.lens' rfl rfl rfl rfl rfl rfl ?_
      | refine WL.lenl' rfl rfl rfl rfl rfl rfl ?_
      | (refine WL.splitP rfl rfl rfl (fun _ => ?_) (fun _ => ?_) <;> (try (exfalso; omega)))
      | refine WL.box' rfl rfl rfl (fun _ => ?_)
      | refine WL.alloc' rfl rfl rfl (fun _ => ?_)
      | refine WL.store' rfl rfl rfl rfl (List.all_eq_true.1 (by kernel_rfl)) (by (repeat (first | exact Upd.head | apply Upd.tail | apply Upd.right))) (by decide) rfl rfl ?_
      | refine WL.buildA' rfl rfl rfl rfl (by kernel_rfl) rfl rfl ?_
      | refine WL.litA' rfl rfl rfl rfl rfl (by kernel_rfl) rfl rfl (fun _ => ?_)
      | refine WL.build' rfl rfl rfl rfl rfl rfl ?_
      | refine WL.callS' rfl rfl cf53 (sum_each l v hl _ _ h) rfl rfl ?_)
    | (show WL _ _ _ _ _ [] _ _; first
      | refine WL.done ?_
      | refine WL.goes (fun _ _ => rfl) ?_)
    | (show WC _ _ _ _ _ _ _; first
      | refine WC.seq (WC.region ?_)
      | refine WC.seq ?_
      | refine WC.region ?_
      | refine WC.block ?_
      | refine WC.yes rfl ?_
      | refine WC.no rfl ?_
      | (refine WC.ite rfl (fun _ => ?_) (fun _ => ?_) <;> (try (exfalso; omega)))
      | refine WC.goes (fun _ _ => rfl) ?_
      | refine WC.exits (fun _ _ => rfl) ?_
      | exact WC.done (fun _ _ => rfl) rfl ⟨rfl, rfl⟩))
theorem sum_fits {n : Nat} (h : n ≤ 255 * 512) : ofits n (7 : Nat) = true := by
  have := odig_lt (n := n) (k := 6) (by omega) (by omega)
  simp only [ofits, Int.toNat_natCast, Bool.and_eq_true, decide_eq_true_eq]
  omega
theorem sum_Seal (l : List UInt8) (v : Value) (hl : l.length = 512) (w0 : World) (hs : Hs) (h : Rd hs 1 v (enc8 l)) : CallsF Tryd.prog 34 [v] w0 hs (NewS (fun r => .tuple #[r, .int .i64 0]) 5 1 (enc8 (seal8 l)) hs) := by
  obtain ⟨A, n, cap, rfl, hn, hcap⟩ := h.form
  rw [enc8_length, Nat.mul_one] at hn
  have hs1 := sum8_le 0 l
  have hfit := sum_fits (n := sum8 0 l) (by omega)
  refine CallsF.enter [(0, _)] rfl Tryd.func34 rfl rfl rfl rfl ?_
  repeat' (first
    | (show WL _ _ _ _ _ (_ :: _) _ _; first
      | refine WL.pures rfl rfl rfl rfl rfl ?_
      | refine WL.pure rfl rfl rfl rfl ?_
      | refine WL.loadAll' rfl rfl (by (repeat (first | exact AllAt.head rfl | apply AllAt.tail | apply AllAt.right))) rfl rfl ?_
      | refine WL.load' rfl rfl (by (repeat (first | exact LdAt.head rfl | apply LdAt.tail | apply LdAt.right))) rfl rfl ?_
      | refine WL.pass rfl rfl ?_
      | refine WL.arith' rfl rfl (binV_i64 rfl (by omega)) rfl rfl ?_
      | refine WL.lens' rfl rfl rfl rfl rfl rfl ?_
      | refine WL.lenl' rfl rfl rfl rfl rfl rfl ?_
      | (refine WL.splitP rfl rfl rfl (fun _ => ?_) (fun _ => ?_) <;> (try (exfalso; omega)))
      | refine WL.box' rfl rfl rfl (fun _ => ?_)
      | refine WL.alloc' rfl rfl rfl (fun _ => ?_)
      | refine WL.store' rfl rfl rfl rfl (List.all_eq_true.1 (by kernel_rfl)) (by (repeat (first | exact Upd.head | apply Upd.tail | apply Upd.right))) (by decide) rfl rfl ?_
      | refine WL.buildA' rfl rfl rfl rfl (by kernel_rfl) rfl rfl ?_
      | refine WL.litA' rfl rfl rfl rfl rfl (by kernel_rfl) rfl rfl (fun _ => ?_)
      | refine WL.build' rfl rfl rfl rfl rfl rfl ?_
      | refine WL.lit0' rfl rfl rfl (fun b0 => ?_)
      | refine WL.append8' rfl rfl rfl rfl rfl rfl (l := []) (own_empty _ _ _) (by (repeat (first | exact TakeL.here | exact TakeL.one | apply TakeL.tail | apply TakeL.right))) (newsL rfl (enc8_one l) (h.cons _)) (by omega) (by omega) rfl rfl (fun A1 c1 o1 ho1 => ?_)
      | refine WL.callS' rfl rfl cf44 (sum_Plain l _ (by omega) _ _ (h.app _)) rfl rfl ?_
      | refine WL.callN' rfl rfl cf33 (octal_Format (sum8 0 l) 7 (by omega) (by omega) (by omega) hfit _ _) rfl rfl (fun b2 => ?_))
    | (show WL _ _ _ _ _ [] _ _; first
      | refine WL.done ?_
      | refine WL.goes (fun _ _ => rfl) ?_)
    | (show WC _ _ _ _ _ _ _; first
      | refine WC.seq (WC.region ?_)
      | refine WC.seq ?_
      | refine WC.region ?_
      | refine WC.block ?_
      | refine WC.yes rfl ?_
      | refine WC.no rfl ?_
      | (refine WC.ite rfl (fun _ => ?_) (fun _ => ?_) <;> (try (exfalso; omega)))
      | refine WC.goes (fun _ _ => rfl) ?_
      | refine WC.exits (fun _ _ => rfl) ?_))
  obtain ⟨b1, off, c, hA, ho, hln, hnc, hcc, hcs⟩ := ho1.some (by omega)
  subst hA; subst ho
  refine WC.any [] mixed (HDrop.nil _).sub ?_
  refine WA.pure 0 rfl rfl (by kernel_rfl) (fun _ _ _ _ h => h) rfl rfl rfl ?_
  refine WA.slice 1 rfl rfl rfl rfl rfl rfl (by omega) (by omega) (by omega) (by omega) (by kernel_rfl) (fun _ _ _ _ h => h) rfl rfl rfl ?_
  refine WA.pure 2 rfl rfl (by kernel_rfl) (fun _ _ _ _ h => h) rfl rfl rfl ?_
  refine WA.only 3 rfl (by kernel_rfl) ?_
  refine WL.litL' rfl rfl rfl rfl rfl rfl rfl (fun b3 => WA.on (HDrop.nil _).sub ?_)
  refine WA.only 4 rfl (by kernel_rfl) ?_
  refine WL.append8' rfl rfl rfl rfl rfl rfl (own8_whole (l := ofmt (sum8 0 l) 6 ++ [0]) (by simp [ofmt_length]) rfl) (by (repeat (first | exact TakeL.here | exact TakeL.one | apply TakeL.tail | apply TakeL.right))) (newsL rfl (enc8_one [32]) (rd8_whole (l := [32]) .head rfl (Nat.le_refl _))) (by omega) (by omega) rfl rfl (fun A4 c4 o4 ho4 => WA.on (HDrop.nil _).sub ?_)
  refine WA.only 5 rfl (by kernel_rfl) ?_
  have hc1 : cutA (some ⟨b1, off, none⟩) c1 148 1 = some ⟨b1, off + 148, none⟩ := by
    simp [cutA, Addr.add, show ¬ c1 = 148 by omega]
  rw [show Int.toNat 148 = 148 from rfl, show Int.toNat 156 = 156 from rfl, hc1]
  refine WL.copy' rfl rfl rfl rfl (newsL rfl (enc8_one _) (ho4.rd _)) (k := 8) rfl (by (repeat (first | exact Upd.head | apply Upd.tail | apply Upd.right))) (by omega) rfl rfl (WA.on (HDrop.nil _).sub ?_)
  refine WA.done (by kernel_rfl) ?_
  simp only [List.nil_append] at hcs hln
  rw [take_enc8, List.take_of_length_le (by simp [ofmt_length])]
  have hput : put8 l 148 (ofmt (sum8 0 l) 6 ++ [0] ++ [32]) = seal8 l := by simp [put8, seal8, ofmt_length]
  have hown := own8_put (T := 5) (b := b1) (lo := 148) (m := ofmt (sum8 0 l) 6 ++ [0] ++ [32]) hln hnc hcc hcs (by simp [ofmt_length]; omega)
  rw [hput] at hown
  repeat' (first
    | (show WL _ _ _ _ _ (_ :: _) _ _; first
      | refine WL.pures rfl rfl rfl rfl rfl ?_
      | refine WL.pure rfl rfl rfl rfl ?_
      | refine WL.loadAll' rfl rfl (by (repeat (first | exact AllAt.head rfl | apply AllAt.tail | apply AllAt.right))) rfl rfl ?_
      | refine WL.load' rfl rfl (by (repeat (first | exact LdAt.head rfl | apply LdAt.tail | apply LdAt.right))) rfl rfl ?_
      | refine WL.pass rfl rfl ?_
      | refine WL.arith' rfl rfl (binV_i64 rfl (by omega)) rfl rfl ?_
      | refine WL.lens' rfl rfl rfl rfl rfl rfl ?_
      | refine WL.lenl' rfl rfl rfl rfl rfl rfl ?_
      | (refine WL.splitP rfl rfl rfl (fun _ => ?_) (fun _ => ?_) <;> (try (exfalso; omega)))
      | refine WL.box' rfl rfl rfl (fun _ => ?_)
      | refine WL.alloc' rfl rfl rfl (fun _ => ?_)
      | refine WL.store' rfl rfl rfl rfl (List.all_eq_true.1 (by kernel_rfl)) (by (repeat (first | exact Upd.head | apply Upd.tail | apply Upd.right))) (by decide) rfl rfl ?_
      | refine WL.buildA' rfl rfl rfl rfl (by kernel_rfl) rfl rfl ?_
      | refine WL.litA' rfl rfl rfl rfl rfl (by kernel_rfl) rfl rfl (fun _ => ?_)
      | refine WL.build' rfl rfl rfl rfl rfl rfl ?_)
    | (show WL _ _ _ _ _ [] _ _; first
      | refine WL.done ?_
      | refine WL.goes (fun _ _ => rfl) ?_)
    | (show WC _ _ _ _ _ _ _; first
      | exact WC.doneS (fun _ _ => rfl) rfl (by (repeat (first | exact HDrop.refl _ | exact HDrop.nil _ | refine HDrop.take (by (repeat (first | exact TakeL.here | exact TakeL.one | apply TakeL.tail | apply TakeL.right))) ?_ | refine HDrop.takeL (by (repeat (first | exact TakeL.here | exact TakeL.one | apply TakeL.tail | apply TakeL.right))) ?_ | refine HDrop.skip ?_ | refine HDrop.skipR ?_))) ⟨_, _, hown, rfl, rfl⟩
      | refine WC.seq (WC.region ?_)
      | refine WC.seq ?_
      | refine WC.region ?_
      | refine WC.block ?_
      | refine WC.yes rfl ?_
      | refine WC.no rfl ?_
      | (refine WC.ite rfl (fun _ => ?_) (fun _ => ?_) <;> (try (exfalso; omega)))
      | refine WC.goes (fun _ _ => rfl) ?_
      | refine WC.exits (fun _ _ => rfl) ?_))
end Go.Proofs.YtdapbkdfanlkkaaDoor
