/- Blocks that are let go, slices that are handed back, and drawn regions that cut slices. -/
import Derived.Test.YtdapbkdfanlkkaaDoorCoreG
set_option maxRecDepth 10000
set_option linter.unusedSectionVars false
set_option linter.unusedVariables false
set_option linter.unusedSimpArgs false
namespace Go.Pan
open Go

theorem own_empty (T : TypeId) (sz b : Nat) : Own T sz (.slice (some ⟨b, 0, none⟩) 0 0) [] [(b, .cells #[] T (0, 0))] :=
  .inr ⟨b, 0, 0, 0, #[], rfl, rfl, by simp, Nat.le_refl _, by simp, fun j hj => absurd hj (by simp)⟩
/-- hs' is a part of hs. -/
def HDrop (hs hs' : Hs) : Prop := ∃ x, hs.Perm (hs' ++ x)
theorem HDrop.refl (hs : Hs) : HDrop hs hs := ⟨[], by simp⟩
theorem HDrop.takeL {o big r s : Hs} (h : TakeL o big r) (k : HDrop r s) : HDrop big (o ++ s) := by
  obtain ⟨x, hx⟩ := k
  exact ⟨x, h.perm.trans (by rw [List.append_assoc]; exact hx.append_left o)⟩
theorem HDrop.take {b : Nat} {x : Obj} {big r s : Hs} (h : TakeL [(b, x)] big r) (k : HDrop r s) : HDrop big ((b, x) :: s) := HDrop.takeL (o := [(b, x)]) h k
theorem HDrop.skip {p : Nat × Obj} {b s : Hs} (k : HDrop b s) : HDrop (p :: b) s := by
  obtain ⟨x, hx⟩ := k
  exact ⟨p :: x, (hx.cons p).trans List.perm_middle.symm⟩
theorem HDrop.keep {p : Nat × Obj} {b s : Hs} (k : HDrop b s) : HDrop (p :: b) (p :: s) := by
  obtain ⟨x, hx⟩ := k
  exact ⟨x, (hx.cons p)⟩
theorem HDrop.keep1 {b : Nat} {o o' : Obj} {l s : Hs} (h : o = o') (k : HDrop l s) : HDrop ((b, o) :: l) ((b, o') :: s) := h ▸ HDrop.keep k
theorem HDrop.skipR {o b s : Hs} (k : HDrop b s) : HDrop (o ++ b) s := by
  obtain ⟨x, hx⟩ := k
  refine ⟨o ++ x, (hx.append_left o).trans ?_⟩
  rw [← List.append_assoc, ← List.append_assoc]
  exact List.perm_append_comm.append_right x
theorem HDrop.sub {hs hs' : Hs} (h : HDrop hs hs') : HSub hs hs' := by
  obtain ⟨x, hx⟩ := h
  exact (HSub.perm hx).trans (HSub.of (List.sublist_append_left _ _))
theorem HDrop.nil (hs : Hs) : HDrop hs [] := ⟨hs, by simp⟩
section
variable {P : Program} [T : Tab P] {w0 : World} {N : Nat} {ops : Array Oper} {Q : Exit → Act → World → Prop} {K : Act → Prop} {env : Env} {hs hq : Hs} {o : Oper} {rest : List Oper} {fuel : Nat} {listed : Array Bool}
/-- A function's end, when some blocks are let go. -/
theorem WC.doneS {fn : Func} {R : Value → Hs → Prop} {vs : List Value} {hs' : Hs} (hq : ∀ a w, Q .ret a w = Post P fn w0 R .ret a w) (hr : resE env fn.results.toList = some vs) (hd : HDrop hs hs') (h : R (tupV vs) hs') : WC P w0 N .ret Q env hs :=
  WC.hsub (WC.done hq hr h) hd.sub
/-- The callee hands back a slice that is its owner's own, in f. -/
def NewS (f : Value → Value) (T : TypeId) (sz : Nat) (cs : List Value) (hs : Hs) (v : Value) (hs' : Hs) : Prop := ∃ r o, Own T sz r cs o ∧ v = f r ∧ hs' = o ++ hs
theorem WL.callNS {d : Tmp} {c : Call} {f : FuncId} {vs : List Value} {r : Value → Value} {t : TypeId} {sz : Nat} {cs : List Value} (ho : o.op = .call c) (hc : c.callee = .value (.func f)) (hx : evs env c.args.toList = some vs) (hrun : ∀ args w, (callFunc f args).run P w = .ok (.enter f args) w)
    (hcall : CallsF P f vs w0 hs (NewS r t sz cs hs)) (hg : guardE ops env o = some true) (hdd : o.dst = some d) (hd : Nat.blt d N = true) (k : ∀ A n cap o', Own t sz (.slice A n cap) cs o' → n * sz = cs.length → n ≤ cap → WL P w0 N ops Q rest ((d, r (.slice A n cap)) :: env) (o' ++ hs)) : WL P w0 N ops Q (o :: rest) env hs :=
  WL.call ho hc hx hrun hcall hg hdd hd (fun v hs' ⟨b, o', h0, h1, h2⟩ => by
    obtain ⟨A, n, cap, e, h3, h4⟩ := h0.form
    subst e; subst h1; subst h2; exact k A n cap o' h0 h3 h4)
theorem WL.append8 {d : Tmp} {c : Call} {t t2 e by_ : Nat} {A : Option Addr} {n cap : Nat} {x z : Value} {l l2 : List UInt8} {ow hr : Hs} {m : Nat} (ho : o.op = .call c) (hc : c.callee = .builtin .append) (hx : evs env c.args.toList = some [.slice A n cap, x]) (hat : c.argTypes = #[t, t2])
    (ht : lk T.T.elm t = some (e, 1, by_)) (hz : lk T.T.zro e = some z) (hzs : z.cells.size = 1) (hown : Own e 1 (.slice A n cap) (enc8 l) ow) (hto : TakeL ow hs hr) (hnew : News P hs 1 t2 x m (enc8 l2)) (hby : (n + m) * by_ ≤ 140737488355328) (hmax : n + m ≤ 9223372036854775807)
    (hg : guardE ops env o = some true) (hdd : o.dst = some d) (hd : Nat.blt d N = true) (k : ∀ A' cap' o', Own e 1 (.slice A' (n + m) cap') (enc8 (l ++ l2)) o' → WL P w0 N ops Q rest ((d, .slice A' (n + m) cap') :: env) (o' ++ hr)) : WL P w0 N ops Q (o :: rest) env hs :=
  WL.append ho hc hx hat ht hz hzs hown hto hnew hby hmax hg hdd hd (fun A' cap' o' h => k A' cap' o' (by rw [enc8_append]; exact h))
theorem TakeL.upd {b : Nat} {o o' : Obj} {hs hr : Hs} (h : TakeL [(b, o)] hs hr) : ∃ hs', Upd b o o' hs hs' ∧ hs'.Perm ((b, o') :: hr) := by
  generalize ho : [(b, o)] = os at h
  induction h with
  | here => subst ho; exact ⟨_, .head, .refl _⟩
  | @tail p hs hs' _ ih =>
    obtain ⟨x, h1, h2⟩ := ih
    exact ⟨p :: x, .tail h1, (h2.cons p).trans (.swap _ _ _)⟩
  | @right xs hs hs' _ ih =>
    obtain ⟨x, h1, h2⟩ := ih
    exact ⟨xs ++ x, .right h1, (h2.append_left xs).trans List.perm_middle⟩
/-- A byte is stored into a row of bytes; the row moves to the front. -/
theorem WL.store8L {t : TypeId} {x y : Operand} {b off : Nat} {l : List UInt8} {T' : TypeId} {v : UInt8} {i : Int} {hr : Hs} (ho : o.op = .store t x y) (hx : evo env x = some (.pointer (some ⟨b, off, none⟩))) (hy : evo env y = some (.int .u8 i)) (hi : i = v.toNat) (hl : lk T.T.lay t = some (false, 1))
    (hm : TakeL [(b, .cells (enc8 l).toArray T' (0, 0))] hs hr) (hle : off + 1 ≤ l.length)
    (hg : guardE ops env o = some true) (hd : dstOk N o.dst = true) (k : ∀ l', l' = put8 l off [v] → l'.length = l.length → WL P w0 N ops Q rest (putE o.dst undef env) ((b, .cells (enc8 l').toArray T' (0, 0)) :: hr)) : WL P w0 N ops Q (o :: rest) env hs := by
  obtain ⟨hs', h1, h2⟩ := hm.upd (o' := .cells (enc8 (put8 l off [v])).toArray T' (0, 0))
  exact WL.store8 ho hx hy hi hl h1 hle hg hd (WL.hsub (k _ rfl (put8_length (by simpa using hle))) (.perm h2))
/-- copy into a row of bytes, all of it; the row moves to the front. -/
theorem WL.copy8L {c : Call} {t t2 e by_ : Nat} {T' b off n cap m : Nat} {l new : List UInt8} {x : Value} {hr : Hs} (ho : o.op = .call c) (hc : c.callee = .builtin .copy) (hx : evs env c.args.toList = some [.slice (some ⟨b, off, none⟩) n cap, x]) (hat : c.argTypes = #[t, t2])
    (ht : lk T.T.elm t = some (e, 1, by_)) (hnew : News P hs 1 t2 x m (enc8 new)) (hm : TakeL [(b, .cells (enc8 l).toArray T' (0, 0))] hs hr) (hmn : new.length = m) (hn : m ≤ n) (hle : off + m ≤ l.length)
    (hg : guardE ops env o = some true) (hd : dstOk N o.dst = true) (kk : ∀ l', l' = put8 l off new → l'.length = l.length → WL P w0 N ops Q rest (putE o.dst (.int .i64 m) env) ((b, .cells (enc8 l').toArray T' (0, 0)) :: hr)) : WL P w0 N ops Q (o :: rest) env hs := by
  obtain ⟨hs', h1, h2⟩ := hm.upd (o' := .cells (enc8 (put8 l off (new.take m))).toArray T' (0, 0))
  refine WL.copy8 ho hc hx hat ht hnew (Nat.min_eq_left hn) h1 hle hg hd (WL.hsub (kk _ (by rw [List.take_of_length_le (by omega)]) ?_) (.perm h2))
  exact put8_length (by simp; omega)
theorem HDrop.head (p : Nat × Obj) (hs : Hs) : HDrop (p :: hs) [p] := ⟨hs, .refl _⟩
theorem WQ.arith {d : Tmp} {op : BinOp} {t t' : TypeId} {x y : Operand} {k : IntKind} {a b r : Int} (ho : o.op = .binOp op t x y t') (hx : evo env x = some (.int k a)) (hy : evo env y = some (.int k b)) (hr : binV op k a b = some r)
    (hg : guardE ops env o = some true) (hdd : o.dst = some d) (hd : Nat.blt d N = true) (kk : WQ P w0 N ops K rest ((d, (.int k r)) :: env) hs) : WQ P w0 N ops K (o :: rest) env hs := by
  refine WQ.val (v := .int k r) hg (dst_ok hdd hd) (fun a' H n ha hf => ?_) (by rw [hdd]; exact kk)
  have hge : (eqGuard op t x y (.int k a) (.int k b)).run P (wd w0 H n) = .ok () (wd w0 H n) := by unfold eqGuard; split <;> simp
  have hb : (binOp op t (.int k a) (.int k b)).run P (wd w0 H n) = .ok (.int k r) (wd w0 H n) := by
    cases op <;> simp only [binV, Option.some.injEq, reduceCtorEq] at hr <;> subst hr <;> simp [binOp, Op.intArith]
  simp [execOp, ho, ha.eval hx, ha.eval hy, hge, hb]
theorem WC.cutB {σ : Type} {x y : Code} {Q' : Exit → Act → World → Prop} (E : σ → Env) (G : σ → Hs) (I : σ → Prop) (hx : WC P w0 N x (Exit.then (CutQ w0 N E G I) Q') env hs)
    (hy : ∀ s, I s → WC P w0 N y Q' (E s) (G s)) : WC P w0 N x (Exit.then (y.wp P Q') Q') env hs := by
  intro a H n ha hf
  refine wp_mono (hx a H n ha hf) fun e a' w' hq => ?_
  cases e with
  | normal =>
    obtain ⟨s, H', n', hI, ha', hf', rfl⟩ := hq
    exact hy s hI a' H' n' ha' hf'
  | _ => exact hq
theorem range_map (n : Nat) (f : Nat → Value) : (Array.range n).map f = ((List.range n).map f).toArray := by
  rw [← Array.toList_inj]; simp
theorem WL.litL {d : Tmp} {t e sz by_ len : Nat} {parts : Array (Nat × Operand)} {z : Value} {vs : List (Nat × Value)} {cells : Array Value} (ho : o.op = .buildSlice t len parts) (hx : evp env parts.toList = some vs) (ht : lk T.T.elm t = some (e, sz, by_)) (hz : lk T.T.zro e = some z)
    (hlen : (Nat.ble (len * sz) 16777216 && Nat.blt 0 (len * sz)) = true) (hfill : Instr.fill (fun i => some (i * sz, sz)) ((List.range (len * sz)).map (z.cells[· % z.cells.size]!)).toArray vs = some cells)
    (hg : guardE ops env o = some true) (hdd : o.dst = some d) (hd : Nat.blt d N = true) (k : ∀ b, WL P w0 N ops Q rest ((d, .slice (some ⟨b, 0, none⟩) len len) :: env) ((b, .cells cells e (0, 0)) :: hs)) : WL P w0 N ops Q (o :: rest) env hs :=
  WL.lit ho hx ht hz hlen (by rw [range_map]; exact hfill) hg hdd hd k
/-- the cells of all parts, one behind the other -/
def allC (vs : List (Nat × Value)) : List Value := match vs with
  | [] => []
  | p :: l => p.2.cells.toList ++ allC l
/-- All fields of a struct are given, in their order. -/
theorem WL.buildA {d : Tmp} {t : Nat} {parts : Array (Nat × Operand)} {vs : List (Nat × Value)} {fs : List (Nat × Nat)} {z : Value} (ho : o.op = .build t parts) (hx : evp env parts.toList = some vs) (hf : lk T.T.fld t = some fs) (hz : lk T.T.zro t = some z)
    (hcnt : fs.length = vs.length) (hfill : Instr.fill (fs[·]?) z.cells vs = some (vs.map (·.2)).toArray) (hg : guardE ops env o = some true) (hdd : o.dst = some d) (hd : Nat.blt d N = true)
    (k : WL P w0 N ops Q rest ((d, .agg (vs.map (·.2)).toArray) :: env) hs) : WL P w0 N ops Q (o :: rest) env hs :=
  WL.build ho hx hf hz hfill hg hdd hd k
/-- All elements of a slice are given, in their order. -/
theorem WL.litA {d : Tmp} {t e sz by_ len : Nat} {parts : Array (Nat × Operand)} {z : Value} {vs : List (Nat × Value)} (ho : o.op = .buildSlice t len parts) (hx : evp env parts.toList = some vs) (ht : lk T.T.elm t = some (e, sz, by_)) (hz : lk T.T.zro e = some z)
    (hlen : (Nat.ble (len * sz) 16777216 && Nat.blt 0 (len * sz)) = true) (hcnt : len = vs.length) (hfill : Instr.fill (fun i => some (i * sz, sz)) ((List.range (len * sz)).map (z.cells[· % z.cells.size]!)).toArray vs = some (allC vs).toArray)
    (hg : guardE ops env o = some true) (hdd : o.dst = some d) (hd : Nat.blt d N = true) (k : ∀ b, WL P w0 N ops Q rest ((d, .slice (some ⟨b, 0, none⟩) len len) :: env) ((b, .cells (allC vs).toArray e (0, 0)) :: hs)) : WL P w0 N ops Q (o :: rest) env hs :=
  WL.litL ho hx ht hz hlen hfill hg hdd hd k
theorem WA.slice (i : Nat) {oi : Oper} {d : Tmp} {t e sz by_ : Nat} {x : Operand} {lo hi : Option Operand} {A : Option Addr} {n cap : Nat} {l h : Int} (hi' : ops[i]? = some oi) (ho : oi.op = .slice t x lo hi none) (hx : evo env x = some (.slice A n cap)) (ht : lk T.T.elm t = some (e, sz, by_))
    (hl : loV env lo = some l) (hh : hiV env n hi = some h) (h0 : 0 ≤ l) (h1 : l ≤ h) (h2 : h ≤ cap) (hn : n ≤ cap) (hside : (Region.noSelect ops && Region.free .any ops listed i && (Region.ready .any ops listed).contains i) = true)
    (hQ : ∀ c a v w, Q (.panic c) (a.put oi.dst v) w → Q (.panic c) a w) (hg : guardE ops env oi = some true) (hdd : oi.dst = some d) (hd : Nat.blt d N = true)
    (k : WA P w0 N ops Q hq fuel (listed.setIfInBounds i true) ((d, .slice (cutA A cap l.toNat sz) (h.toNat - l.toNat) (cap - l.toNat)) :: env) hs) : WA P w0 N ops Q hq (fuel + 1) listed env hs :=
  WA.takeV i hi' hside hQ hg (dst_ok hdd hd) (fun _ H n' ha _ => run_slice ha ho hx ht hl hh h0 h1 h2 hn _) (by rw [hdd]; exact k)
theorem Own.some {T : TypeId} {A : Option Addr} {n cap : Nat} {l : List UInt8} {o : Hs} (h : Own T 1 (.slice A n cap) (enc8 l) o) (h0 : 0 < n) :
    ∃ b off c, A = Option.some ⟨b, off, none⟩ ∧ o = [(b, .cells c T (0, 0))] ∧ l.length = n ∧ n ≤ cap ∧ off + cap ≤ c.size ∧ ∀ j, j < l.length → c[off + j]? = (enc8 l)[j]? := by
  rcases h with ⟨h1, _, _⟩ | ⟨b, off, n', cap', c, h1, h2, h3, h4, h5, h6⟩
  · cases h1; omega
  · cases h1
    rw [enc8_length] at h3 h6
    exact ⟨b, off, c, rfl, h2, by omega, h4, by omega, h6⟩
theorem own8_put {T : TypeId} {b off n cap lo : Nat} {c : Array Value} {l m : List UInt8} (hl : l.length = n) (hcap : n ≤ cap) (hsz : off + cap ≤ c.size) (hc : ∀ j, j < l.length → c[off + j]? = (enc8 l)[j]?) (hlo : lo + m.length ≤ n) :
    Own T 1 (.slice (Option.some ⟨b, off, none⟩) n cap) (enc8 (put8 l lo m)) [(b, .cells (splice c (off + lo) (enc8 m)) T (0, 0))] := by
  have hm : (enc8 m).length = m.length := enc8_length m
  refine .inr ⟨b, off, n, cap, _, rfl, rfl, ?_, hcap, ?_, ?_⟩
  · rw [enc8_length, put8_length (by omega)]; omega
  · rw [splice_size]; omega
  · intro j hj
    rw [enc8_length, put8_length (by omega)] at hj
    rw [splice_get _ _ _ (by omega), hm]
    by_cases h1 : j < lo
    · rw [if_neg (by omega), hc j (by omega)]
      simp [enc8, put8, List.getElem?_append, h1, show j < l.length by omega, show min lo l.length = lo by omega]
    · by_cases h2 : j < lo + m.length
      · rw [if_pos (by omega), show off + j - (off + lo) = j - lo by omega]
        simp [enc8, put8, List.getElem?_append, show min lo l.length = lo by omega, h1, show j - lo < m.length by omega]
      · rw [if_neg (by omega), hc j (by omega)]
        simp [enc8, put8, List.getElem?_append, List.getElem?_drop, show min lo l.length = lo by omega, h1, show ¬ j - lo < m.length by omega, show lo + m.length + (j - lo - m.length) = j by omega]
end
end Go.Pan
