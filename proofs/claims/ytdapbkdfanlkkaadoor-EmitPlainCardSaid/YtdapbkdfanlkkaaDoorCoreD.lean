/- The walk's rules for loops, for ways that meet again, and for statements whose order Go leaves open. Nothing of the program stands here. -/
import Derived.Test.YtdapbkdfanlkkaaDoorCoreC
import Derived.OrdersHeld
set_option linter.unusedSectionVars false
set_option linter.unusedVariables false
set_option linter.unusedSimpArgs false
namespace Go.Pan
open Go

/-- Whatever is known by hs' is known by hs. -/
def HSub (hs hs' : Hs) : Prop := ∀ H, HF H hs → HF H hs'
theorem HSub.refl (hs : Hs) : HSub hs hs := fun _ h => h
theorem HSub.of {hs hs' : Hs} (h : hs'.Sublist hs) : HSub hs hs' := fun _ hf => hf.sublist h
theorem HSub.perm {hs hs' : Hs} (h : hs.Perm hs') : HSub hs hs' := fun _ hf => hf.perm h
theorem HSub.trans {a b c : Hs} (h : HSub a b) (k : HSub b c) : HSub a c := fun H hf => k H (h H hf)
theorem Take.sub {b : Nat} {o : Obj} {hs hs' : Hs} (h : Take b o hs hs') : HSub hs ((b, o) :: hs') := .perm h.perm

def LoopQ {σ : Type} (w0 : World) (N : Nat) (E : σ → Env) (G : σ → Hs) (I : σ → Prop) (μ : σ → Nat) (s : σ) (a : Act) (w : World) : Prop :=
  ∃ s' H n, μ s' < μ s ∧ I s' ∧ Holds N a (E s') ∧ HF H (G s') ∧ w = wd w0 H n
def CutQ {σ : Type} (w0 : World) (N : Nat) (E : σ → Env) (G : σ → Hs) (I : σ → Prop) (a : Act) (w : World) : Prop :=
  ∃ s' H n, I s' ∧ Holds N a (E s') ∧ HF H (G s') ∧ w = wd w0 H n
section
variable {P : Program} {w0 : World} {N : Nat} {Q : Exit → Act → World → Prop} {env : Env} {hs : Hs}
/-- A loop with a state of its own: E: the slots that a round's head knows, G: the blocks, I: what holds, μ: what falls. -/
theorem WC.loopS {σ : Type} {c : Code} (E : σ → Env) (G : σ → Hs) (I : σ → Prop) (μ : σ → Nat) (s0 : σ) (hE : subE env (E s0)) (hG : HSub hs (G s0)) (h0 : I s0)
    (round : ∀ s, I s → WC P w0 N c (Exit.then (LoopQ w0 N E G I μ s) Q) (E s) (G s)) : WC P w0 N (.loop c) Q env hs := by
  have key : WC P w0 N (.loop c) Q (E s0) (G s0) := by
    refine WC.loop (fun k e g => ∃ s, μ s = k ∧ I s ∧ e = E s ∧ g = G s) (μ s0) ⟨s0, rfl, h0, rfl, rfl⟩ ?_
    rintro k e g ⟨s, rfl, hI, rfl, rfl⟩
    intro a H n ha hf
    refine wp_mono (round s hI a H n ha hf) fun e a' w' hq => ?_
    cases e with
    | normal =>
      obtain ⟨s', H', n', hlt, hI', ha', hf', rfl⟩ := hq
      exact ⟨μ s', E s', G s', H', n', hlt, ⟨s', rfl, hI', rfl, rfl⟩, ha', hf', rfl⟩
    | _ => exact hq
  exact fun a H n ha hf => key a H n (ha.sub hE) (hG H hf)
/-- The round is at its end. -/
theorem loopQ_of {σ : Type} {E : σ → Env} {G : σ → Hs} {I : σ → Prop} {μ : σ → Nat} {s : σ} (s' : σ) (hE : subE env (E s')) (hG : HSub hs (G s')) (hI : I s') (hμ : μ s' < μ s) {a : Act} {H : Array Obj} {n : Nat} (ha : Holds N a env) (hf : HF H hs) : LoopQ w0 N E G I μ s a (wd w0 H n) :=
  ⟨s', H, n, hμ, hI, ha.sub hE, hG H hf, rfl⟩
theorem WL.again {σ : Type} {E : σ → Env} {G : σ → Hs} {I : σ → Prop} {μ : σ → Nat} {s : σ} {ops : Array Oper} (s' : σ) (hq : ∀ a w, Q .normal a w = LoopQ w0 N E G I μ s a w) (hE : subE env (E s')) (hG : HSub hs (G s')) (hI : I s') (hμ : μ s' < μ s) : WL P w0 N ops Q [] env hs :=
  WL.nil fun a H n ha hf => by rw [hq]; exact loopQ_of s' hE hG hI hμ ha hf
theorem WC.again {σ : Type} {E : σ → Env} {G : σ → Hs} {I : σ → Prop} {μ : σ → Nat} {s : σ} (s' : σ) (hq : ∀ a w, Q .normal a w = LoopQ w0 N E G I μ s a w) (hE : subE env (E s')) (hG : HSub hs (G s')) (hI : I s') (hμ : μ s' < μ s) : WC P w0 N .skip Q env hs :=
  WC.skip fun a H n ha hf => by rw [hq]; exact loopQ_of s' hE hG hI hμ ha hf
theorem WC.againx {σ : Type} {E : σ → Env} {G : σ → Hs} {I : σ → Prop} {μ : σ → Nat} {s : σ} {id : Nat} (s' : σ) (hq : ∀ a w, Q (.exit id) a w = LoopQ w0 N E G I μ s a w) (hE : subE env (E s')) (hG : HSub hs (G s')) (hI : I s') (hμ : μ s' < μ s) : WC P w0 N (.exit id) Q env hs :=
  WC.exit fun a H n ha hf => by rw [hq]; exact loopQ_of s' hE hG hI hμ ha hf
/-- Ways that meet again, with a state of its own. -/
theorem WC.cutS {σ : Type} {x y : Code} (E : σ → Env) (G : σ → Hs) (I : σ → Prop) (hx : WC P w0 N x (Exit.then (CutQ w0 N E G I) Q) env hs)
    (hy : ∀ s, I s → WC P w0 N y Q (E s) (G s)) : WC P w0 N (.seq x y) Q env hs := by
  intro a H n ha hf
  refine wp_seq (wp_mono (hx a H n ha hf) fun e a' w' hq => ?_)
  cases e with
  | normal =>
    obtain ⟨s, H', n', hI, ha', hf', rfl⟩ := hq
    exact hy s hI a' H' n' ha' hf'
  | _ => exact hq
theorem cutQ_of {σ : Type} {E : σ → Env} {G : σ → Hs} {I : σ → Prop} (s' : σ) (hE : subE env (E s')) (hG : HSub hs (G s')) (hI : I s') {a : Act} {H : Array Obj} {n : Nat} (ha : Holds N a env) (hf : HF H hs) : CutQ w0 N E G I a (wd w0 H n) :=
  ⟨s', H, n, hI, ha.sub hE, hG H hf, rfl⟩
theorem WL.meet {σ : Type} {E : σ → Env} {G : σ → Hs} {I : σ → Prop} {ops : Array Oper} (s' : σ) (hq : ∀ a w, Q .normal a w = CutQ w0 N E G I a w) (hE : subE env (E s')) (hG : HSub hs (G s')) (hI : I s') : WL P w0 N ops Q [] env hs :=
  WL.nil fun a H n ha hf => by rw [hq]; exact cutQ_of s' hE hG hI ha hf
theorem WC.meet {σ : Type} {E : σ → Env} {G : σ → Hs} {I : σ → Prop} (s' : σ) (hq : ∀ a w, Q .normal a w = CutQ w0 N E G I a w) (hE : subE env (E s')) (hG : HSub hs (G s')) (hI : I s') : WC P w0 N .skip Q env hs :=
  WC.skip fun a H n ha hf => by rw [hq]; exact cutQ_of s' hE hG hI ha hf
theorem WC.meetx {σ : Type} {E : σ → Env} {G : σ → Hs} {I : σ → Prop} {id : Nat} (s' : σ) (hq : ∀ a w, Q (.exit id) a w = CutQ w0 N E G I a w) (hE : subE env (E s')) (hG : HSub hs (G s')) (hI : I s') : WC P w0 N (.exit id) Q env hs :=
  WC.exit fun a H n ha hf => by rw [hq]; exact cutQ_of s' hE hG hI ha hf
theorem WC.hsub {c : Code} {hs' : Hs} (h : WC P w0 N c Q env hs') (hp : HSub hs hs') : WC P w0 N c Q env hs := fun a H n ha hf => h a H n ha (hp H hf)
theorem WL.hsub {ops : Array Oper} {l : List Oper} {hs' : Hs} (h : WL P w0 N ops Q l env hs') (hp : HSub hs hs') : WL P w0 N ops Q l env hs := fun a H n ha hf => h a H n ha (hp H hf)
theorem CallsF.hsub {f : FuncId} {args : List Value} {hs' : Hs} {R : Value → Hs → Prop} (h : CallsF P f args w0 hs' R) (hp : HSub hs hs') : CallsF P f args w0 hs R := fun H n hf => h H n (hp H hf)
end

/-! ### a region that draws its order, of operations that only read (and calls that hand back what does not hang on the order) -/
def CQ (w0 : World) (hs : Hs) (w : World) : Prop := ∃ H n, HF H hs ∧ w = wd w0 H n
def WQ (P : Program) (w0 : World) (N : Nat) (ops : Array Oper) (Q : Act → Prop) (l : List Oper) (env : Env) (hs : Hs) : Prop :=
  ∀ a, Holds N a env → wpQuiet P ops (CQ w0 hs) Q l a
section
variable {P : Program} [T : Tab P] {w0 : World} {N : Nat} {ops : Array Oper} {Q : Exit → Act → World → Prop} {K : Act → Prop} {env : Env} {hs : Hs} {o : Oper} {rest : List Oper}
theorem WC.quiet {id : Nat} {l : List Oper} (hm : P.follows .mixedOrders = true) (hB : Region.lexB .any l.toArray = true)
    (h : WQ P w0 N l.toArray (fun a => ∀ w', CQ w0 hs w' → Q .normal a w') l env hs) : WC P w0 N (.region id l.toArray true) Q env hs :=
  fun a H n ha hf => wp_region_quiet (C := CQ w0 hs) hm hB ⟨H, n + 1, hf, rfl⟩ (by simpa using h a ha)
theorem WQ.nil (h : ∀ a H n, Holds N a env → HF H hs → Q .normal a (wd w0 H n)) : WQ P w0 N ops (fun a => ∀ w', CQ w0 hs w' → Q .normal a w') [] env hs :=
  fun a ha => wpQuiet_nil fun w' ⟨H, n, hf, hw⟩ => by subst hw; exact h a H n ha hf
theorem WQ.done {y : Code} {Q' : Exit → Act → World → Prop} (h : WC P w0 N y Q' env hs) : WQ P w0 N ops (fun a => ∀ w', CQ w0 hs w' → (Exit.then (y.wp P Q') Q') .normal a w') [] env hs :=
  WQ.nil (Q := Exit.then (y.wp P Q') Q') fun a H n ha hf => h a H n ha hf
theorem WQ.goes {y : Code} {Q' : Exit → Act → World → Prop} (hq : ∀ a w, Q .normal a w = y.wp P Q' a w) (h : WC P w0 N y Q' env hs) : WQ P w0 N ops (fun a => ∀ w', CQ w0 hs w' → Q .normal a w') [] env hs :=
  WQ.nil fun a H n ha hf => by rw [hq]; exact h a H n ha hf
theorem WQ.again {σ : Type} {E : σ → Env} {G : σ → Hs} {I : σ → Prop} {μ : σ → Nat} {s : σ} (s' : σ) (hq : ∀ a w, Q .normal a w = LoopQ w0 N E G I μ s a w) (hE : subE env (E s')) (hG : HSub hs (G s')) (hI : I s') (hμ : μ s' < μ s) : WQ P w0 N ops (fun a => ∀ w', CQ w0 hs w' → Q .normal a w') [] env hs :=
  WQ.nil fun a H n ha hf => by rw [hq]; exact loopQ_of s' hE hG hI hμ ha hf
theorem WQ.meet {σ : Type} {E : σ → Env} {G : σ → Hs} {I : σ → Prop} (s' : σ) (hq : ∀ a w, Q .normal a w = CutQ w0 N E G I a w) (hE : subE env (E s')) (hG : HSub hs (G s')) (hI : I s') : WQ P w0 N ops (fun a => ∀ w', CQ w0 hs w' → Q .normal a w') [] env hs :=
  WQ.nil fun a H n ha hf => by rw [hq]; exact cutQ_of s' hE hG hI ha hf
theorem WQ.pass (hg : guardE ops env o = some false) (hd : dstOk N o.dst = true) (k : WQ P w0 N ops K rest (putE o.dst undef env) hs) : WQ P w0 N ops K (o :: rest) env hs := by
  intro a ha
  have hw := guardE_wanted ha hg
  unfold wpQuiet
  rw [if_neg (by simp [hw])]
  exact k _ (ha.put hd _)
theorem WQ.val {v : Value} (hg : guardE ops env o = some true) (hd : dstOk N o.dst = true) (hrun : ∀ a H n, Holds N a env → HF H hs → (execOp a.eval o).run P (wd w0 H n) = .ok (.value v) (wd w0 H n))
    (k : WQ P w0 N ops K rest (putE o.dst v env) hs) : WQ P w0 N ops K (o :: rest) env hs := by
  intro a ha
  have hw := guardE_wanted ha hg
  unfold wpQuiet
  rw [if_pos (by simp [hw])]
  refine ⟨v, fun w ⟨H, n, hf, e⟩ => ?_, k _ (ha.put hd _)⟩
  subst e
  unfold Oper.quietAt
  rw [hrun a H n ha hf]
  exact ⟨rfl, rfl⟩
theorem WQ.pure {d : Tmp} {v : Value} (h : pv T.T env o.op = some v) (hg : guardE ops env o = some true) (hdd : o.dst = some d) (hd : Nat.blt d N = true)
    (k : WQ P w0 N ops K rest ((d, v) :: env) hs) : WQ P w0 N ops K (o :: rest) env hs :=
  WQ.val hg (dst_ok hdd hd) (fun _ H n ha _ => pv_run ha h _) (by rw [hdd]; exact k)
theorem WQ.load {d : Tmp} {t : TypeId} {x : Operand} {b off sz : Nat} {g : Bool} {v : Value} (ho : o.op = .load t x) (hx : evo env x = some (.pointer (some ⟨b, off, none⟩))) (hl : lk T.T.lay t = some (g, sz))
    (hm : LdAt b off g sz v hs) (hg : guardE ops env o = some true) (hdd : o.dst = some d) (hd : Nat.blt d N = true) (k : WQ P w0 N ops K rest ((d, v) :: env) hs) : WQ P w0 N ops K (o :: rest) env hs := by
  obtain ⟨c, T', fr, hm, hv⟩ := hm.out
  exact WQ.val (v := v) hg (dst_ok hdd hd) (fun a H n ha hf => by simp [execOp, ho, ha.eval hx, Instr.loadAt, Instr.sureAddr, run_loadVar hl (hm.at_ hf) hv]) (by rw [hdd]; exact k)
theorem WQ.call {d : Tmp} {c : Call} {f : FuncId} {vs : List Value} {v : Value} (ho : o.op = .call c) (hc : c.callee = .value (.func f)) (hx : evs env c.args.toList = some vs) (hrun : ∀ args w, (callFunc f args).run P w = .ok (.enter f args) w)
    (hcall : CallsF P f vs w0 hs fun u hs' => u = v ∧ HSub hs' hs) (hg : guardE ops env o = some true) (hdd : o.dst = some d) (hd : Nat.blt d N = true)
    (k : WQ P w0 N ops K rest ((d, v) :: env) hs) : WQ P w0 N ops K (o :: rest) env hs := by
  intro a ha
  have hw := guardE_wanted ha hg
  have hargs : c.args.map a.eval = vs.toArray := by
    apply Array.toList_inj.1
    rw [Array.toList_map, ha.evals hx]
  unfold wpQuiet
  rw [if_pos (by simp [hw])]
  refine ⟨v, fun w ⟨H, n, hf, e⟩ => ?_, by rw [hdd]; exact k _ (by have := ha.put (dst_ok hdd hd) v; rwa [hdd] at this)⟩
  subst e
  have hr : (execOp a.eval o).run P (wd w0 H n) = .ok (.enter f vs.toArray) (wd w0 H n) := by
    simp [execOp, ho, resolve, hc, hargs, Act.eval, Deferred.ofValue, invoke, hrun]
  unfold Oper.quietAt
  rw [hr]
  exact ⟨rfl, (hcall H n hf).mono fun e w' ⟨u, H', n', hs', he, hw', hf', hu, hsub⟩ => by
    subst he; subst hw'; subst hu
    exact ⟨rfl, H', n', hsub H' hf', rfl⟩⟩
end

/-! ### a region that draws its order and does more than read: what is known by hq stands throughout; what hangs on it alone is taken first -/
def WA (P : Program) (w0 : World) (N : Nat) (ops : Array Oper) (Q : Exit → Act → World → Prop) (hq : Hs) (fuel : Nat) (listed : Array Bool) (env : Env) (hs : Hs) : Prop :=
  ∀ a H n, Holds N a env → HF H hs → HF H hq → wpAnyH P .any ops Q (CQ w0 hq) fuel listed a (wd w0 H n)
section
variable {P : Program} [T : Tab P] {w0 : World} {N : Nat} {ops : Array Oper} {Q : Exit → Act → World → Prop} {env : Env} {hs hq : Hs} {fuel : Nat} {listed : Array Bool}
theorem WC.any {id : Nat} {l : List Oper} (hq : Hs) (hm : P.follows .mixedOrders = true) (hsub : HSub hs hq) (h : WA P w0 N l.toArray Q hq l.length (Array.replicate l.length false) env hs) : WC P w0 N (.region id l.toArray true) Q env hs :=
  fun a H n ha hf => wp_region_held (S := CQ w0 hq) hm (by
    have h1 := h a H (n + 1) ha hf (hsub H hf)
    rw [show l.toArray.size = l.length from by simp]
    exact h1)
/-- Operation i may come up: what it yields hangs on what is known throughout: it is taken first. -/
theorem WA.takeV (i : Nat) {oi : Oper} {v : Value} (hi : ops[i]? = some oi) (hside : (Region.noSelect ops && Region.free .any ops listed i && (Region.ready .any ops listed).contains i) = true)
    (hQ : ∀ c a v w, Q (.panic c) (a.put oi.dst v) w → Q (.panic c) a w) (hg : guardE ops env oi = some true) (hd : dstOk N oi.dst = true)
    (hrun : ∀ a H n, Holds N a env → HF H hq → (execOp a.eval oi).run P (wd w0 H n) = .ok (.value v) (wd w0 H n))
    (k : WA P w0 N ops Q hq fuel (listed.setIfInBounds i true) (putE oi.dst v env) hs) : WA P w0 N ops Q hq (fuel + 1) listed env hs := by
  simp only [Bool.and_eq_true] at hside
  exact fun a H n ha hf hfq => wpAnyH_take hi hside.1.1 hside.1.2 hside.2 (fun c a w => hQ c a v w)
    (.inl ⟨guardE_wanted ha hg, fun w ⟨H', n', hf', e⟩ => by subst e; exact hrun a H' n' ha hf'⟩) ⟨H, n, hfq, rfl⟩ (k _ H n (ha.put hd _) hf hfq)
theorem WA.passV (i : Nat) {oi : Oper} (hi : ops[i]? = some oi) (hside : (Region.noSelect ops && Region.free .any ops listed i && (Region.ready .any ops listed).contains i) = true)
    (hQ : ∀ c a v w, Q (.panic c) (a.put oi.dst v) w → Q (.panic c) a w) (hg : guardE ops env oi = some false) (hd : dstOk N oi.dst = true)
    (k : WA P w0 N ops Q hq fuel (listed.setIfInBounds i true) (putE oi.dst undef env) hs) : WA P w0 N ops Q hq (fuel + 1) listed env hs := by
  simp only [Bool.and_eq_true] at hside
  exact fun a H n ha hf hfq => wpAnyH_take hi hside.1.1 hside.1.2 hside.2 (fun c a w => hQ c a undef w)
    (.inr ⟨guardE_wanted ha hg, rfl⟩) ⟨H, n, hfq, rfl⟩ (k _ H n (ha.put hd _) hf hfq)
theorem WA.pure (i : Nat) {oi : Oper} {d : Tmp} {v : Value} (hi : ops[i]? = some oi) (h : pv T.T env oi.op = some v) (hside : (Region.noSelect ops && Region.free .any ops listed i && (Region.ready .any ops listed).contains i) = true)
    (hQ : ∀ c a v w, Q (.panic c) (a.put oi.dst v) w → Q (.panic c) a w) (hg : guardE ops env oi = some true) (hdd : oi.dst = some d) (hd : Nat.blt d N = true)
    (k : WA P w0 N ops Q hq fuel (listed.setIfInBounds i true) ((d, v) :: env) hs) : WA P w0 N ops Q hq (fuel + 1) listed env hs :=
  WA.takeV i hi hside hQ hg (dst_ok hdd hd) (fun _ H n ha _ => pv_run ha h _) (by rw [hdd]; exact k)
theorem WA.load (i : Nat) {oi : Oper} {d : Tmp} {t : TypeId} {x : Operand} {b off sz : Nat} {g : Bool} {v : Value} (hi : ops[i]? = some oi) (ho : oi.op = .load t x) (hx : evo env x = some (.pointer (some ⟨b, off, none⟩))) (hl : lk T.T.lay t = some (g, sz))
    (hm : LdAt b off g sz v hq) (hside : (Region.noSelect ops && Region.free .any ops listed i && (Region.ready .any ops listed).contains i) = true)
    (hQ : ∀ c a v w, Q (.panic c) (a.put oi.dst v) w → Q (.panic c) a w) (hg : guardE ops env oi = some true) (hdd : oi.dst = some d) (hd : Nat.blt d N = true)
    (k : WA P w0 N ops Q hq fuel (listed.setIfInBounds i true) ((d, v) :: env) hs) : WA P w0 N ops Q hq (fuel + 1) listed env hs := by
  obtain ⟨c, T', fr, hm, hv⟩ := hm.out
  exact WA.takeV (v := v) i hi hside hQ hg (dst_ok hdd hd) (fun a H n ha hf => by simp [execOp, ho, ha.eval hx, Instr.loadAt, Instr.sureAddr, run_loadVar hl (hm.at_ hf) hv]) (by rw [hdd]; exact k)
/-- What is known behind an operation. -/
def WAK (P : Program) (w0 : World) (N : Nat) (ops : Array Oper) (Q : Exit → Act → World → Prop) (hq : Hs) (fuel : Nat) (listed : Array Bool) (a : Act) (w : World) : Prop :=
  ∃ env hs H n, Holds N a env ∧ HF H hs ∧ HSub hs hq ∧ w = wd w0 H n ∧ WA P w0 N ops Q hq fuel listed env hs
/-- Only operation i may come up now: it is walked as any operation of a region in the text's order, with nothing behind it. -/
theorem WA.only (i : Nat) {oi : Oper} (hi : ops[i]? = some oi) (hr : Region.ready .any ops listed = [i])
    (h : WL P w0 N ops (Exit.then (WAK P w0 N ops Q hq fuel (listed.setIfInBounds i true)) Q) [oi] env hs) : WA P w0 N ops Q hq (fuel + 1) listed env hs := by
  intro a H n ha hf hfq
  refine wpAnyH_all hr (by simp) fun j hj => ?_
  obtain rfl : j = i := by simpa using hj
  have h1 := h a H n ha hf
  have hlo : LetsOut (Exit.then (WAK P w0 N ops Q hq fuel (listed.setIfInBounds j true)) Q) → LetsOut Q := fun ⟨a₀, w₀, hq₀⟩ => ⟨a₀, w₀, hq₀⟩
  have conv : ∀ a' w', wpList P ops (Exit.then (WAK P w0 N ops Q hq fuel (listed.setIfInBounds j true)) Q) [] a' w' → CQ w0 hq w' ∧ wpAnyH P .any ops Q (CQ w0 hq) fuel (listed.setIfInBounds j true) a' w' := by
    intro a' w' hn
    obtain ⟨env', hs', H', n', ha', hf', hsub, rfl, hk⟩ := hn
    exact ⟨⟨H', n', hsub H' hf', rfl⟩, hk a' H' n' ha' hf' (hsub H' hf')⟩
  unfold wpOp
  simp only [hi]
  unfold wpList at h1
  split
  · rename_i hw
    rw [if_pos (by simpa using hw)] at h1
    rcases h1 with h1 | ⟨hasks, hlet⟩
    · refine .inl ?_
      unfold Oper.wp at h1 ⊢
      generalize (execOp a.eval oi).run P (wd w0 H n) = r at h1 ⊢
      cases r with
      | ok x w' =>
        cases x <;> simp only [Oper.upon] at h1 ⊢
        case value v => exact conv _ _ h1
        case skip => exact conv _ _ h1
        case defer d => exact conv _ _ h1
        case enter f args =>
          refine Calls.mono h1 fun e w'' he => ?_
          cases e with
          | returned u => exact conv _ _ he
          | panicked c => exact he
          | outgrown => exact hlo he
        case row row args => exact Rows.mono h1 fun u w'' he => conv _ _ he
      | halt x w' =>
        cases x <;> simp only [Oper.upon] at h1 ⊢
        case panic v => exact h1
    · exact .inr ⟨hasks, hlo hlet⟩
  · rename_i hw
    rw [if_neg (by simpa using hw)] at h1
    exact conv _ _ h1
theorem WA.on {fuel : Nat} {listed : Array Bool} (hsub : HSub hs hq) (k : WA P w0 N ops Q hq fuel listed env hs) : WL P w0 N ops (Exit.then (WAK P w0 N ops Q hq fuel listed) Q) [] env hs :=
  WL.nil fun a H n ha hf => ⟨env, hs, H, n, ha, hf, hsub, rfl, k⟩
/-- All have come up. -/
theorem WA.nil (hr : Region.ready .any ops listed = []) (h : ∀ a H n, Holds N a env → HF H hs → Q .normal a (wd w0 H n)) : WA P w0 N ops Q hq fuel listed env hs :=
  fun a H n ha hf _ => wpAnyH_done hr (h a H n ha hf) fuel
theorem WA.done {y : Code} {Q' : Exit → Act → World → Prop} (hr : Region.ready .any ops listed = []) (h : WC P w0 N y Q' env hs) : WA P w0 N ops (Exit.then (y.wp P Q') Q') hq fuel listed env hs :=
  WA.nil hr fun a H n ha hf => h a H n ha hf
theorem WA.goes {y : Code} {hs2 : Hs} {Q' : Exit → Act → World → Prop} (hr : Region.ready .any ops listed = []) (hq : ∀ a w, Q .normal a w = y.wp P Q' a w) (h : WC P w0 N y Q' env hs) : WA P w0 N ops Q hs2 fuel listed env hs :=
  WA.nil hr fun a H n ha hf => by rw [hq]; exact h a H n ha hf
end
end Go.Pan
