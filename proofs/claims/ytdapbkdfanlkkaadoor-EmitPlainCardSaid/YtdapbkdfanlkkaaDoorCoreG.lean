/- The walk's rules for rows of bytes, unrolled loops, and guards that part the ways. Nothing of the program stands here. -/
import Derived.Test.YtdapbkdfanlkkaaDoorCoreF
set_option linter.unusedSectionVars false
set_option linter.unusedVariables false
set_option linter.unusedSimpArgs false
namespace Go.Pan
open Go

/-- bytes laid over others from a place on -/
def put8 (l : List UInt8) (off : Nat) (m : List UInt8) : List UInt8 := l.take off ++ m ++ l.drop (off + m.length)
theorem put8_length {l : List UInt8} {off : Nat} {m : List UInt8} (h : off + m.length ≤ l.length) : (put8 l off m).length = l.length := by
  simp [put8]; omega
theorem splice_enc8 {l : List UInt8} {off : Nat} {m : List UInt8} (h : off + m.length ≤ l.length) : splice (enc8 l).toArray off (enc8 m) = (enc8 (put8 l off m)).toArray := by
  apply Array.toList_inj.1
  rw [splice_toList _ _ _ (by simp [enc8]; omega)]
  simp [put8, enc8, List.map_take, List.map_drop]
theorem made_enc8 (n : Nat) : madeCells (Value.int .u8 0).cells n = (enc8 (List.replicate n 0)).toArray := by
  apply Array.toList_inj.1
  simp only [madeCells, Value.cells, enc8]
  apply List.ext_getElem
  · simp
  · intro i h1 h2
    simp [Nat.mod_one]
theorem take_enc8 (l : List UInt8) (k : Nat) : (enc8 l).take k = enc8 (l.take k) := by simp [enc8, List.map_take]
theorem drop_enc8 (l : List UInt8) (k : Nat) : (enc8 l).drop k = enc8 (l.drop k) := by simp [enc8, List.map_drop]
/-- A row of bytes of a block that is known whole. -/
theorem rd8_whole {hs : Hs} {b cap : Nat} {l : List UInt8} {T : TypeId} {fr : Nat × Nat} (hm : Mem b (.cells (enc8 l).toArray T fr) hs) {n : Nat} (hn : n = l.length) (hc : n ≤ cap) : Rd hs 1 (.slice (some ⟨b, 0, none⟩) n cap) (enc8 l) := by
  subst hn
  exact ⟨_, _, _, rfl, by simp [enc8], hc, fun _ => ⟨b, 0, _, T, fr, rfl, hm, fun j hj => by simp⟩⟩
theorem own8_whole {b cap : Nat} {l : List UInt8} {T : TypeId} {n : Nat} (hn : n = l.length) (hc : cap = n) : Own T 1 (.slice (some ⟨b, 0, none⟩) n cap) (enc8 l) [(b, .cells (enc8 l).toArray T (0, 0))] := by
  subst hn; subst hc
  exact .inr ⟨b, 0, _, _, _, rfl, rfl, by simp [enc8], Nat.le_refl _, by simp [enc8], fun j hj => by simp⟩
theorem rd8_str (hs : Hs) (l : List UInt8) : True := trivial
theorem newsS {P : Program} {hs : Hs} {t2 : TypeId} {s : ByteArray} (h : prmOf P t2 = some .string) : News P hs 1 t2 (.string s) s.size (enc8 s.data.toList) :=
  ⟨enc8_one _, .inr ⟨(prm_und h).1, rfl, s, rfl, rfl, rfl⟩⟩
theorem newsL {P : Program} {hs : Hs} {t2 : TypeId} {q : Nat × Nat × Nat} {A : Option Addr} {m cap sz : Nat} {cs : List Value} (h : elmOf P t2 = some q) (h1 : ∀ u ∈ cs, u.oneCell' = true) (hr : Rd hs sz (.slice A m cap) cs) : News P hs sz t2 (.slice A m cap) m cs :=
  ⟨h1, .inl ⟨⟨_, (elm_und (e := q.1) (s := q.2.1) (b := q.2.2) h).1⟩, ⟨A, cap, rfl⟩, hr⟩⟩
section
variable {P : Program} [T : Tab P] {w0 : World} {N : Nat} {ops : Array Oper} {Q : Exit → Act → World → Prop} {env : Env} {hs : Hs} {o : Oper} {rest : List Oper}
/-- So many rounds, one by one. -/
def WR (P : Program) (w0 : World) (N : Nat) (c : Code) (Q : Exit → Act → World → Prop) (k : Nat) (env : Env) (hs : Hs) : Prop :=
  ∀ a H n, Holds N a env → HF H hs → Code.rounds P c Q k a (wd w0 H n)
theorem WC.rounds {c : Code} (k : Nat) (h : WR P w0 N c Q k env hs) : WC P w0 N (.loop c) Q env hs := fun a H n ha hf => wp_loop_rounds k (h a H n ha hf)
theorem WR.succ {c : Code} {k : Nat} (h : WC P w0 N c (Exit.then (Code.rounds P c Q k) Q) env hs) : WR P w0 N c Q (k + 1) env hs := fun a H n ha hf => h a H n ha hf
theorem WL.round {c : Code} {k : Nat} {Q' : Exit → Act → World → Prop} (hq : ∀ a w, Q' .normal a w = Code.rounds P c Q k a w) (h : WR P w0 N c Q k env hs) : WL P w0 N ops Q' [] env hs :=
  WL.nil fun a H n ha hf => by rw [hq]; exact h a H n ha hf
theorem WC.round {c : Code} {k : Nat} {Q' : Exit → Act → World → Prop} (hq : ∀ a w, Q' .normal a w = Code.rounds P c Q k a w) (h : WR P w0 N c Q k env hs) : WC P w0 N .skip Q' env hs :=
  WC.skip fun a H n ha hf => by rw [hq]; exact h a H n ha hf
theorem WQ.round {c : Code} {k : Nat} {Q' : Exit → Act → World → Prop} (hq : ∀ a w, Q' .normal a w = Code.rounds P c Q k a w) (h : WR P w0 N c Q k env hs) : WQ P w0 N ops (fun a => ∀ w', CQ w0 hs w' → Q' .normal a w') [] env hs :=
  WQ.nil fun a H n ha hf => by rw [hq]; exact h a H n ha hf
/-- A guard that isn't known: both ways. -/
theorem WL.split {b : Bool} {d : Tmp} {j : Nat} {want : Bool} (hgd : o.guard = some (j, want)) (hdj : (ops[j]?).bind (·.dst) = some d) (hb : get env d = some (.bool b))
    (ht : b = true → WL P w0 N ops Q (o :: rest) ((d, .bool true) :: env) hs) (hf : b = false → WL P w0 N ops Q (o :: rest) ((d, .bool false) :: env) hs) : WL P w0 N ops Q (o :: rest) env hs := by
  have key : ∀ c : Bool, b = c → WL P w0 N ops Q (o :: rest) ((d, .bool c) :: env) hs → WL P w0 N ops Q (o :: rest) env hs := by
    intro c hc h a H n ha hfr
    subst hc
    refine h a H n ⟨ha.size, ha.defs, fun t v hv => ?_⟩ hfr
    simp only [get] at hv
    cases hbt : Nat.beq d t with
    | true =>
      rw [hbt] at hv
      obtain rfl := Nat.eq_of_beq_eq_true hbt
      simp only [cond_true, Option.some.injEq] at hv
      subst hv
      exact ha.vals _ _ hb
    | false =>
      rw [hbt] at hv
      exact ha.vals _ _ hv
  cases hb' : b with
  | true => exact key true hb' (ht hb')
  | false => exact key false hb' (hf hb')
theorem WL.splitP {p : Prop} [Decidable p] {d : Tmp} {j : Nat} {want : Bool} (hgd : o.guard = some (j, want)) (hdj : (ops[j]?).bind (·.dst) = some d) (hb : get env d = some (.bool (decide p)))
    (ht : p → WL P w0 N ops Q (o :: rest) ((d, .bool true) :: env) hs) (hf : ¬ p → WL P w0 N ops Q (o :: rest) ((d, .bool false) :: env) hs) : WL P w0 N ops Q (o :: rest) env hs :=
  WL.split hgd hdj hb (fun h => ht (of_decide_eq_true h)) (fun h => hf (of_decide_eq_false h))
/-- A byte is stored into a row of bytes. -/
theorem WL.store8 {t : TypeId} {x y : Operand} {b off : Nat} {l : List UInt8} {T' : TypeId} {v : UInt8} {i : Int} {hs' : Hs} (ho : o.op = .store t x y) (hx : evo env x = some (.pointer (some ⟨b, off, none⟩))) (hy : evo env y = some (.int .u8 i)) (hi : i = v.toNat) (hl : lk T.T.lay t = some (false, 1))
    (hm : Upd b (.cells (enc8 l).toArray T' (0, 0)) (.cells (enc8 (put8 l off [v])).toArray T' (0, 0)) hs hs') (hle : off + 1 ≤ l.length)
    (hg : guardE ops env o = some true) (hd : dstOk N o.dst = true) (k : WL P w0 N ops Q rest (putE o.dst undef env) hs') : WL P w0 N ops Q (o :: rest) env hs := by
  subst hi
  refine WL.store (T' := T') ho hx hy hl rfl (by intro u hu; simp only [Value.cells, List.mem_singleton] at hu; subst hu; rfl) ?_ (by rw [List.size_toArray, enc8_length]; exact hle) hg hd k
  have : splice (enc8 l).toArray off (Value.cells (.int .u8 v.toNat)).toList = (enc8 (put8 l off [v])).toArray := splice_enc8 (m := [v]) (by simpa using hle)
  rw [this]
  exact hm
/-- copy into a row of bytes. -/
theorem WL.copy8 {c : Call} {t t2 e by_ : Nat} {T' b off n cap m : Nat} {l new : List UInt8} {x : Value} {hs' : Hs} {k : Nat} (ho : o.op = .call c) (hc : c.callee = .builtin .copy) (hx : evs env c.args.toList = some [.slice (some ⟨b, off, none⟩) n cap, x]) (hat : c.argTypes = #[t, t2])
    (ht : lk T.T.elm t = some (e, 1, by_)) (hnew : News P hs 1 t2 x m (enc8 new)) (hk : min m n = k) (hm : Upd b (.cells (enc8 l).toArray T' (0, 0)) (.cells (enc8 (put8 l off (new.take k))).toArray T' (0, 0)) hs hs') (hle : off + k ≤ l.length)
    (hg : guardE ops env o = some true) (hd : dstOk N o.dst = true) (kk : WL P w0 N ops Q rest (putE o.dst (.int .i64 k) env) hs') : WL P w0 N ops Q (o :: rest) env hs := by
  refine WL.copy (T' := T') ho hc hx hat ht hnew hk ?_ (by rw [List.size_toArray, enc8_length]; exact hle) hg hd kk
  rw [take_enc8, splice_enc8]
  · exact hm
  · have : (new.take k).length ≤ k := by simp; omega
    omega

/-- A whole block. -/
inductive AllAt (b sz : Nat) (c : Array Value) : Hs → Prop
  | head {T fr hs} (h : c.size = sz) : AllAt b sz c ((b, .cells c T fr) :: hs)
  | tail {p hs} : AllAt b sz c hs → AllAt b sz c (p :: hs)
  | right {xs hs} : AllAt b sz c hs → AllAt b sz c (xs ++ hs)
theorem AllAt.ld {b sz : Nat} {c : Array Value} {hs : Hs} (h : AllAt b sz c hs) : LdAt b 0 true sz (.agg c) hs := by
  induction h with
  | head h => exact .head (by subst h; simp [ldv])
  | tail _ ih => exact .tail ih
  | right _ ih => exact .right ih
/-- A whole block is loaded. -/
theorem WL.loadAll {d : Tmp} {t : TypeId} {x : Operand} {b sz : Nat} {c : Array Value} (ho : o.op = .load t x) (hx : evo env x = some (.pointer (some ⟨b, 0, none⟩))) (hl : lk T.T.lay t = some (true, sz))
    (hm : AllAt b sz c hs) (hg : guardE ops env o = some true) (hdd : o.dst = some d) (hd : Nat.blt d N = true) (k : WL P w0 N ops Q rest ((d, .agg c) :: env) hs) : WL P w0 N ops Q (o :: rest) env hs :=
  WL.load ho hx hl hm.ld hg hdd hd k
theorem WQ.loadAll {K : Act → Prop} {d : Tmp} {t : TypeId} {x : Operand} {b sz : Nat} {c : Array Value} (ho : o.op = .load t x) (hx : evo env x = some (.pointer (some ⟨b, 0, none⟩))) (hl : lk T.T.lay t = some (true, sz))
    (hm : AllAt b sz c hs) (hg : guardE ops env o = some true) (hdd : o.dst = some d) (hd : Nat.blt d N = true) (k : WQ P w0 N ops K rest ((d, .agg c) :: env) hs) : WQ P w0 N ops K (o :: rest) env hs :=
  WQ.load ho hx hl hm.ld hg hdd hd k
/-- A call of a function without a body. -/
theorem WL.ext {d : Tmp} {c : Call} {f : FuncId} {vs : List Value} {v : Value} (ho : o.op = .call c) (hc : c.callee = .value (.func f)) (hx : evs env c.args.toList = some vs) (hrun : ∀ w, (callFunc f vs.toArray).run P w = .ok (.value v) w)
    (hg : guardE ops env o = some true) (hdd : o.dst = some d) (hd : Nat.blt d N = true) (k : WL P w0 N ops Q rest ((d, v) :: env) hs) : WL P w0 N ops Q (o :: rest) env hs := by
  refine WL.valP hg (dst_ok hdd hd) (fun a w ha => ?_) (by rw [hdd]; exact k)
  have hargs : c.args.map a.eval = vs.toArray := by
    apply Array.toList_inj.1
    rw [Array.toList_map, ha.evals hx]
  simp [execOp, ho, resolve, hc, hargs, Act.eval, Deferred.ofValue, invoke, hrun]
end
/-- As many operations that only reckon as stand at the head. -/
def runP (T : TT) (N : Nat) (ops : Array Oper) : List Oper → Env → Option (List Oper × Env)
  | [], env => some ([], env)
  | o :: rest, env => match guardE ops env o with
    | some true => match o.dst, pv T env o.op with
      | some d, some v => match Nat.blt d N with
        | true => runP T N ops rest ((d, v) :: env)
        | false => some (o :: rest, env)
      | _, _ => some (o :: rest, env)
    | some false => match dstOk N o.dst with
      | true => runP T N ops rest (putE o.dst undef env)
      | false => some (o :: rest, env)
    | none => some (o :: rest, env)
section
variable {P : Program} [T : Tab P] {w0 : World} {N : Nat} {ops : Array Oper} {Q : Exit → Act → World → Prop} {env : Env} {hs : Hs} {o : Oper} {rest : List Oper}
theorem runP_WL : ∀ (l : List Oper) (env : Env) (l' : List Oper) (env' : Env), runP T.T N ops l env = some (l', env') → WL P w0 N ops Q l' env' hs → WL P w0 N ops Q l env hs
  | [], env, l', env', e, h => by
    simp only [runP, Option.some.injEq, Prod.mk.injEq] at e
    obtain ⟨e1, e2⟩ := e; subst e1; subst e2; exact h
  | o :: rest, env, l', env', e, h => by
    unfold runP at e
    split at e
    · rename_i hg
      split at e
      · rename_i d v hd hv
        split at e
        · rename_i hb
          exact WL.pure hv hg hd hb (runP_WL rest _ _ _ e h)
        · simp only [Option.some.injEq, Prod.mk.injEq] at e
          obtain ⟨e1, e2⟩ := e; subst e1; subst e2; exact h
      · simp only [Option.some.injEq, Prod.mk.injEq] at e
        obtain ⟨e1, e2⟩ := e; subst e1; subst e2; exact h
    · rename_i hg
      split at e
      · rename_i hb
        exact WL.pass hg hb (runP_WL rest _ _ _ e h)
      · simp only [Option.some.injEq, Prod.mk.injEq] at e
        obtain ⟨e1, e2⟩ := e; subst e1; subst e2; exact h
    · simp only [Option.some.injEq, Prod.mk.injEq] at e
      obtain ⟨e1, e2⟩ := e; subst e1; subst e2; exact h
theorem WL.pures {d : Tmp} {v : Value} {l : List Oper} {env' : Env} (h : pv T.T env o.op = some v) (hg : guardE ops env o = some true) (hdd : o.dst = some d) (hd : Nat.blt d N = true)
    (hr : runP T.T N ops rest ((d, v) :: env) = some (l, env')) (k : WL P w0 N ops Q l env' hs) : WL P w0 N ops Q (o :: rest) env hs :=
  WL.pure h hg hdd hd (runP_WL rest _ _ _ hr k)
theorem runP_WQ {K : Act → Prop} : ∀ (l : List Oper) (env : Env) (l' : List Oper) (env' : Env), runP T.T N ops l env = some (l', env') → WQ P w0 N ops K l' env' hs → WQ P w0 N ops K l env hs
  | [], env, l', env', e, h => by
    simp only [runP, Option.some.injEq, Prod.mk.injEq] at e
    obtain ⟨e1, e2⟩ := e; subst e1; subst e2; exact h
  | o :: rest, env, l', env', e, h => by
    unfold runP at e
    split at e
    · rename_i hg
      split at e
      · rename_i d v hd hv
        split at e
        · rename_i hb
          exact WQ.pure hv hg hd hb (runP_WQ rest _ _ _ e h)
        · simp only [Option.some.injEq, Prod.mk.injEq] at e
          obtain ⟨e1, e2⟩ := e; subst e1; subst e2; exact h
      · simp only [Option.some.injEq, Prod.mk.injEq] at e
        obtain ⟨e1, e2⟩ := e; subst e1; subst e2; exact h
    · rename_i hg
      split at e
      · rename_i hb
        exact WQ.pass hg hb (runP_WQ rest _ _ _ e h)
      · simp only [Option.some.injEq, Prod.mk.injEq] at e
        obtain ⟨e1, e2⟩ := e; subst e1; subst e2; exact h
    · simp only [Option.some.injEq, Prod.mk.injEq] at e
      obtain ⟨e1, e2⟩ := e; subst e1; subst e2; exact h
theorem WQ.pures {K : Act → Prop} {d : Tmp} {v : Value} {l : List Oper} {env' : Env} (h : pv T.T env o.op = some v) (hg : guardE ops env o = some true) (hdd : o.dst = some d) (hd : Nat.blt d N = true)
    (hr : runP T.T N ops rest ((d, v) :: env) = some (l, env')) (k : WQ P w0 N ops K l env' hs) : WQ P w0 N ops K (o :: rest) env hs :=
  WQ.pure h hg hdd hd (runP_WQ rest _ _ _ hr k)
/-! ### calls whose contracts have a common form -/
/-- The callee hands back r; the memory is as it was. -/
def Same (r : Value) (hs : Hs) (v : Value) (hs' : Hs) : Prop := v = r ∧ hs' = hs
/-- The callee hands back f b; b is a new block. -/
def New1 (f : Nat → Value) (g : Nat → Obj) (hs : Hs) (v : Value) (hs' : Hs) : Prop := ∃ b, v = f b ∧ hs' = (b, g b) :: hs
theorem WL.callS {d : Tmp} {c : Call} {f : FuncId} {vs : List Value} {r : Value} (ho : o.op = .call c) (hc : c.callee = .value (.func f)) (hx : evs env c.args.toList = some vs) (hrun : ∀ args w, (callFunc f args).run P w = .ok (.enter f args) w)
    (hcall : CallsF P f vs w0 hs (Same r hs)) (hg : guardE ops env o = some true) (hdd : o.dst = some d) (hd : Nat.blt d N = true) (k : WL P w0 N ops Q rest ((d, r) :: env) hs) : WL P w0 N ops Q (o :: rest) env hs :=
  WL.call ho hc hx hrun hcall hg hdd hd (fun v hs' ⟨h1, h2⟩ => by subst h1; subst h2; exact k)
theorem WL.callN {d : Tmp} {c : Call} {f : FuncId} {vs : List Value} {r : Nat → Value} {g : Nat → Obj} (ho : o.op = .call c) (hc : c.callee = .value (.func f)) (hx : evs env c.args.toList = some vs) (hrun : ∀ args w, (callFunc f args).run P w = .ok (.enter f args) w)
    (hcall : CallsF P f vs w0 hs (New1 r g hs)) (hg : guardE ops env o = some true) (hdd : o.dst = some d) (hd : Nat.blt d N = true) (k : ∀ b, WL P w0 N ops Q rest ((d, r b) :: env) ((b, g b) :: hs)) : WL P w0 N ops Q (o :: rest) env hs :=
  WL.call ho hc hx hrun hcall hg hdd hd (fun v hs' ⟨b, h1, h2⟩ => by subst h1; subst h2; exact k b)
theorem WL.callvS {d : Tmp} {c : Call} {x : Operand} {f : FuncId} {cap : Array Value} {vs : List Value} {r : Value} (ho : o.op = .call c) (hc : c.callee = .value x) (hxf : evo env x = some (.func (.func f) #[] cap)) (hx : evs env c.args.toList = some vs) (hrun : ∀ args w, (callFunc f args).run P w = .ok (.enter f args) w)
    (hcall : CallsF P f (vs ++ cap.toList) w0 hs (Same r hs)) (hg : guardE ops env o = some true) (hdd : o.dst = some d) (hd : Nat.blt d N = true) (k : WL P w0 N ops Q rest ((d, r) :: env) hs) : WL P w0 N ops Q (o :: rest) env hs :=
  WL.callv ho hc hxf hx hrun hcall hg hdd hd (fun v hs' ⟨h1, h2⟩ => by subst h1; subst h2; exact k)
theorem WQ.callS {K : Act → Prop} {d : Tmp} {c : Call} {f : FuncId} {vs : List Value} {r : Value} (ho : o.op = .call c) (hc : c.callee = .value (.func f)) (hx : evs env c.args.toList = some vs) (hrun : ∀ args w, (callFunc f args).run P w = .ok (.enter f args) w)
    (hcall : CallsF P f vs w0 hs (Same r hs)) (hg : guardE ops env o = some true) (hdd : o.dst = some d) (hd : Nat.blt d N = true) (k : WQ P w0 N ops K rest ((d, r) :: env) hs) : WQ P w0 N ops K (o :: rest) env hs :=
  WQ.call ho hc hx hrun (hcall.mono fun v hs' ⟨h1, h2⟩ => ⟨h1, by rw [h2]; exact .refl _⟩) hg hdd hd k
/-- The callee's memory is forgotten. -/
theorem WQ.callF {K : Act → Prop} {d : Tmp} {c : Call} {f : FuncId} {vs : List Value} {r : Value} {R : Value → Hs → Prop} (ho : o.op = .call c) (hc : c.callee = .value (.func f)) (hx : evs env c.args.toList = some vs) (hrun : ∀ args w, (callFunc f args).run P w = .ok (.enter f args) w)
    (hcall : CallsF P f vs w0 hs R) (hR : ∀ v hs', R v hs' → v = r ∧ HSub hs' hs) (hg : guardE ops env o = some true) (hdd : o.dst = some d) (hd : Nat.blt d N = true) (k : WQ P w0 N ops K rest ((d, r) :: env) hs) : WQ P w0 N ops K (o :: rest) env hs :=
  WQ.call ho hc hx hrun (hcall.mono hR) hg hdd hd k
end
end Go.Pan
