/- The walk's rules for memory: loads, stores, new variables, slices, appends, copies, calls. Nothing of the program stands here. -/
import Derived.Test.YtdapbkdfanlkkaaDoorCoreB
set_option linter.unusedSectionVars false
set_option linter.unusedVariables false
set_option linter.unusedSimpArgs false
namespace Go.Pan
open Go

/-! ### cells of a known block -/
theorem wd_cell {w0 : World} {H : Array Obj} {n b off : Nat} {c : Array Value} {T : TypeId} {fr : Nat × Nat} (h : H[b]? = some (.cells c T fr)) : (wd w0 H n).cell? ⟨b, off, none⟩ = c[off]? := by
  simp [World.cell?, wd, h]
theorem wd_frozen {w0 : World} {H : Array Obj} {n b off : Nat} {c : Array Value} {T : TypeId} (h : H[b]? = some (.cells c T (0, 0))) : (wd w0 H n).frozen? ⟨b, off, none⟩ = false := by
  simp [World.frozen?, wd, h]
theorem wd_setCell {w0 : World} {H : Array Obj} {n b off : Nat} {c : Array Value} {T : TypeId} {fr : Nat × Nat} (h : H[b]? = some (.cells c T fr)) (v : Value) :
    (wd w0 H n).setCell ⟨b, off, none⟩ v = wd w0 (H.setIfInBounds b (.cells (c.setIfInBounds off v) T fr)) n := by
  have hb := (Array.getElem?_eq_some_iff.1 h).1
  have hv := (Array.getElem?_eq_some_iff.1 h).2
  simp only [World.setCell, wd]
  congr 1
  apply Array.ext_getElem?
  intro i
  rw [Array.getElem?_modify]
  by_cases e : b = i
  · subst e
    rw [if_pos rfl, h, Array.getElem?_setIfInBounds_self]
    simp [hb]
  · rw [if_neg e, Array.getElem?_setIfInBounds_ne e]
theorem run_loadAt1 {P : Program} {w0 : World} {H : Array Obj} {n b off : Nat} {c : Array Value} {T : TypeId} {fr : Nat × Nat} {v : Value} (h : H[b]? = some (.cells c T fr)) (hv : c[off]? = some v) :
    (load ⟨b, off, none⟩).run P (wd w0 H n) = .ok v (wd w0 H n) := by
  rw [run_load, wd_cell h, hv]
theorem run_loadCellsFrom {P : Program} {w0 : World} {H : Array Obj} {n b off : Nat} {c : Array Value} {T : TypeId} {fr : Nat × Nat} (h : H[b]? = some (.cells c T fr)) :
    ∀ (k i : Nat) (acc : Array Value), off + i + k ≤ c.size → (loadCellsFrom ⟨b, off, none⟩ i k acc).run P (wd w0 H n) = .ok (acc ++ c.extract (off + i) (off + i + k)) (wd w0 H n)
  | 0, i, acc, _ => by simp [loadCellsFrom]; omega
  | k + 1, i, acc, hle => by
    have hv : c[off + i]? = some c[off + i] := Array.getElem?_eq_getElem (by omega)
    simp only [loadCellsFrom, Sem.run_bind, addr_add, run_loadAt1 h hv, Result.andThen_ok]
    rw [run_loadCellsFrom h k (i + 1) _ (by omega)]
    congr 1
    apply Array.toList_inj.1
    simp only [Array.toList_append, Array.toList_push, Array.toList_extract, List.append_assoc]
    congr 1
    rw [List.extract_eq_take_drop, List.extract_eq_take_drop, show off + i + (k + 1) - (off + i) = k + 1 by omega, show off + (i + 1) + k - (off + (i + 1)) = k by omega]
    rw [List.drop_eq_getElem_cons (i := off + i) (by simpa using (by omega : off + i < c.size)), List.take_succ_cons]
    simp [Nat.add_assoc]
theorem run_loadCells {P : Program} {w0 : World} {H : Array Obj} {n b off k : Nat} {c : Array Value} {T : TypeId} {fr : Nat × Nat} (h : H[b]? = some (.cells c T fr)) (hk : off + k ≤ c.size) :
    (loadCells ⟨b, off, none⟩ k).run P (wd w0 H n) = .ok (c.extract off (off + k)) (wd w0 H n) := by
  unfold loadCells
  rw [run_loadCellsFrom h k 0 #[] (by omega)]
  simp
/-- cells written from a place on -/
def splice (c : Array Value) (off : Nat) : List Value → Array Value
  | [] => c
  | v :: vs => splice (c.setIfInBounds off v) (off + 1) vs
theorem splice_size (c : Array Value) (off : Nat) (vs : List Value) : (splice c off vs).size = c.size := by
  induction vs generalizing c off with
  | nil => rfl
  | cons v vs ih => simp [splice, ih]
theorem splice_get (c : Array Value) (off : Nat) (vs : List Value) (h : off + vs.length ≤ c.size) (i : Nat) : (splice c off vs)[i]? = if off ≤ i ∧ i < off + vs.length then vs[i - off]? else c[i]? := by
  induction vs generalizing c off with
  | nil => simp [splice]; omega
  | cons v vs ih =>
    simp only [splice, List.length_cons] at h ⊢
    rw [ih _ _ (by simp; omega)]
    by_cases h1 : off + 1 ≤ i ∧ i < off + 1 + vs.length
    · rw [if_pos h1, if_pos (by omega), show i - off = (i - (off + 1)) + 1 by omega, List.getElem?_cons_succ]
    · rw [if_neg h1]
      by_cases h2 : i = off
      · subst h2
        rw [if_pos (by omega), Array.getElem?_setIfInBounds_self]
        simp; omega
      · rw [if_neg (by omega), Array.getElem?_setIfInBounds_ne (Ne.symm h2)]
theorem splice_toList (c : Array Value) (off : Nat) (vs : List Value) (h : off + vs.length ≤ c.size) : (splice c off vs).toList = c.toList.take off ++ vs ++ c.toList.drop (off + vs.length) := by
  apply List.ext_getElem?
  intro i
  rw [Array.getElem?_toList, splice_get c off vs h]
  have hl : (c.toList.take off).length = off := by simp; omega
  by_cases h1 : i < off
  · rw [if_neg (by omega), List.append_assoc, List.getElem?_append_left (by omega)]
    simp [h1]
  · by_cases h2 : i < off + vs.length
    · rw [if_pos (by omega), List.append_assoc, List.getElem?_append_right (by omega), hl, List.getElem?_append_left (by omega)]
    · rw [if_neg (by omega), List.append_assoc, List.getElem?_append_right (by omega), hl, List.getElem?_append_right (by omega), List.getElem?_drop, Array.getElem?_toList]
      congr 1; omega
theorem run_storeCells {P : Program} {w0 : World} {n b off : Nat} {T : TypeId} : ∀ (vs : List Value) (i : Nat) {H : Array Obj} {c : Array Value}, H[b]? = some (.cells c T (0, 0)) → off + i + vs.length ≤ c.size → (∀ v ∈ vs, v.oneCell' = true) →
    (storeCells ⟨b, off, none⟩ vs i).run P (wd w0 H n) = .ok () (wd w0 (H.setIfInBounds b (.cells (splice c (off + i) vs) T (0, 0))) n)
  | [], i, H, c, h, _, _ => by
    simp only [storeCells, splice, Sem.run_pure]
    congr 2
    apply Array.ext_getElem?
    intro j
    by_cases e : b = j
    · subst e
      have hb := (Array.getElem?_eq_some_iff.1 h).1
      rw [Array.getElem?_setIfInBounds_self, h]; simp [hb]
    · rw [Array.getElem?_setIfInBounds_ne e]
  | v :: vs, i, H, c, h, hle, hv => by
    simp only [List.length_cons] at hle
    have hx : c[off + i]? = some c[off + i] := Array.getElem?_eq_getElem (by omega)
    have hb := (Array.getElem?_eq_some_iff.1 h).1
    simp only [storeCells, Sem.run_bind, addr_add]
    rw [run_store _ _ _ _ _ (hv v (by simp)), wd_cell h, hx]
    simp only [wd_frozen h, Bool.false_eq_true, if_false, Result.andThen_ok]
    rw [wd_setCell h]
    have h' : (H.setIfInBounds b (.cells (c.setIfInBounds (off + i) v) T (0, 0)))[b]? = some (.cells (c.setIfInBounds (off + i) v) T (0, 0)) := by rw [Array.getElem?_setIfInBounds_self]; simp [hb]
    rw [run_storeCells vs (i + 1) h' (by simp; omega) (fun u hu => hv u (by simp [hu]))]
    congr 2
    simp [splice, Nat.add_assoc]

/-! ### loads and stores -/
def ldv (agg : Bool) (sz : Nat) (c : Array Value) (off : Nat) : Option Value :=
  if agg then (if off + sz ≤ c.size then some (.agg (c.extract off (off + sz))) else none) else c[off]?
section
variable {P : Program} [T : Tab P] {w0 : World} {N : Nat} {ops : Array Oper} {Q : Exit → Act → World → Prop} {env : Env} {hs : Hs} {o : Oper} {rest : List Oper}
theorem run_loadVar {H : Array Obj} {n b off sz : Nat} {t : TypeId} {g : Bool} {c : Array Value} {T' : TypeId} {fr : Nat × Nat} {v : Value} (hl : lk T.T.lay t = some (g, sz)) (h : H[b]? = some (.cells c T' fr)) (hv : ldv g sz c off = some v) :
    (loadVar t ⟨b, off, none⟩).run P (wd w0 H n) = .ok v (wd w0 H n) := by
  obtain ⟨h1, h2⟩ := lay_inf (tab_lay hl)
  unfold loadVar
  simp only [Sem.run_bind, h1, Result.andThen_ok]
  cases g with
  | false =>
    simp only [ldv, Bool.false_eq_true, if_false] at hv
    simp only [Bool.false_eq_true, if_false]
    exact run_loadAt1 h hv
  | true =>
    simp only [ldv, if_true] at hv
    split at hv
    · rename_i hle
      simp only [Option.some.injEq] at hv
      subst hv
      simp only [if_true, Sem.run_bind, h2, Result.andThen_ok, run_loadCells h hle, Sem.run_pure]
    · cases hv
/-- What a load at a place finds. -/
inductive LdAt (b off : Nat) (g : Bool) (sz : Nat) (v : Value) : Hs → Prop
  | head {c T fr hs} (h : ldv g sz c off = some v) : LdAt b off g sz v ((b, .cells c T fr) :: hs)
  | tail {p hs} : LdAt b off g sz v hs → LdAt b off g sz v (p :: hs)
  | right {xs hs} : LdAt b off g sz v hs → LdAt b off g sz v (xs ++ hs)
  | mem {c T fr hs} (hm : Mem b (.cells c T fr) hs) (h : ldv g sz c off = some v) : LdAt b off g sz v hs
theorem LdAt.out {b off : Nat} {g : Bool} {sz : Nat} {v : Value} {hs : Hs} (h : LdAt b off g sz v hs) : ∃ c T fr, Mem b (.cells c T fr) hs ∧ ldv g sz c off = some v := by
  induction h with
  | head h => exact ⟨_, _, _, .head, h⟩
  | tail _ ih => obtain ⟨c, T, fr, h1, h2⟩ := ih; exact ⟨c, T, fr, .tail h1, h2⟩
  | right _ ih => obtain ⟨c, T, fr, h1, h2⟩ := ih; exact ⟨c, T, fr, .right h1, h2⟩
  | mem hm h => exact ⟨_, _, _, hm, h⟩
theorem WL.load {d : Tmp} {t : TypeId} {x : Operand} {b off sz : Nat} {g : Bool} {v : Value} (ho : o.op = .load t x) (hx : evo env x = some (.pointer (some ⟨b, off, none⟩))) (hl : lk T.T.lay t = some (g, sz))
    (hm : LdAt b off g sz v hs) (hg : guardE ops env o = some true) (hdd : o.dst = some d) (hd : Nat.blt d N = true) (k : WL P w0 N ops Q rest ((d, v) :: env) hs) : WL P w0 N ops Q (o :: rest) env hs := by
  obtain ⟨c, T', fr, hm, hv⟩ := hm.out
  refine WL.val hg (dst_ok hdd hd) (fun a H n ha hf => ⟨H, n, ?_, hf⟩) (by rw [hdd]; exact k)
  simp [execOp, ho, ha.eval hx, Instr.loadAt, Instr.sureAddr, run_loadVar hl (hm.at_ hf) hv]
theorem WL.store {t : TypeId} {x y : Operand} {b off sz : Nat} {g : Bool} {c : Array Value} {T' : TypeId} {v : Value} {hs' : Hs} (ho : o.op = .store t x y) (hx : evo env x = some (.pointer (some ⟨b, off, none⟩))) (hy : evo env y = some v) (hl : lk T.T.lay t = some (g, sz))
    (hsz : v.cells.size = sz) (hone : ∀ u ∈ v.cells.toList, u.oneCell' = true) (hm : Upd b (.cells c T' (0, 0)) (.cells (splice c off v.cells.toList) T' (0, 0)) hs hs') (hle : off + sz ≤ c.size)
    (hg : guardE ops env o = some true) (hd : dstOk N o.dst = true) (k : WL P w0 N ops Q rest (putE o.dst undef env) hs') : WL P w0 N ops Q (o :: rest) env hs := by
  refine WL.skp hg hd (fun a H n ha hf => ⟨_, n, ?_, hf.upd hm⟩) k
  obtain ⟨_, h2⟩ := lay_inf (tab_lay hl)
  have hr := run_storeCells (P := P) (w0 := w0) (n := n) (off := off) v.cells.toList 0 (hm.mem.at_ hf) (by simp [hsz]; omega) hone
  simp [execOp, ho, ha.eval hx, ha.eval hy, Instr.storeAt, Instr.sureAddr, storeVar, h2, hsz, hr]
/-- A new variable, of the zero value. -/
theorem WL.alloc {d : Tmp} {t : TypeId} {z : Value} (ho : o.op = .alloc t) (hz : lk T.T.zro t = some z) (hg : guardE ops env o = some true) (hdd : o.dst = some d) (hd : Nat.blt d N = true)
    (k : ∀ b, WL P w0 N ops Q rest ((d, (.pointer (some ⟨b, 0, none⟩))) :: env) ((b, .cells z.cells t (0, 0)) :: hs)) : WL P w0 N ops Q (o :: rest) env hs := by
  refine WL.valR (fun v h' => ∃ b, v = .pointer (some ⟨b, 0, none⟩) ∧ h' = (b, .cells z.cells t (0, 0)) :: hs) hg (dst_ok hdd hd) (fun a H n ha hf => ⟨_, _, n, _, ?_, hf.push _, _, rfl, rfl⟩) (fun v h' ⟨b, h1, h2⟩ => by subst h1; subst h2; rw [hdd]; exact k b)
  obtain ⟨i, hi, hzi⟩ := zro_inf (tab_zro hz)
  simp [execOp, ho, Instr.alloc, zeroValue, typeInfo, hi, hzi, newVar, newRow, wd]
  rfl
/-- A new variable, of a value. -/
theorem WL.box {d : Tmp} {t : TypeId} {x : Operand} {v : Value} (ho : o.op = .box t x) (hx : evo env x = some v) (hg : guardE ops env o = some true) (hdd : o.dst = some d) (hd : Nat.blt d N = true)
    (k : ∀ b, WL P w0 N ops Q rest ((d, (.pointer (some ⟨b, 0, none⟩))) :: env) ((b, .cells v.cells t (0, 0)) :: hs)) : WL P w0 N ops Q (o :: rest) env hs := by
  refine WL.valR (fun v' h' => ∃ b, v' = .pointer (some ⟨b, 0, none⟩) ∧ h' = (b, .cells v.cells t (0, 0)) :: hs) hg (dst_ok hdd hd) (fun a H n ha hf => ⟨_, _, n, _, ?_, hf.push _, _, rfl, rfl⟩) (fun v h' ⟨b, h1, h2⟩ => by subst h1; subst h2; rw [hdd]; exact k b)
  simp [execOp, ho, ha.eval hx, Instr.box, newVar, newRow, wd]
  rfl
/-- A call. -/
theorem WL.call {d : Tmp} {c : Call} {f : FuncId} {vs : List Value} {R : Value → Hs → Prop} (ho : o.op = .call c) (hc : c.callee = .value (.func f)) (hx : evs env c.args.toList = some vs) (hrun : ∀ args w, (callFunc f args).run P w = .ok (.enter f args) w)
    (hcall : CallsF P f vs w0 hs R) (hg : guardE ops env o = some true) (hdd : o.dst = some d) (hd : Nat.blt d N = true)
    (k : ∀ v hs', R v hs' → WL P w0 N ops Q rest ((d, v) :: env) hs') : WL P w0 N ops Q (o :: rest) env hs := by
  intro a H n ha hf
  have hw := guardE_wanted ha hg
  have hargs : c.args.map a.eval = vs.toArray := by
    apply Array.toList_inj.1
    rw [Array.toList_map, ha.evals hx]
  unfold wpList
  rw [if_pos (by simp [hw])]
  refine .inl ?_
  unfold Oper.wp
  have hr : (execOp a.eval o).run P (wd w0 H n) = .ok (.enter f vs.toArray) (wd w0 H n) := by
    simp [execOp, ho, resolve, hc, hargs, Act.eval, Deferred.ofValue, invoke, hrun]
  rw [hr]
  exact (hcall H n hf).mono fun e w' ⟨v, H', n', hs', he, hw', hf', hR⟩ => by
    subst he; subst hw'
    exact (show WL P w0 N ops Q rest (putE o.dst v env) hs' by rw [hdd]; exact k v hs' hR) _ H' n' (ha.put (dst_ok hdd hd) _) hf'
/-- A call of a function value that holds a function and what it has caught. -/
theorem WL.callv {d : Tmp} {c : Call} {x : Operand} {f : FuncId} {cap : Array Value} {vs : List Value} {R : Value → Hs → Prop} (ho : o.op = .call c) (hc : c.callee = .value x) (hxf : evo env x = some (.func (.func f) #[] cap)) (hx : evs env c.args.toList = some vs) (hrun : ∀ args w, (callFunc f args).run P w = .ok (.enter f args) w)
    (hcall : CallsF P f (vs ++ cap.toList) w0 hs R) (hg : guardE ops env o = some true) (hdd : o.dst = some d) (hd : Nat.blt d N = true)
    (k : ∀ v hs', R v hs' → WL P w0 N ops Q rest ((d, v) :: env) hs') : WL P w0 N ops Q (o :: rest) env hs := by
  intro a H n ha hf
  have hw := guardE_wanted ha hg
  have hargs : c.args.map a.eval = vs.toArray := by
    apply Array.toList_inj.1
    rw [Array.toList_map, ha.evals hx]
  unfold wpList
  rw [if_pos (by simp [hw])]
  refine .inl ?_
  unfold Oper.wp
  have hr : (execOp a.eval o).run P (wd w0 H n) = .ok (.enter f (vs ++ cap.toList).toArray) (wd w0 H n) := by
    simp [execOp, ho, resolve, hc, hargs, ha.eval hxf, Deferred.ofValue, invoke, hrun]
  rw [hr]
  exact (hcall H n hf).mono fun e w' ⟨v, H', n', hs', he, hw', hf', hR⟩ => by
    subst he; subst hw'
    exact (show WL P w0 N ops Q rest (putE o.dst v env) hs' by rw [hdd]; exact k v hs' hR) _ H' n' (ha.put (dst_ok hdd hd) _) hf'
end

/-! ### what a function hands back -/
section
variable {P : Program} [T : Tab P] {w0 : World} {N : Nat} {env : Env} {hs : Hs} {fn : Func} {R : Value → Hs → Prop}
theorem post_of {a : Act} {H : Array Obj} {n : Nat} {v : Value} (ha : Holds N a env) (hf : HF H hs) (hr : (results fn a.tmps).run P (wd w0 H n) = .ok v (wd w0 H n)) (h : R v hs) : Post P fn w0 R .ret a (wd w0 H n) :=
  ⟨ha.defs, v, hr, v, H, n, hs, rfl, rfl, hf, h⟩
def resE (env : Env) : List ResultVar → Option (List Value)
  | [] => some []
  | .tmp t :: rs => match get env t, resE env rs with
    | some v, some vs => some (v :: vs)
    | _, _ => none
  | _ => none
def tupV : List Value → Value
  | [v] => v
  | vs => .tuple vs.toArray
def resM (a : Act) : ResultVar → Sem Value
  | .tmp t => pure (a.tmps.getD t undef)
  | .cell a' t => do loadVar t (← asAddr (a.tmps.getD a' undef))
theorem resE_run {a : Act} (ha : Holds N a env) : ∀ {rs : List ResultVar} {vs : List Value}, resE env rs = some vs → ∀ w, (rs.mapM (resM a)).run P w = .ok vs w
  | [], vs, h, w => by simp [resE] at h; subst h; simp
  | .tmp t :: rs, vs, h, w => by
    simp only [resE] at h
    split at h
    · rename_i v us h1 h2
      simp only [Option.some.injEq] at h
      subst h
      have := ha.vals t v h1
      have ht : a.tmps.getD t undef = v := by rw [Array.getD_eq_getD_getElem?, this]; rfl
      rw [List.mapM_cons]
      simp only [resM, ht, Sem.run_bind, Sem.run_pure, Result.andThen_ok, resE_run ha h2]
    · cases h
  | .cell _ _ :: rs, vs, h, w => by simp [resE] at h
theorem post_ret {a : Act} {H : Array Obj} {n : Nat} {vs : List Value} (ha : Holds N a env) (hf : HF H hs) (hr : resE env fn.results.toList = some vs) (h : R (tupV vs) hs) : Post P fn w0 R .ret a (wd w0 H n) := by
  refine post_of ha hf ?_ h
  have hm := resE_run (P := P) ha hr (wd w0 H n)
  have hm' : (fn.results.mapM (resM a)).run P (wd w0 H n) = .ok vs.toArray (wd w0 H n) := by
    rw [Array.mapM_eq_mapM_toList, Sem.run_map, hm]
    rfl
  have he : results fn a.tmps = (do let vs ← fn.results.mapM (resM a); pure (if h : vs.size = 1 then vs[0] else .tuple vs)) := by
    unfold results
    congr 1
  rw [he, Sem.run_bind, hm', Result.andThen_ok, Sem.run_pure]
  congr 1
  match vs with
  | [] => rfl
  | [v] => rfl
  | _ :: _ :: _ => simp [tupV]
/-- The end of a function whose results stand in slots. -/
theorem WC.done {Q : Exit → Act → World → Prop} {vs : List Value} (hq : ∀ a w, Q .ret a w = Post P fn w0 R .ret a w) (hr : resE env fn.results.toList = some vs) (h : R (tupV vs) hs) : WC P w0 N .ret Q env hs :=
  WC.ret fun a H n ha hf => by rw [hq]; exact post_ret ha hf hr h
end
end Go.Pan
