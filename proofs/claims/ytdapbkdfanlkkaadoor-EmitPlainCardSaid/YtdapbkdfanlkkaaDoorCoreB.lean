/- The walk's rules for single operations: those that reckon, loads, stores, new variables, calls. Nothing of the program stands here. -/
import Derived.Test.YtdapbkdfanlkkaaDoorCoreA
set_option linter.unusedSectionVars false
set_option linter.unusedVariables false
set_option linter.unusedSimpArgs false
namespace Go.Pan
open Go

/-! ### what is known of the types -/
structure TT where
  lay : List (Nat × (Bool × Nat))                 -- a struct or an array? its cells
  fld : List (Nat × List (Nat × Nat))             -- a struct's fields: offset and cells
  elm : List (Nat × (Nat × Nat × Nat))            -- a slice's element type, its cells and bytes
  arr : List (Nat × (Nat × Nat × Nat))            -- an array's length, element type, the element's cells
  zro : List (Nat × Value)                        -- the zero value
  prm : List (Nat × TypeDesc)                     -- a type without parts (numbers, bools, strings)
def lk {α : Type} : List (Nat × α) → Nat → Option α
  | [], _ => none
  | (s, v) :: e, t => bif Nat.beq s t then some v else lk e t
def layOf (P : Program) (t : Nat) : Option (Bool × Nat) := (P.underlying t).bind fun d => (P.info? t).map fun i => ((match d with | .struct _ => true | .array _ _ => true | _ => false), i.size)
def fldL (P : Program) : List Field → Option (List (Nat × Nat))
  | [] => some []
  | f :: fs => match P.info? f.type, fldL P fs with
    | some i, some l => some ((f.offset, i.size) :: l)
    | _, _ => none
def fldOf (P : Program) (t : Nat) : Option (List (Nat × Nat)) := match P.underlying t with
  | some (.struct fs) => fldL P fs.toList
  | _ => none
theorem fldL_at {P : Program} : ∀ {fs : List Field} {l : List (Nat × Nat)} {i o s : Nat}, fldL P fs = some l → l[i]? = some (o, s) → ∃ f j, fs[i]? = some f ∧ f.offset = o ∧ P.info? f.type = some j ∧ j.size = s
  | [], l, i, o, s, h, hi => by simp [fldL] at h; subst h; simp at hi
  | f :: fs, l, i, o, s, h, hi => by
    simp only [fldL] at h
    split at h
    · rename_i j l' hj hl
      simp only [Option.some.injEq] at h
      subst h
      cases i with
      | zero =>
        simp only [List.getElem?_cons_zero, Option.some.injEq, Prod.mk.injEq] at hi
        exact ⟨f, j, by simp, hi.1, hj, hi.2⟩
      | succ i =>
        simp only [List.getElem?_cons_succ] at hi ⊢
        exact fldL_at hl hi
    · cases h
def elmOf (P : Program) (t : Nat) : Option (Nat × Nat × Nat) := match P.underlying t with
  | some (.slice e) => (P.info? e).map fun i => (e, i.size, i.bytes)
  | _ => none
def arrOf (P : Program) (t : Nat) : Option (Nat × Nat × Nat) := match P.underlying t with
  | some (.array n e) => (P.info? e).map fun i => (n, e, i.size)
  | _ => none
def zroOf (P : Program) (t : Nat) : Option Value := (P.info? t).bind (·.zero)
def prmOf (P : Program) (t : Nat) : Option TypeDesc := match P.underlying t with
  | some (.struct _) => none
  | some (.interface _) => none
  | d => d
structure TT.Ok (T : TT) (P : Program) : Prop where
  lay : (T.lay.map fun p => layOf P p.1) = T.lay.map fun p => some p.2
  fld : (T.fld.map fun p => fldOf P p.1) = T.fld.map fun p => some p.2
  elm : (T.elm.map fun p => elmOf P p.1) = T.elm.map fun p => some p.2
  arr : (T.arr.map fun p => arrOf P p.1) = T.arr.map fun p => some p.2
  zro : (T.zro.map fun p => zroOf P p.1) = T.zro.map fun p => some p.2
  prm : (T.prm.map fun p => prmOf P p.1) = T.prm.map fun p => some p.2
class Tab (P : Program) where
  T : TT
  ok : T.Ok P
theorem lk_mem {α : Type} : ∀ {l : List (Nat × α)} {t : Nat} {v : α}, lk l t = some v → (t, v) ∈ l
  | [], _, _, h => by simp [lk] at h
  | (s, u) :: e, t, v, h => by
    simp only [lk] at h
    cases hb : Nat.beq s t with
    | true =>
      rw [hb] at h
      obtain rfl := Nat.eq_of_beq_eq_true hb
      simp only [cond_true, Option.some.injEq] at h
      simp [h]
    | false =>
      rw [hb] at h
      exact List.mem_cons_of_mem _ (lk_mem h)
theorem lk_ok {α : Type} {l : List (Nat × α)} {f : Nat → Option α} (h : (l.map fun p => f p.1) = l.map fun p => some p.2) {t : Nat} {v : α} (hl : lk l t = some v) : f t = some v := by
  have hm := lk_mem hl
  have := List.map_inj_left.1 h _ hm
  exact this
section
variable {P : Program} [T : Tab P]
theorem tab_lay {t : Nat} {v : Bool × Nat} (h : lk T.T.lay t = some v) : layOf P t = some v := lk_ok T.ok.lay h
theorem tab_fld {t : Nat} {v : List (Nat × Nat)} (h : lk T.T.fld t = some v) : fldOf P t = some v := lk_ok T.ok.fld h
theorem tab_elm {t : Nat} {v : Nat × Nat × Nat} (h : lk T.T.elm t = some v) : elmOf P t = some v := lk_ok T.ok.elm h
theorem tab_arr {t : Nat} {v : Nat × Nat × Nat} (h : lk T.T.arr t = some v) : arrOf P t = some v := lk_ok T.ok.arr h
theorem tab_zro {t : Nat} {v : Value} (h : lk T.T.zro t = some v) : zroOf P t = some v := lk_ok T.ok.zro h
theorem tab_prm {t : Nat} {v : TypeDesc} (h : lk T.T.prm t = some v) : prmOf P t = some v := lk_ok T.ok.prm h
end
theorem elm_und {P : Program} {t e s b : Nat} (h : elmOf P t = some (e, s, b)) : P.underlying t = some (.slice e) ∧ ∃ i, P.info? e = some i ∧ i.size = s ∧ i.bytes = b := by
  unfold elmOf at h
  split at h
  · rename_i e' hu
    rw [Option.map_eq_some_iff] at h
    obtain ⟨i, hi, he⟩ := h
    simp only [Prod.mk.injEq] at he
    obtain ⟨rfl, rfl, rfl⟩ := he
    exact ⟨hu, i, hi, rfl, rfl⟩
  · cases h
theorem arr_und {P : Program} {t n e s : Nat} (h : arrOf P t = some (n, e, s)) : P.underlying t = some (.array n e) ∧ ∃ i, P.info? e = some i ∧ i.size = s := by
  unfold arrOf at h
  split at h
  · rename_i n' e' hu
    rw [Option.map_eq_some_iff] at h
    obtain ⟨i, hi, he⟩ := h
    simp only [Prod.mk.injEq] at he
    obtain ⟨rfl, rfl, rfl⟩ := he
    exact ⟨hu, i, hi, rfl⟩
  · cases h
theorem zro_inf {P : Program} {t : Nat} {z : Value} (h : zroOf P t = some z) : ∃ i, P.info? t = some i ∧ i.zero = some z := by
  unfold zroOf at h
  rw [Option.bind_eq_some_iff] at h
  exact h
theorem prm_und {P : Program} {t : Nat} {d : TypeDesc} (h : prmOf P t = some d) : P.underlying t = some d ∧ (∀ ms, d ≠ .interface ms) ∧ ∀ fs, d ≠ .struct fs := by
  unfold prmOf at h
  split at h
  · cases h
  · cases h
  · rename_i h1 h2
    refine ⟨h, fun ms e => h2 ms (by rw [h, e]), fun fs e => h1 fs (by rw [h, e])⟩
theorem lay_inf {P : Program} {t : Nat} {g : Bool} {s : Nat} (h : layOf P t = some (g, s)) : (∀ w, (isAgg t).run P w = .ok g w) ∧ (∀ w, (sizeOf t).run P w = .ok s w) := by
  unfold layOf at h
  rw [Option.bind_eq_some_iff] at h
  obtain ⟨d, hd, h⟩ := h
  rw [Option.map_eq_some_iff] at h
  obtain ⟨i, hi, h⟩ := h
  simp only [Prod.mk.injEq] at h
  obtain ⟨h1, h2⟩ := h
  refine ⟨fun w => ?_, fun w => ?_⟩
  · simp only [isAgg, Sem.run_bind, underlying, run_program, Result.andThen_ok, hd, Sem.run_pure]
    cases d <;> simp_all
  · simp [sizeOf, typeInfo, hi, h2]

/-! ### an operation that yields a value -/
def guardE (ops : Array Oper) (env : Env) (o : Oper) : Option Bool := match o.guard with
  | none => some true
  | some (j, want) => match (ops[j]?).bind (·.dst) with
    | none => some false
    | some d => match get env d with
      | some (.bool b) => some (b == want)
      | some _ => some false
      | none => none
theorem guardE_wanted {N : Nat} {a : Act} {env : Env} (h : Holds N a env) {ops : Array Oper} {o : Oper} {b : Bool} (hg : guardE ops env o = some b) : Region.wanted o (yielded ops a.tmps) = b := by
  unfold guardE at hg
  unfold Region.wanted yielded
  cases hgd : o.guard with
  | none => rw [hgd] at hg; simpa using hg
  | some jw =>
    obtain ⟨j, want⟩ := jw
    rw [hgd] at hg
    simp only at hg ⊢
    cases hd : (ops[j]?).bind (·.dst) with
    | none => rw [hd] at hg; simpa using hg
    | some d =>
      rw [hd] at hg
      simp only at hg
      cases hv : get env d with
      | none => rw [hv] at hg; cases hg
      | some v =>
        rw [hv] at hg
        have := h.vals d v hv
        simp only [Option.bind_some, this]
        cases v <;> simp_all
section
variable {P : Program} {w0 : World} {N : Nat} {ops : Array Oper} {Q : Exit → Act → World → Prop} {env : Env} {hs : Hs} {o : Oper} {rest : List Oper}
theorem WL.pass (hg : guardE ops env o = some false) (hd : dstOk N o.dst = true) (k : WL P w0 N ops Q rest (putE o.dst undef env) hs) : WL P w0 N ops Q (o :: rest) env hs := by
  intro a H n ha hf
  have hw := guardE_wanted ha hg
  unfold wpList
  rw [if_neg (by simp [hw])]
  exact k _ H n (ha.put hd _) hf
theorem WL.valR (R : Value → Hs → Prop) (hg : guardE ops env o = some true) (hd : dstOk N o.dst = true)
    (hrun : ∀ a H n, Holds N a env → HF H hs → ∃ v H' n' hs', (execOp a.eval o).run P (wd w0 H n) = .ok (.value v) (wd w0 H' n') ∧ HF H' hs' ∧ R v hs')
    (k : ∀ v hs', R v hs' → WL P w0 N ops Q rest (putE o.dst v env) hs') : WL P w0 N ops Q (o :: rest) env hs := by
  intro a H n ha hf
  have hw := guardE_wanted ha hg
  obtain ⟨v, H', n', hs', hr, hf', hR⟩ := hrun a H n ha hf
  unfold wpList
  rw [if_pos (by simp [hw])]
  refine .inl ?_
  unfold Oper.wp
  rw [hr]
  exact k v hs' hR _ H' n' (ha.put hd _) hf'
theorem WL.val {v : Value} {hs' : Hs} (hg : guardE ops env o = some true) (hd : dstOk N o.dst = true)
    (hrun : ∀ a H n, Holds N a env → HF H hs → ∃ H' n', (execOp a.eval o).run P (wd w0 H n) = .ok (.value v) (wd w0 H' n') ∧ HF H' hs')
    (k : WL P w0 N ops Q rest (putE o.dst v env) hs') : WL P w0 N ops Q (o :: rest) env hs :=
  WL.valR (fun u hu => u = v ∧ hu = hs') hg hd (fun a H n ha hf => let ⟨H', n', h1, h2⟩ := hrun a H n ha hf; ⟨v, H', n', hs', h1, h2, rfl, rfl⟩) (fun _ _ ⟨h1, h2⟩ => by subst h1; subst h2; exact k)
theorem WL.valP {v : Value} (hg : guardE ops env o = some true) (hd : dstOk N o.dst = true)
    (hrun : ∀ a w, Holds N a env → (execOp a.eval o).run P w = .ok (.value v) w)
    (k : WL P w0 N ops Q rest (putE o.dst v env) hs) : WL P w0 N ops Q (o :: rest) env hs :=
  WL.val hg hd (fun a H n ha hf => ⟨H, n, hrun a _ ha, hf⟩) k
theorem WL.skp {hs' : Hs} (hg : guardE ops env o = some true) (hd : dstOk N o.dst = true)
    (hrun : ∀ a H n, Holds N a env → HF H hs → ∃ H' n', (execOp a.eval o).run P (wd w0 H n) = .ok .skip (wd w0 H' n') ∧ HF H' hs')
    (k : WL P w0 N ops Q rest (putE o.dst undef env) hs') : WL P w0 N ops Q (o :: rest) env hs := by
  intro a H n ha hf
  have hw := guardE_wanted ha hg
  obtain ⟨H', n', hr, hf'⟩ := hrun a H n ha hf
  unfold wpList
  rw [if_pos (by simp [hw])]
  refine .inl ?_
  unfold Oper.wp
  rw [hr]
  exact k _ H' n' (ha.put hd _) hf'
end

theorem dst_ok {N : Nat} {x : Option Tmp} {d : Tmp} (h : x = some d) (hd : Nat.blt d N = true) : dstOk N x = true := by subst h; exact hd
/-! ### operations that only reckon -/
def cmpV (op : BinOp) (a b : Int) : Option Bool := match op with
  | .eql => some (decide (a = b))
  | .neq => some (decide (¬ a = b))
  | .lss => some (decide (a < b))
  | .leq => some (decide (a ≤ b))
  | .gtr => some (decide (b < a))
  | .geq => some (decide (b ≤ a))
  | _ => none
theorem cmpV_run {P : Program} {op : BinOp} {a b : Int} {r : Bool} (h : cmpV op a b = some r) (k : IntKind) (t : TypeId) (w : World) : (binOp op t (.int k a) (.int k b)).run P w = .ok (.bool r) w := by
  cases op <;> simp only [cmpV, Option.some.injEq, reduceCtorEq] at h <;> subst h <;> simp [binOp, Op.intCmp] <;> (by_cases hab : a = b <;> simp [hab])
theorem bytes_ext {x y : ByteArray} (h : x.toList = y.toList) : x = y := by
  have h' : x.data.toList = y.data.toList := by
    have hx := ByteArray.toList_eq x
    have hy := ByteArray.toList_eq y
    rw [← hx, ← hy, h]
  exact ByteArray.ext (Array.toList_inj.1 h')
theorem bytes_beq (x y : ByteArray) : (x.toList == y.toList) = decide (x = y) := by
  by_cases h : x = y
  · subst h; simp
  · have : x.toList ≠ y.toList := fun e => h (bytes_ext e)
    simp [h, this]
def strV (op : BinOp) (a b : ByteArray) : Option Bool := match op with
  | .eql => some (decide (a = b))
  | .neq => some (decide (¬ a = b))
  | _ => none
def boolV (op : BinOp) (a b : Bool) : Option Bool := match op with
  | .eql => some (decide (a = b))
  | .neq => some (decide (¬ a = b))
  | _ => none
def lenV : Value → Option Value
  | .slice _ n _ => some (.int .i64 n)
  | .string s => some (.int .i64 s.size)
  | _ => none
def offE (fs : List (Nat × Nat)) (f : Nat) : Option Nat := match fs[f]? with
  | some (o, _ + 1) => some o
  | _ => none
def conc (T : TT) (t : Nat) : Bool := (lk T.prm t).isSome || (lk T.fld t).isSome
theorem conc_und {P : Program} [T : Tab P] {t : Nat} (h : conc T.T t = true) : ∃ d, P.underlying t = some d ∧ ∀ ms, d ≠ .interface ms := by
  unfold conc at h
  rw [Bool.or_eq_true] at h
  rcases h with h | h
  · obtain ⟨d, hd⟩ := Option.isSome_iff_exists.1 h
    obtain ⟨h1, h2, _⟩ := prm_und (tab_prm hd)
    exact ⟨d, h1, h2⟩
  · obtain ⟨l, hl⟩ := Option.isSome_iff_exists.1 h
    have := tab_fld hl
    unfold fldOf at this
    split at this
    · rename_i fs hu
      exact ⟨_, hu, fun _ h => by cases h⟩
    · cases this
def pv (T : TT) (env : Env) : Op → Option Value
  | .move x => evo env x
  | .assign x => evo env x
  | .pick c a b => match evo env c with
    | some (.bool true) => evo env a
    | some (.bool false) => evo env b
    | _ => none
  | .fieldAddr s x f => match evo env x with
    | some (.pointer (some ⟨b, o, none⟩)) => match (lk T.fld s).bind (offE · f) with
      | some off => some (.pointer (some ⟨b, o + off, none⟩))
      | none => none
    | _ => none
  | .extract x i => match evo env x with
    | some (.tuple vs) => vs[i]?
    | _ => none
  | .unOp .not _ x => match evo env x with
    | some (.bool b) => some (.bool (!b))
    | _ => none
  | .nilCheck x => match evo env x with
    | some (.pointer (some a)) => some (.pointer (some a))
    | some (.func (.func f) a b) => some (.func (.func f) a b)
    | _ => none
  | .makeFunc fn first cap => match evs env first.toList, evs env cap.toList with
    | some a, some b => some (.func fn a.toArray b.toArray)
    | _, _ => none
  | .makeInterface t x => match evo env x with
    | some v => if conc T t then some (.iface t v) else none
    | _ => none
  | .binOp op t x y _ => match evo env x, evo env y with
    | some (.int j a), some (.int k b) => if j = k then (cmpV op a b).map .bool else none
    | some (.string a), some (.string b) => (strV op a b).map .bool
    | some (.bool a), some (.bool b) => match lk T.prm t with
      | some .bool => (boolV op a b).map .bool
      | _ => none
    | _, _ => none
  | _ => none
theorem addr_add (b o n : Nat) : (⟨b, o, none⟩ : Addr).add n = ⟨b, o + n, none⟩ := by
  unfold Addr.add
  split
  · rename_i h; subst h; rfl
  · rfl
theorem eq_bool {P : Program} {t : TypeId} (hu : P.underlying t = some .bool) (a b : Bool) (w : World) : (Op.equal t (.bool a) (.bool b)).run P w = .ok (a == b) w := by
  have key : ∀ d, (Op.equalIn (d + 1) t (.bool a) (.bool b)).run P w = .ok (a == b) w := fun d => by simp [Op.equalIn, underlying, hu]
  exact key 9999
theorem pv_run {P : Program} [T : Tab P] {N : Nat} {a : Act} {env : Env} (ha : Holds N a env) {o : Oper} {v : Value} (h : pv T.T env o.op = some v) (w : World) : (execOp a.eval o).run P w = .ok (.value v) w := by
  cases hop : o.op with
  | move x => rw [hop] at h; simp [execOp, hop, ha.eval h]
  | assign x => rw [hop] at h; simp [execOp, hop, ha.eval h]
  | pick c x y =>
    rw [hop] at h
    simp only [pv] at h
    split at h
    · rename_i hc; simp [execOp, hop, ha.eval hc, asBool, ha.eval h]
    · rename_i hc; simp [execOp, hop, ha.eval hc, asBool, ha.eval h]
    · cases h
  | fieldAddr s x f =>
    rw [hop] at h
    simp only [pv] at h
    split at h
    · rename_i b off hx
      split at h
      · rename_i of hof
        simp only [Option.some.injEq] at h
        subst h
        rw [Option.bind_eq_some_iff] at hof
        obtain ⟨fs, hfs, hof⟩ := hof
        have hfl := tab_fld hfs
        unfold offE at hof
        split at hof
        · rename_i o' sz hfo
          simp only [Option.some.injEq] at hof
          subst hof
          unfold fldOf at hfl
          split at hfl
          · rename_i fs' hu
            obtain ⟨fd, j, h1, h2, h3, h4⟩ := fldL_at hfl hfo
            have h1' : fs'[f]? = some fd := by simpa using h1
            simp [execOp, hop, ha.eval hx, Instr.fieldAt, underlying, hu, h1', Instr.sureAddr, fieldPlace, sizeOf, typeInfo, h3, h4, h2, addr_add]
          · cases hfl
        · cases hof
      · cases h
    · cases h
  | extract x i =>
    rw [hop] at h
    simp only [pv] at h
    split at h
    · rename_i vs hx; simp [execOp, hop, ha.eval hx, Instr.extract, h]
    · cases h
  | unOp u t x =>
    rw [hop] at h
    cases u with
    | not =>
      simp only [pv] at h
      split at h
      · rename_i b hx
        simp only [Option.some.injEq] at h
        subst h
        simp [execOp, hop, ha.eval hx, Op.unary]
      · cases h
    | _ => simp [pv] at h
  | nilCheck x =>
    rw [hop] at h
    simp only [pv] at h
    split at h
    · rename_i b hx
      simp only [Option.some.injEq] at h
      subst h
      simp [execOp, hop, ha.eval hx]
    · rename_i b hx
      simp only [Option.some.injEq] at h
      subst h
      simp [execOp, hop, ha.eval hx]
    · cases h
  | makeFunc fn first cap =>
    rw [hop] at h
    simp only [pv] at h
    split at h
    · rename_i x y hx hy
      simp only [Option.some.injEq] at h
      subst h
      have h1 : first.map a.eval = x.toArray := by
        apply Array.toList_inj.1
        rw [Array.toList_map, ha.evals hx]
      have h2 : cap.map a.eval = y.toArray := by
        apply Array.toList_inj.1
        rw [Array.toList_map, ha.evals hy]
      simp [execOp, hop, Instr.makeFunc, h1, h2]
    · cases h
  | makeInterface t x =>
    rw [hop] at h
    simp only [pv] at h
    split at h
    · rename_i v' hx
      split at h
      · rename_i hc
        simp only [Option.some.injEq] at h
        subst h
        obtain ⟨d, hu, hni⟩ := conc_und hc
        have he := ha.eval hx
        simp only [execOp, hop, he, Instr.makeInterface, Sem.run_bind, underlying, run_program, Result.andThen_ok, hu, Sem.run_pure]
      · cases h
    · cases h
  | binOp op t x y t' =>
    rw [hop] at h
    simp only [pv] at h
    split at h
    · rename_i j p k q hx hy
      split at h
      · rename_i hjk
        subst hjk
        rw [Option.map_eq_some_iff] at h
        obtain ⟨r, hr, rfl⟩ := h
        have hg : (eqGuard op t x y (.int j p) (.int j q)).run P w = .ok () w := by unfold eqGuard; split <;> simp
        simp [execOp, hop, ha.eval hx, ha.eval hy, hg, cmpV_run hr]
      · cases h
    · rename_i p q hx hy
      rw [Option.map_eq_some_iff] at h
      obtain ⟨r, hr, rfl⟩ := h
      have hg : (eqGuard op t x y (.string p) (.string q)).run P w = .ok () w := by unfold eqGuard; split <;> simp
      have hb : (binOp op t (.string p) (.string q)).run P w = .ok (.bool r) w := by
        cases op <;> simp only [strV, Option.some.injEq, reduceCtorEq] at hr <;> subst hr <;> simp [binOp, Op.stringOp, bytes_beq]
      simp [execOp, hop, ha.eval hx, ha.eval hy, hg, hb]
    · rename_i p q hx hy
      split at h
      · rename_i ht
        rw [Option.map_eq_some_iff] at h
        obtain ⟨r, hr, rfl⟩ := h
        have hu := (prm_und (tab_prm ht)).1
        have hg : (eqGuard op t x y (.bool p) (.bool q)).run P w = .ok () w := by unfold eqGuard; split <;> simp
        have hb : (binOp op t (.bool p) (.bool q)).run P w = .ok (.bool r) w := by
          have he := eq_bool (P := P) hu p q w
          cases op <;> simp only [boolV, Option.some.injEq, reduceCtorEq] at hr <;> subst hr <;> simp only [binOp, Sem.run_bind, he, Result.andThen_ok, Sem.run_pure] <;> (cases p <;> cases q <;> rfl)
        simp [execOp, hop, ha.eval hx, ha.eval hy, hg, hb]
      · cases h
    · cases h
  | _ => rw [hop] at h; simp [pv] at h

section
variable {P : Program} [T : Tab P] {w0 : World} {N : Nat} {ops : Array Oper} {Q : Exit → Act → World → Prop} {env : Env} {hs : Hs} {o : Oper} {rest : List Oper}
theorem WL.pure {d : Tmp} {v : Value} (h : pv T.T env o.op = some v) (hg : guardE ops env o = some true) (hdd : o.dst = some d) (hd : Nat.blt d N = true)
    (k : WL P w0 N ops Q rest ((d, v) :: env) hs) : WL P w0 N ops Q (o :: rest) env hs :=
  WL.valP hg (dst_ok hdd hd) (fun _ w ha => pv_run ha h w) (by rw [hdd]; exact k)

/-! ### numbers -/
def binV (op : BinOp) (k : IntKind) (a b : Int) : Option Int := match op with
  | .add => some (k.wrap (a + b))
  | .sub => some (k.wrap (a - b))
  | .mul => some (k.wrap (a * b))
  | _ => none
/-- + - * of numbers: r is what stands there. -/
theorem WL.arith {d : Tmp} {op : BinOp} {t t' : TypeId} {x y : Operand} {k : IntKind} {a b r : Int} (ho : o.op = .binOp op t x y t') (hx : evo env x = some (.int k a)) (hy : evo env y = some (.int k b)) (hr : binV op k a b = some r)
    (hg : guardE ops env o = some true) (hdd : o.dst = some d) (hd : Nat.blt d N = true) (kk : WL P w0 N ops Q rest ((d, (.int k r)) :: env) hs) : WL P w0 N ops Q (o :: rest) env hs := by
  refine WL.valP hg (dst_ok hdd hd) (fun a' w ha => ?_) (by rw [hdd]; exact kk)
  have hge : (eqGuard op t x y (.int k a) (.int k b)).run P w = .ok () w := by unfold eqGuard; split <;> simp
  have hb : (binOp op t (.int k a) (.int k b)).run P w = .ok (.int k r) w := by
    cases op <;> simp only [binV, Option.some.injEq, reduceCtorEq] at hr <;> subst hr <;> simp [binOp, Op.intArith]
  simp [execOp, ho, ha.eval hx, ha.eval hy, hge, hb]
theorem binV_i64 {op : BinOp} {a b r : Int} (h : binV op .i64 a b = some (IntKind.i64.wrap r)) (hr : -9223372036854775808 ≤ r ∧ r ≤ 9223372036854775807) : binV op .i64 a b = some r := by
  rw [h, IntKind.wrap_i64]; congr 1; omega
/-- / and % of numbers, the second not 0. -/
theorem WL.div {d : Tmp} {t t' : TypeId} {x y : Operand} {k : IntKind} {a b r : Int} (ho : o.op = .binOp .quo t x y t') (hx : evo env x = some (.int k a)) (hy : evo env y = some (.int k b)) (hb : b ≠ 0) (hr : k.wrap (a.tdiv b) = r)
    (hg : guardE ops env o = some true) (hdd : o.dst = some d) (hd : Nat.blt d N = true) (kk : WL P w0 N ops Q rest ((d, (.int k r)) :: env) hs) : WL P w0 N ops Q (o :: rest) env hs := by
  refine WL.valP hg (dst_ok hdd hd) (fun a' w ha => ?_) (by rw [hdd]; exact kk)
  have hge : (eqGuard .quo t x y (.int k a) (.int k b)).run P w = .ok () w := by unfold eqGuard; simp
  simp [execOp, ho, ha.eval hx, ha.eval hy, hge, binOp, Op.intDiv, hb, hr]
theorem WL.rem {d : Tmp} {t t' : TypeId} {x y : Operand} {k : IntKind} {a b r : Int} (ho : o.op = .binOp .rem t x y t') (hx : evo env x = some (.int k a)) (hy : evo env y = some (.int k b)) (hb : b ≠ 0) (hr : a.tmod b = r)
    (hg : guardE ops env o = some true) (hdd : o.dst = some d) (hd : Nat.blt d N = true) (kk : WL P w0 N ops Q rest ((d, (.int k r)) :: env) hs) : WL P w0 N ops Q (o :: rest) env hs := by
  refine WL.valP hg (dst_ok hdd hd) (fun a' w ha => ?_) (by rw [hdd]; exact kk)
  have hge : (eqGuard .rem t x y (.int k a) (.int k b)).run P w = .ok () w := by unfold eqGuard; simp
  simp [execOp, ho, ha.eval hx, ha.eval hy, hge, binOp, Op.intDiv, hb, hr]
/-- A conversion between kinds of numbers. -/
theorem WL.conv {d : Tmp} {s t : TypeId} {x : Operand} {j k : IntKind} {a r : Int} (ho : o.op = .convert s t x) (hx : evo env x = some (.int j a)) (hs' : (lk T.T.prm s).isSome = true) (ht : lk T.T.prm t = some (.int k)) (hr : k.wrap a = r)
    (hg : guardE ops env o = some true) (hdd : o.dst = some d) (hd : Nat.blt d N = true) (kk : WL P w0 N ops Q rest ((d, (.int k r)) :: env) hs) : WL P w0 N ops Q (o :: rest) env hs := by
  refine WL.valP hg (dst_ok hdd hd) (fun a' w ha => ?_) (by rw [hdd]; exact kk)
  obtain ⟨d, hd'⟩ := Option.isSome_iff_exists.1 hs'
  have h1 := (prm_und (tab_prm hd')).1
  have h2 := (prm_und (tab_prm ht)).1
  simp [execOp, ho, ha.eval hx, convert, underlying, h1, h2, Conv.intToInt, hr]

/-! ### strings -/
/-- Two strings, one behind the other. -/
theorem WL.cat {d : Tmp} {t t' : TypeId} {x y : Operand} {s u : ByteArray} (ho : o.op = .binOp .add t x y t') (hx : evo env x = some (.string s)) (hy : evo env y = some (.string u)) (hb : s.size + u.size ≤ 9223372036854775807)
    (hg : guardE ops env o = some true) (hdd : o.dst = some d) (hd : Nat.blt d N = true) (kk : WL P w0 N ops Q rest ((d, (.string (s ++ u))) :: env) hs) : WL P w0 N ops Q (o :: rest) env hs := by
  refine WL.valP hg (dst_ok hdd hd) (fun a' w ha => ?_) (by rw [hdd]; exact kk)
  have hge : (eqGuard .add t x y (.string s) (.string u)).run P w = .ok () w := by unfold eqGuard; simp
  have hb' : ¬ ((s.size + u.size : Nat) : Int) > IntKind.i64.max := by
    have : IntKind.i64.max = 9223372036854775807 := by decide
    rw [this]; omega
  simp only [execOp, ho, ha.eval hx, ha.eval hy, Sem.run_bind, hge, binOp, Op.stringOp, Result.andThen_ok]
  rw [if_neg hb']
  simp
/-- A byte of a string. -/
theorem WL.char {d : Tmp} {t : TypeId} {x y : Operand} {s : ByteArray} {k : IntKind} {i : Int} {c : UInt8} (ho : o.op = .index t x y) (hx : evo env x = some (.string s)) (hy : evo env y = some (.int k i)) (ht : lk T.T.prm t = some .string) (h0 : 0 ≤ i) (hc : s[i.toNat]? = some c)
    (hg : guardE ops env o = some true) (hdd : o.dst = some d) (hd : Nat.blt d N = true) (kk : WL P w0 N ops Q rest ((d, (.int .u8 c.toNat)) :: env) hs) : WL P w0 N ops Q (o :: rest) env hs := by
  refine WL.valP hg (dst_ok hdd hd) (fun a' w ha => ?_) (by rw [hdd]; exact kk)
  have h1 := (prm_und (tab_prm ht)).1
  simp [execOp, ho, ha.eval hx, ha.eval hy, Instr.index, asIntOf, underlying, h1, h0, hc]
/-- len of a slice or a string. -/
theorem WL.len {d : Tmp} {c : Call} {t : TypeId} {v r : Value} (ho : o.op = .call c) (hc : c.callee = .builtin .len) (hx : evs env c.args.toList = some [v]) (ht : c.argTypes[0]? = some t) (hk : ∃ d, P.underlying t = some d ∧ ((d = .string ∧ ∃ s, v = .string s ∧ r = .int .i64 s.size) ∨ ∃ e A n m, d = .slice e ∧ v = .slice A n m ∧ r = .int .i64 n))
    (hg : guardE ops env o = some true) (hdd : o.dst = some d) (hd : Nat.blt d N = true) (kk : WL P w0 N ops Q rest ((d, r) :: env) hs) : WL P w0 N ops Q (o :: rest) env hs := by
  refine WL.valP hg (dst_ok hdd hd) (fun a' w ha => ?_) (by rw [hdd]; exact kk)
  have hargs : c.args.map a'.eval = #[v] := by
    apply Array.toList_inj.1
    rw [Array.toList_map, ha.evals hx]
  obtain ⟨d, hu, h | h⟩ := hk
  · obtain ⟨rfl, s, rfl, rfl⟩ := h
    simp [execOp, ho, resolve, hc, hargs, invoke, builtin, Builtin.len_, ht, underlying, hu, goInt]
  · obtain ⟨e, A, n, m, rfl, rfl, rfl⟩ := h
    simp [execOp, ho, resolve, hc, hargs, invoke, builtin, Builtin.len_, ht, underlying, hu, goInt]
theorem WL.lens {d : Tmp} {c : Call} {t : TypeId} {s : ByteArray} (ho : o.op = .call c) (hc : c.callee = .builtin .len) (hx : evs env c.args.toList = some [.string s]) (ht : c.argTypes[0]? = some t) (hu : lk T.T.prm t = some .string)
    (hg : guardE ops env o = some true) (hdd : o.dst = some d) (hd : Nat.blt d N = true) (kk : WL P w0 N ops Q rest ((d, (.int .i64 s.size)) :: env) hs) : WL P w0 N ops Q (o :: rest) env hs :=
  WL.len ho hc hx ht ⟨_, (prm_und (tab_prm hu)).1, .inl ⟨rfl, s, rfl, rfl⟩⟩ hg hdd hd kk
theorem WL.lenl {d : Tmp} {c : Call} {t : TypeId} {A : Option Addr} {n m : Nat} {e : Nat × Nat × Nat} (ho : o.op = .call c) (hc : c.callee = .builtin .len) (hx : evs env c.args.toList = some [.slice A n m]) (ht : c.argTypes[0]? = some t) (hu : lk T.T.elm t = some e)
    (hg : guardE ops env o = some true) (hdd : o.dst = some d) (hd : Nat.blt d N = true) (kk : WL P w0 N ops Q rest ((d, (.int .i64 n)) :: env) hs) : WL P w0 N ops Q (o :: rest) env hs := by
  obtain ⟨e, s, b⟩ := e
  exact WL.len ho hc hx ht ⟨_, (elm_und (tab_elm hu)).1, .inr ⟨e, A, n, m, rfl, rfl, rfl⟩⟩ hg hdd hd kk
end
end Go.Pan
