/- The walk's own words: a frame as a list of slots, the memory as a list of blocks; rules for the code's structure. Nothing of the program stands here. -/
import Derived.WalkKit
import Derived.Deep.Quiet
namespace Go.Pan
open Go

/-- The memory as far as it is known: blocks by their numbers. -/
abbrev Hs := List (Nat × Obj)
/-- The frame as far as it is known. -/
abbrev Env := List (Nat × Value)

/-- A world that parts from w0 in its memory and in the count of its draws alone. -/
def wd (w0 : World) (H : Array Obj) (n : Nat) : World := { w0 with heap := H, drawn := n }

structure HF (H : Array Obj) (hs : Hs) : Prop where
  nodup : (hs.map (·.1)).Nodup
  at_ : ∀ b o, (b, o) ∈ hs → H[b]? = some o

def get : Env → Nat → Option Value
  | [], _ => none
  | (s, v) :: e, t => bif Nat.beq s t then some v else get e t

structure Holds (N : Nat) (a : Act) (env : Env) : Prop where
  size : a.tmps.size = N
  defs : a.defers = []
  vals : ∀ t v, get env t = some v → a.tmps[t]? = some v

def putE : Option Tmp → Value → Env → Env
  | none, _, e => e
  | some d, v, e => (d, v) :: e

def dstOk (N : Nat) : Option Tmp → Bool
  | none => true
  | some d => Nat.blt d N

theorem Holds.put {N : Nat} {a : Act} {env : Env} {d : Option Tmp} (h : Holds N a env) (hd : dstOk N d = true) (v : Value) : Holds N (a.put d v) (putE d v env) := by
  cases d with
  | none => exact h
  | some d =>
    have hd' : d < N := by simpa [dstOk, Nat.blt_eq] using hd
    refine ⟨by simp [Act.put, h.size], by simpa [Act.put] using h.defs, fun t u ht => ?_⟩
    simp only [putE, get] at ht
    by_cases e : d = t
    · subst e
      rw [show Nat.beq d d = true from Nat.beq_refl d] at ht
      simp only [cond_true, Option.some.injEq] at ht
      subst ht
      simp only [Act.put]
      rw [Array.getElem?_setIfInBounds_self]
      simp [h.size, hd']
    · have hb : Nat.beq d t = false := by
        cases hx : Nat.beq d t
        · rfl
        · exact absurd (Nat.eq_of_beq_eq_true hx) e
      rw [hb] at ht
      simp only [cond_false] at ht
      simp only [Act.put]
      rw [Array.getElem?_setIfInBounds_ne e]
      exact h.vals t u ht

/-- A frame of which less is asked. -/
def subE (env : Env) : Env → Prop
  | [] => True
  | p :: e => get env p.1 = some p.2 ∧ subE env e
theorem subE_get {env : Env} : ∀ {e : Env}, subE env e → ∀ t v, get e t = some v → get env t = some v
  | [], _, t, v, h => by simp [get] at h
  | (s, u) :: e, h, t, v, ht => by
    simp only [get] at ht
    cases hb : Nat.beq s t with
    | true =>
      rw [hb] at ht
      simp only [cond_true, Option.some.injEq] at ht
      obtain rfl := Nat.eq_of_beq_eq_true hb
      rw [← ht]; exact h.1
    | false =>
      rw [hb] at ht
      exact subE_get h.2 t v ht
theorem Holds.sub {N : Nat} {a : Act} {env e : Env} (h : Holds N a env) (hs : subE env e) : Holds N a e :=
  ⟨h.size, h.defs, fun t v ht => h.vals t v (subE_get hs t v ht)⟩

/-! ### operands -/
def evo (env : Env) : Operand → Option Value
  | .tmp t => get env t
  | .const v => some v
  | .global g => some (.pointer (some ⟨g, 0, none⟩))
  | .func f => some (.func (.func f) #[] #[])
theorem Holds.eval {N : Nat} {a : Act} {env : Env} (h : Holds N a env) {x : Operand} {v : Value} (hx : evo env x = some v) : a.eval x = v := by
  cases x with
  | tmp t =>
    have := h.vals t v hx
    simp [Act.eval, Array.getD_eq_getD_getElem?, this]
  | const u => simpa [evo, Act.eval] using hx
  | global g => simpa [evo, Act.eval] using hx
  | func f => simpa [evo, Act.eval] using hx
def evs (env : Env) : List Operand → Option (List Value)
  | [] => some []
  | x :: xs => match evo env x, evs env xs with
    | some v, some vs => some (v :: vs)
    | _, _ => none
theorem Holds.evals {N : Nat} {a : Act} {env : Env} (h : Holds N a env) : ∀ {xs : List Operand} {vs : List Value}, evs env xs = some vs → xs.map a.eval = vs
  | [], vs, hx => by simp [evs] at hx; simp [hx]
  | x :: xs, vs, hx => by
    simp only [evs] at hx
    split at hx
    · rename_i v us h1 h2
      simp only [Option.some.injEq] at hx
      subst hx
      simp [h.eval h1, h.evals h2]
    · cases hx
def evp (env : Env) : List (Nat × Operand) → Option (List (Nat × Value))
  | [] => some []
  | (i, x) :: xs => match evo env x, evp env xs with
    | some v, some vs => some ((i, v) :: vs)
    | _, _ => none
theorem Holds.evalp {N : Nat} {a : Act} {env : Env} (h : Holds N a env) : ∀ {xs : List (Nat × Operand)} {vs : List (Nat × Value)}, evp env xs = some vs → (xs.map fun p => (p.1, a.eval p.2)) = vs
  | [], vs, hx => by simp [evp] at hx; simp [hx]
  | (i, x) :: xs, vs, hx => by
    simp only [evp] at hx
    split at hx
    · rename_i v us h1 h2
      simp only [Option.some.injEq] at hx
      subst hx
      simp [h.eval h1, h.evalp h2]
    · cases hx

/-! ### blocks -/
/-- Block b is known. -/
inductive Mem : Nat → Obj → Hs → Prop
  | head {b o hs} : Mem b o ((b, o) :: hs)
  | tail {b o p hs} : Mem b o hs → Mem b o (p :: hs)
  | right {b o xs hs} : Mem b o hs → Mem b o (xs ++ hs)
theorem Mem.mem {b : Nat} {o : Obj} {hs : Hs} (h : Mem b o hs) : (b, o) ∈ hs := by
  induction h with
  | head => simp
  | tail _ ih => exact List.mem_cons_of_mem _ ih
  | right _ ih => exact List.mem_append_right _ ih
theorem Mem.of_mem {b : Nat} {o : Obj} {hs : Hs} (h : (b, o) ∈ hs) : Mem b o hs := by
  induction hs with
  | nil => cases h
  | cons p hs ih =>
    cases h with
    | head => exact .head
    | tail _ h => exact .tail (ih h)
theorem Mem.at_ {b : Nat} {o : Obj} {hs : Hs} {H : Array Obj} (h : Mem b o hs) (hf : HF H hs) : H[b]? = some o := hf.at_ _ _ h.mem
/-- Block b, which was o, is o' now. -/
inductive Upd : Nat → Obj → Obj → Hs → Hs → Prop
  | head {b o o' hs} : Upd b o o' ((b, o) :: hs) ((b, o') :: hs)
  | tail {b o o' p hs hs'} : Upd b o o' hs hs' → Upd b o o' (p :: hs) (p :: hs')
  | right {b o o' xs hs hs'} : Upd b o o' hs hs' → Upd b o o' (xs ++ hs) (xs ++ hs')
theorem Upd.mem {b : Nat} {o o' : Obj} {hs hs' : Hs} (h : Upd b o o' hs hs') : Mem b o hs := by
  induction h with
  | head => exact .head
  | tail _ ih => exact .tail ih
  | right _ ih => exact .right ih
theorem Upd.mem' {b : Nat} {o o' : Obj} {hs hs' : Hs} (h : Upd b o o' hs hs') : Mem b o' hs' := by
  induction h with
  | head => exact .head
  | tail _ ih => exact .tail ih
  | right _ ih => exact .right ih
theorem Upd.keys {b : Nat} {o o' : Obj} {hs hs' : Hs} (h : Upd b o o' hs hs') : hs'.map (·.1) = hs.map (·.1) := by
  induction h with
  | head => rfl
  | tail _ ih => simp [ih]
  | right _ ih => simp [ih]
theorem Upd.either {b : Nat} {o o' : Obj} {hs hs' : Hs} (h : Upd b o o' hs hs') (hn : (hs.map (·.1)).Nodup) :
    ∀ c p, (c, p) ∈ hs' → (c = b ∧ p = o') ∨ (c ≠ b ∧ (c, p) ∈ hs) := by
  induction h with
  | @head hs =>
    intro c p hm
    simp only [List.map_cons, List.nodup_cons] at hn
    cases hm with
    | head => exact .inl ⟨rfl, rfl⟩
    | tail _ hm => exact .inr ⟨fun e => hn.1 (e ▸ List.mem_map_of_mem (f := (·.1)) hm), List.mem_cons_of_mem _ hm⟩
  | @tail q hs hs' hu ih =>
    intro c p hm
    simp only [List.map_cons, List.nodup_cons] at hn
    cases hm with
    | head => exact .inr ⟨fun e => hn.1 (by rw [e]; exact List.mem_map_of_mem (f := (·.1)) hu.mem.mem), List.mem_cons_self⟩
    | tail _ hm =>
      rcases ih hn.2 c p hm with h | h
      · exact .inl h
      · exact .inr ⟨h.1, List.mem_cons_of_mem _ h.2⟩
  | @right xs hs hs' hu ih =>
    intro c p hm
    rw [List.map_append, List.nodup_append] at hn
    rcases List.mem_append.1 hm with hm | hm
    · exact .inr ⟨fun e => hn.2.2 c (List.mem_map_of_mem (f := (·.1)) hm) b (List.mem_map_of_mem (f := (·.1)) hu.mem.mem) e, List.mem_append_left _ hm⟩
    · rcases ih hn.2.1 c p hm with h | h
      · exact .inl h
      · exact .inr ⟨h.1, List.mem_append_right _ h.2⟩
theorem HF.upd {H : Array Obj} {b : Nat} {o o' : Obj} {hs hs' : Hs} (hf : HF H hs) (h : Upd b o o' hs hs') : HF (H.setIfInBounds b o') hs' := by
  refine ⟨by rw [h.keys]; exact hf.nodup, fun c p hm => ?_⟩
  rcases h.either hf.nodup c p hm with ⟨rfl, rfl⟩ | ⟨hne, hm⟩
  · have := (Array.getElem?_eq_some_iff.1 (h.mem.at_ hf)).1
    rw [Array.getElem?_setIfInBounds_self]; simp [this]
  · rw [Array.getElem?_setIfInBounds_ne (Ne.symm hne)]
    exact hf.at_ _ _ hm
theorem HF.lt {H : Array Obj} {hs : Hs} (hf : HF H hs) {b : Nat} {o : Obj} (h : (b, o) ∈ hs) : b < H.size := (Array.getElem?_eq_some_iff.1 (hf.at_ _ _ h)).1
theorem HF.push {H : Array Obj} {hs : Hs} (hf : HF H hs) (o : Obj) : HF (H.push o) ((H.size, o) :: hs) := by
  refine ⟨?_, fun c p hm => ?_⟩
  · simp only [List.map_cons, List.nodup_cons]
    refine ⟨fun hm => ?_, hf.nodup⟩
    obtain ⟨⟨b, q⟩, hq, rfl⟩ := List.mem_map.1 hm
    exact absurd (hf.lt hq) (Nat.lt_irrefl _)
  · cases hm with
    | head => simp
    | tail _ hm =>
      have := hf.lt hm
      rw [Array.getElem?_push, if_neg (by omega)]
      exact hf.at_ _ _ hm
/-- Fewer blocks are known. -/
theorem HF.drop {H : Array Obj} {p : Nat × Obj} {hs : Hs} (hf : HF H (p :: hs)) : HF H hs :=
  ⟨(List.nodup_cons.1 (by simpa using hf.nodup)).2, fun b o h => hf.at_ b o (List.mem_cons_of_mem _ h)⟩
theorem HF.perm {H : Array Obj} {hs hs' : Hs} (hf : HF H hs) (h : hs.Perm hs') : HF H hs' :=
  ⟨(h.map _).nodup_iff.1 hf.nodup, fun b o hm => hf.at_ b o (h.mem_iff.2 hm)⟩
theorem HF.sublist {H : Array Obj} {hs hs' : Hs} (hf : HF H hs) (h : hs'.Sublist hs) : HF H hs' :=
  ⟨hf.nodup.sublist (h.map _), fun b o hm => hf.at_ b o (h.subset hm)⟩
/-- Block b is taken out of the list. -/
inductive Take : Nat → Obj → Hs → Hs → Prop
  | head {b o hs} : Take b o ((b, o) :: hs) hs
  | tail {b o p hs hs'} : Take b o hs hs' → Take b o (p :: hs) (p :: hs')
  | right {b o xs hs hs'} : Take b o hs hs' → Take b o (xs ++ hs) (xs ++ hs')
theorem Take.perm {b : Nat} {o : Obj} {hs hs' : Hs} (h : Take b o hs hs') : hs.Perm ((b, o) :: hs') := by
  induction h with
  | head => exact .refl _
  | tail _ ih => exact (ih.cons _).trans (.swap ..)
  | right _ ih => exact (ih.append_left _).trans List.perm_middle

/-! ### the goals of a walk -/
def WL (P : Program) (w0 : World) (N : Nat) (ops : Array Oper) (Q : Exit → Act → World → Prop) (l : List Oper) (env : Env) (hs : Hs) : Prop :=
  ∀ a H n, Holds N a env → HF H hs → wpList P ops Q l a (wd w0 H n)
def WC (P : Program) (w0 : World) (N : Nat) (c : Code) (Q : Exit → Act → World → Prop) (env : Env) (hs : Hs) : Prop :=
  ∀ a H n, Holds N a env → HF H hs → c.wp P Q a (wd w0 H n)
/-- A function called in a memory of which hs is known: it returns v, and then hs' is known, and R holds of them. -/
def CallsF (P : Program) (f : FuncId) (args : List Value) (w0 : World) (hs : Hs) (R : Value → Hs → Prop) : Prop :=
  ∀ H n, HF H hs → Calls P f args.toArray (wd w0 H n) fun e w' => ∃ v H' n' hs', e = .returned v ∧ w' = wd w0 H' n' ∧ HF H' hs' ∧ R v hs'
def Post (P : Program) (fn : Func) (w0 : World) (R : Value → Hs → Prop) : Exit → Act → World → Prop :=
  bodyPost P fn fun e w' => ∃ v H' n' hs', e = .returned v ∧ w' = wd w0 H' n' ∧ HF H' hs' ∧ R v hs'

theorem CallsF.mono {P : Program} {f : FuncId} {args : List Value} {w0 : World} {hs : Hs} {R R' : Value → Hs → Prop} (h : CallsF P f args w0 hs R) (hr : ∀ v hs', R v hs' → R' v hs') : CallsF P f args w0 hs R' :=
  fun H n hf => (h H n hf).mono fun _ _ ⟨v, H', n', hs', he, hw, hf', hR⟩ => ⟨v, H', n', hs', he, hw, hf', hr _ _ hR⟩
theorem CallsF.perm {P : Program} {f : FuncId} {args : List Value} {w0 : World} {hs hs' : Hs} {R : Value → Hs → Prop} (h : CallsF P f args w0 hs' R) (hp : hs.Perm hs') : CallsF P f args w0 hs R :=
  fun H n hf => h H n (hf.perm hp)
theorem CallsF.less {P : Program} {f : FuncId} {args : List Value} {w0 : World} {hs hs' : Hs} {R : Value → Hs → Prop} (h : CallsF P f args w0 hs' R) (hp : hs'.Sublist hs) : CallsF P f args w0 hs R :=
  fun H n hf => h H n (hf.sublist hp)

section
variable {P : Program} {w0 : World} {N : Nat} {Q : Exit → Act → World → Prop} {env : Env} {hs : Hs}

theorem WC.less {c : Code} {env' : Env} (h : WC P w0 N c Q env' hs) (hs' : subE env env') : WC P w0 N c Q env hs :=
  fun a H n ha hf => h a H n (ha.sub hs') hf
theorem WC.perm {c : Code} {hs' : Hs} (h : WC P w0 N c Q env hs') (hp : hs.Perm hs') : WC P w0 N c Q env hs :=
  fun a H n ha hf => h a H n ha (hf.perm hp)
theorem WL.perm {ops : Array Oper} {l : List Oper} {hs' : Hs} (h : WL P w0 N ops Q l env hs') (hp : hs.Perm hs') : WL P w0 N ops Q l env hs :=
  fun a H n ha hf => h a H n ha (hf.perm hp)
theorem WC.hless {c : Code} {hs' : Hs} (h : WC P w0 N c Q env hs') (hp : hs'.Sublist hs) : WC P w0 N c Q env hs :=
  fun a H n ha hf => h a H n ha (hf.sublist hp)
theorem WL.hless {ops : Array Oper} {l : List Oper} {hs' : Hs} (h : WL P w0 N ops Q l env hs') (hp : hs'.Sublist hs) : WL P w0 N ops Q l env hs :=
  fun a H n ha hf => h a H n ha (hf.sublist hp)
/-- What the known blocks tell without a walk. -/
theorem WC.known {c : Code} (h : (∃ H, HF H hs) → WC P w0 N c Q env hs) : WC P w0 N c Q env hs :=
  fun a H n ha hf => h ⟨H, hf⟩ a H n ha hf
theorem WL.known {ops : Array Oper} {l : List Oper} (h : (∃ H, HF H hs) → WL P w0 N ops Q l env hs) : WL P w0 N ops Q l env hs :=
  fun a H n ha hf => h ⟨H, hf⟩ a H n ha hf

/-- The arguments' slots. -/
def zipE : Nat → List Value → Env
  | _, [] => []
  | i, v :: vs => (i, v) :: zipE (Nat.succ i) vs
theorem zipE_eq : ∀ (i : Nat) (l : List Value), zipE i l = (List.range' i l.length).zip l
  | _, [] => rfl
  | i, v :: l => by rw [zipE, zipE_eq (i + 1) l, List.length_cons, List.range'_succ, List.zip_cons_cons]
theorem CallsF.enter {f : FuncId} {fn : Func} {c : Code} {args : List Value} {R : Value → Hs → Prop} {k : Nat} (env : Env) (henv : zipE 0 args = env) (hf : P.funcs[f]? = some fn) (hb : fn.body = some c) (hk : args.length = k) (hN : fn.ntmps = N) (hle : Nat.ble k N = true)
    (h : WC P w0 N c (Post P fn w0 R) env hs) : CallsF P f args w0 hs R := by
  intro H n hfr
  subst henv
  refine calls_of_wp hf hb (h _ H n ?_ hfr)
  have hle' : args.length ≤ N := by rw [hk]; exact Nat.le_of_ble_eq_true hle
  refine ⟨by simp [hN]; omega, rfl, fun t v ht => ?_⟩
  have key : ∀ (l : List Value) (j : Nat), get ((List.range' j l.length).zip l) t = some v → j ≤ t ∧ l[t - j]? = some v := by
    intro l
    induction l with
    | nil => intro j h; simp [get] at h
    | cons x l ih =>
      intro j h
      rw [List.length_cons, List.range'_succ, List.zip_cons_cons] at h
      simp only [get] at h
      cases hb : Nat.beq j t with
      | true =>
        rw [hb] at h
        obtain rfl := Nat.eq_of_beq_eq_true hb
        simpa using h
      | false =>
        rw [hb] at h
        obtain ⟨h1, h2⟩ := ih (j + 1) h
        refine ⟨by omega, ?_⟩
        rw [show t - j = (t - (j + 1)) + 1 by omega, List.getElem?_cons_succ]
        exact h2
  have := key args 0 (by rw [← zipE_eq]; exact ht)
  have hv := this.2
  simp only [Nat.sub_zero] at hv
  have hl : t < args.length := (List.getElem?_eq_some_iff.1 hv).1
  rw [Array.getElem?_append_left (by simpa using hl)]
  simpa using hv

theorem WC.skip (h : ∀ a H n, Holds N a env → HF H hs → Q .normal a (wd w0 H n)) : WC P w0 N .skip Q env hs := fun a H n ha hf => wp_skip (h a H n ha hf)
theorem WC.seq {x y : Code} (h : WC P w0 N x (Exit.then (y.wp P Q) Q) env hs) : WC P w0 N (.seq x y) Q env hs := fun a H n ha hf => wp_seq (h a H n ha hf)
theorem WC.region {id : Nat} {l : List Oper} (h : WL P w0 N l.toArray Q l env hs) : WC P w0 N (.region id l.toArray false) Q env hs :=
  fun a H n ha hf => wp_region_list (by simpa using h a H n ha hf)
theorem WC.block {id : Nat} {c : Code} (h : WC P w0 N c (Exit.inBlock id Q) env hs) : WC P w0 N (.block id c) Q env hs := fun a H n ha hf => wp_block (h a H n ha hf)
theorem WC.yes {c : Operand} {x y : Code} (hc : evo env c = some (.bool true)) (h : WC P w0 N x Q env hs) : WC P w0 N (.cond c x y) Q env hs :=
  fun a H n ha hf => wp_cond_true (ha.eval hc) (h a H n ha hf)
theorem WC.no {c : Operand} {x y : Code} (hc : evo env c = some (.bool false)) (h : WC P w0 N y Q env hs) : WC P w0 N (.cond c x y) Q env hs :=
  fun a H n ha hf => wp_cond_false (ha.eval hc) (h a H n ha hf)
theorem WC.cond {c : Operand} {x y : Code} {t : Bool} (hc : evo env c = some (.bool t)) (ht : t = true → WC P w0 N x Q env hs) (hf : t = false → WC P w0 N y Q env hs) : WC P w0 N (.cond c x y) Q env hs := by
  cases t
  · exact WC.no hc (hf rfl)
  · exact WC.yes hc (ht rfl)
/-- A test on a proposition. -/
theorem WC.ite {c : Operand} {x y : Code} {p : Prop} [Decidable p] (hc : evo env c = some (.bool (decide p))) (ht : p → WC P w0 N x Q env hs) (hf : ¬ p → WC P w0 N y Q env hs) : WC P w0 N (.cond c x y) Q env hs :=
  WC.cond hc (fun h => ht (of_decide_eq_true h)) (fun h => hf (of_decide_eq_false h))
/-- The end of a piece of code: what the continuation asks there. -/
theorem WC.exit {id : Nat} (h : ∀ a H n, Holds N a env → HF H hs → Q (.exit id) a (wd w0 H n)) : WC P w0 N (.exit id) Q env hs := fun a H n ha hf => wp_exit (h a H n ha hf)
theorem WC.ret (h : ∀ a H n, Holds N a env → HF H hs → Q .ret a (wd w0 H n)) : WC P w0 N .ret Q env hs := fun a H n ha hf => wp_ret (h a H n ha hf)
theorem WL.nil {ops : Array Oper} (h : ∀ a H n, Holds N a env → HF H hs → Q .normal a (wd w0 H n)) : WL P w0 N ops Q [] env hs := fun a H n ha hf => wpList_nil (h a H n ha hf)
/-- A region's end with code behind it. -/
theorem WL.done {ops : Array Oper} {y : Code} {Q' : Exit → Act → World → Prop} (h : WC P w0 N y Q' env hs) : WL P w0 N ops (Exit.then (y.wp P Q') Q') [] env hs := WL.nil fun a H n ha hf => h a H n ha hf
/-- Likewise for whatever continuation comes to that code. -/
theorem WC.exits {id : Nat} {y : Code} {Q' : Exit → Act → World → Prop} (hq : ∀ a w, Q (.exit id) a w = y.wp P Q' a w) (h : WC P w0 N y Q' env hs) : WC P w0 N (.exit id) Q env hs :=
  WC.exit fun a H n ha hf => by rw [hq]; exact h a H n ha hf
theorem WL.goes {ops : Array Oper} {y : Code} {Q' : Exit → Act → World → Prop} (hq : ∀ a w, Q .normal a w = y.wp P Q' a w) (h : WC P w0 N y Q' env hs) : WL P w0 N ops Q [] env hs :=
  WL.nil fun a H n ha hf => by rw [hq]; exact h a H n ha hf
theorem WC.goes {y : Code} {Q' : Exit → Act → World → Prop} (hq : ∀ a w, Q .normal a w = y.wp P Q' a w) (h : WC P w0 N y Q' env hs) : WC P w0 N .skip Q env hs :=
  WC.skip fun a H n ha hf => by rw [hq]; exact h a H n ha hf
/-- Several ways meet: behind x what J says is known. -/
theorem WC.cut {x y : Code} (J : Env → Hs → Prop) (hx : WC P w0 N x (Exit.then (fun a w => ∃ env' hs' H n, J env' hs' ∧ Holds N a env' ∧ HF H hs' ∧ w = wd w0 H n) Q) env hs)
    (hy : ∀ env' hs', J env' hs' → WC P w0 N y Q env' hs') : WC P w0 N (.seq x y) Q env hs := by
  intro a H n ha hf
  refine wp_seq (wp_mono (hx a H n ha hf) fun e a' w' hq => ?_)
  cases e with
  | normal =>
    obtain ⟨env', hs', H', n', hJ, ha', hf', rfl⟩ := hq
    exact hy env' hs' hJ a' H' n' ha' hf'
  | _ => exact hq
/-- A loop: at each round's head J k holds; k falls. -/
theorem WC.loop {c : Code} (J : Nat → Env → Hs → Prop) (k0 : Nat) (h0 : J k0 env hs)
    (round : ∀ k env' hs', J k env' hs' → WC P w0 N c (Exit.then (fun a w => ∃ k' env'' hs'' H n, k' < k ∧ J k' env'' hs'' ∧ Holds N a env'' ∧ HF H hs'' ∧ w = wd w0 H n) Q) env' hs') :
    WC P w0 N (.loop c) Q env hs := by
  intro a H n ha hf b kk cs
  have key : ∀ k a w, (∃ env' hs' H n, J k env' hs' ∧ Holds N a env' ∧ HF H hs' ∧ w = wd w0 H n) →
      ∃ e a' w', Q e a' w' ∧ Arrives P (lone (b.at a (.code c :: .inLoop c :: kk)) cs w) b kk cs e a' w' := by
    intro k
    induction k using Nat.strongRecOn with
    | _ k ih =>
      rintro a w ⟨env', hs', H, n, hJ, ha, hf, rfl⟩
      obtain ⟨e, a₁, w₁, hq, harr⟩ := round k env' hs' hJ a H n ha hf b (.inLoop c :: kk) cs
      cases e with
      | normal =>
        obtain ⟨k', env'', hs'', H', n', hlt, hJ', ha', hf', rfl⟩ := hq
        obtain ⟨e₂, a₂, w₂, hq₂, harr₂⟩ := ih k' hlt a₁ _ ⟨env'', hs'', H', n', hJ', ha', hf', rfl⟩
        exact ⟨e₂, a₂, w₂, hq₂, .of_steps (Steps.trans harr (.one step_inLoop)) harr₂⟩
      | exit id => exact ⟨_, a₁, w₁, hq, .pass (x := .inLoop c) rfl (fun _ _ => .inl (by simp)) harr⟩
      | goto l => exact ⟨_, a₁, w₁, hq, .pass (x := .inLoop c) rfl (fun _ _ => .inl (by simp)) harr⟩
      | ret => exact ⟨_, a₁, w₁, hq, .pass (x := .inLoop c) rfl (fun _ _ => .inl (by simp)) harr⟩
      | panic ch => exact ⟨_, a₁, w₁, hq, .pass (x := .inLoop c) rfl (fun _ _ => .inl (by simp)) harr⟩
      | outgrown => exact ⟨_, a₁, w₁, hq, .pass (x := .inLoop c) rfl (fun _ _ => .inl (by simp)) harr⟩
  obtain ⟨e, a', w', hq, harr⟩ := key k0 a _ ⟨env, hs, H, n, h0, ha, hf, rfl⟩
  exact ⟨e, a', w', hq, .of_steps (.one step_loop) harr⟩
end
end Go.Pan
