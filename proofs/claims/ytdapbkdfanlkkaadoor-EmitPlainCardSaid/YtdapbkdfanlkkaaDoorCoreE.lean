/- The walk's rules for slices: reading, cutting, making, appending, copying; bytes and strings. Nothing of the program stands here. -/
import Derived.Test.YtdapbkdfanlkkaaDoorCoreD
import Derived.Deep.AppendSrc
set_option linter.unusedSectionVars false
set_option linter.unusedVariables false
set_option linter.unusedSimpArgs false
namespace Go.Pan
open Go

/-- The slice v can be read: its cells are cs. -/
def Rd (hs : Hs) (sz : Nat) (v : Value) (cs : List Value) : Prop :=
  ∃ A n cap, v = .slice A n cap ∧ n * sz = cs.length ∧ n ≤ cap ∧
    (0 < cs.length → ∃ b off c T fr, A = some ⟨b, off, none⟩ ∧ Mem b (.cells c T fr) hs ∧ ∀ j, j < cs.length → c[off + j]? = cs[j]?)
/-- The slice v is its owner's own: o is its block, if it has one; its cells are cs. -/
def Own (T : TypeId) (sz : Nat) (v : Value) (cs : List Value) (o : Hs) : Prop :=
  (v = .slice none 0 0 ∧ cs = [] ∧ o = []) ∨
  ∃ b off n cap c, v = .slice (some ⟨b, off, none⟩) n cap ∧ o = [(b, .cells c T (0, 0))] ∧ cs.length = n * sz ∧ n ≤ cap ∧ off + cap * sz ≤ c.size ∧ ∀ j, j < cs.length → c[off + j]? = cs[j]?
theorem Rd.mono {hs hs' : Hs} {sz : Nat} {v : Value} {cs : List Value} (h : Rd hs sz v cs) (hm : ∀ b o, Mem b o hs → Mem b o hs') : Rd hs' sz v cs := by
  obtain ⟨A, n, cap, rfl, h1, h2, h3⟩ := h
  refine ⟨A, n, cap, rfl, h1, h2, fun hp => ?_⟩
  obtain ⟨b, off, c, T, fr, h4, h5, h6⟩ := h3 hp
  exact ⟨b, off, c, T, fr, h4, hm _ _ h5, h6⟩
theorem Rd.cons {hs : Hs} {sz : Nat} {v : Value} {cs : List Value} (h : Rd hs sz v cs) (p : Nat × Obj) : Rd (p :: hs) sz v cs := h.mono fun _ _ => .tail
theorem Rd.app {hs : Hs} {sz : Nat} {v : Value} {cs : List Value} (h : Rd hs sz v cs) (o : Hs) : Rd (o ++ hs) sz v cs := h.mono fun _ _ => .right
theorem Mem.left {b : Nat} {x : Obj} {o hs : Hs} (h : Mem b x o) : Mem b x (o ++ hs) := .of_mem (List.mem_append_left _ h.mem)
theorem Own.rd {T : TypeId} {sz : Nat} {v : Value} {cs : List Value} {o : Hs} (h : Own T sz v cs o) (hs : Hs) : Rd (o ++ hs) sz v cs := by
  rcases h with ⟨rfl, rfl, rfl⟩ | ⟨b, off, n, cap, c, rfl, rfl, h1, h2, h3, h4⟩
  · exact ⟨none, 0, 0, rfl, by simp, Nat.le_refl _, fun h => absurd h (by simp)⟩
  · exact ⟨_, n, cap, rfl, h1.symm, h2, fun _ => ⟨b, off, c, T, _, rfl, .head, h4⟩⟩
theorem Rd.nil (hs : Hs) (sz : Nat) : Rd hs sz (.slice none 0 0) [] := ⟨none, 0, 0, rfl, by simp, Nat.le_refl _, fun h => absurd h (by simp)⟩
theorem Own.nil (T : TypeId) (sz : Nat) : Own T sz (.slice none 0 0) [] [] := .inl ⟨rfl, rfl, rfl⟩
/-- The numbers of a slice's parts. -/
theorem Rd.form {hs : Hs} {sz : Nat} {v : Value} {cs : List Value} (h : Rd hs sz v cs) : ∃ A n cap, v = .slice A n cap ∧ n * sz = cs.length ∧ n ≤ cap := by
  obtain ⟨A, n, cap, h1, h2, h3, _⟩ := h
  exact ⟨A, n, cap, h1, h2, h3⟩
theorem Own.form {T : TypeId} {sz : Nat} {v : Value} {cs : List Value} {o : Hs} (h : Own T sz v cs o) : ∃ A n cap, v = .slice A n cap ∧ n * sz = cs.length ∧ n ≤ cap := (h.rd []).form

/-- A list of blocks is taken out. -/
inductive TakeL (o : Hs) : Hs → Hs → Prop
  | here {hs} : TakeL o (o ++ hs) hs
  | tail {p hs hs'} : TakeL o hs hs' → TakeL o (p :: hs) (p :: hs')
  | right {xs hs hs'} : TakeL o hs hs' → TakeL o (xs ++ hs) (xs ++ hs')
theorem TakeL.perm {o hs hs' : Hs} (h : TakeL o hs hs') : hs.Perm (o ++ hs') := by
  induction h with
  | here => exact .refl _
  | @tail p hs hs' _ ih => exact (ih.cons _).trans List.perm_middle.symm
  | @right xs hs hs' _ ih =>
    refine (ih.append_left _).trans ?_
    rw [← List.append_assoc, ← List.append_assoc]
    exact (List.perm_append_comm).append_right _
theorem TakeL.one {b : Nat} {x : Obj} {hs : Hs} : TakeL [(b, x)] ((b, x) :: hs) hs := TakeL.here (o := [(b, x)])
theorem TakeL.none {hs : Hs} : TakeL [] hs hs := TakeL.here (o := [])

/-! ### reading -/
section
variable {P : Program} [T : Tab P] {w0 : World} {N : Nat} {ops : Array Oper} {Q : Exit → Act → World → Prop} {env : Env} {hs : Hs} {o : Oper} {rest : List Oper}
theorem run_indexAddr {a : Act} {t e sz by_ : Nat} {x y : Operand} {b off n cap : Nat} {k : IntKind} {i : Int} (ho : o.op = .indexAddr t x y) (hx : a.eval x = .slice (some ⟨b, off, none⟩) n cap) (hy : a.eval y = .int k i) (ht : lk T.T.elm t = some (e, sz, by_)) (h0 : 0 ≤ i) (h1 : i < n) (w : World) :
    (execOp a.eval o).run P w = .ok (.value (.pointer (some ⟨b, off + i.toNat * sz, none⟩))) w := by
  obtain ⟨hu, j, hj, hsz, _⟩ := elm_und (tab_elm ht)
  simp [execOp, ho, hx, hy, Instr.indexAt, asIntOf, underlying, hu, h0, h1, sizeOf, typeInfo, hj, hsz, addr_add]
theorem WL.indexAddr {d : Tmp} {t e sz by_ : Nat} {x y : Operand} {b off n cap : Nat} {k : IntKind} {i : Int} (ho : o.op = .indexAddr t x y) (hx : evo env x = some (.slice (some ⟨b, off, none⟩) n cap)) (hy : evo env y = some (.int k i)) (ht : lk T.T.elm t = some (e, sz, by_)) (h0 : 0 ≤ i) (h1 : i < n)
    (hg : guardE ops env o = some true) (hdd : o.dst = some d) (hd : Nat.blt d N = true) (kk : WL P w0 N ops Q rest ((d, .pointer (some ⟨b, off + i.toNat * sz, none⟩)) :: env) hs) : WL P w0 N ops Q (o :: rest) env hs :=
  WL.valP hg (dst_ok hdd hd) (fun a w ha => run_indexAddr ho (ha.eval hx) (ha.eval hy) ht h0 h1 w) (by rw [hdd]; exact kk)
theorem WQ.indexAddr {K : Act → Prop} {d : Tmp} {t e sz by_ : Nat} {x y : Operand} {b off n cap : Nat} {k : IntKind} {i : Int} (ho : o.op = .indexAddr t x y) (hx : evo env x = some (.slice (some ⟨b, off, none⟩) n cap)) (hy : evo env y = some (.int k i)) (ht : lk T.T.elm t = some (e, sz, by_)) (h0 : 0 ≤ i) (h1 : i < n)
    (hg : guardE ops env o = some true) (hdd : o.dst = some d) (hd : Nat.blt d N = true) (kk : WQ P w0 N ops K rest ((d, .pointer (some ⟨b, off + i.toNat * sz, none⟩)) :: env) hs) : WQ P w0 N ops K (o :: rest) env hs :=
  WQ.val hg (dst_ok hdd hd) (fun a H n' ha hf => run_indexAddr ho (ha.eval hx) (ha.eval hy) ht h0 h1 _) (by rw [hdd]; exact kk)
theorem run_indexArr {a : Act} {t e sz len : Nat} {x y : Operand} {b off : Nat} {k : IntKind} {i : Int} (ho : o.op = .indexAddr t x y) (hx : a.eval x = .pointer (some ⟨b, off, none⟩)) (hy : a.eval y = .int k i) (ht : lk T.T.arr t = some (len, e, sz)) (h0 : 0 ≤ i) (h1 : i < len) (w : World) :
    (execOp a.eval o).run P w = .ok (.value (.pointer (some ⟨b, off + i.toNat * sz, none⟩))) w := by
  obtain ⟨hu, j, hj, hsz⟩ := arr_und (tab_arr ht)
  simp [execOp, ho, hx, hy, Instr.indexAt, asIntOf, underlying, hu, h0, h1, sizeOf, typeInfo, hj, hsz, addr_add, Instr.sureAddr]
theorem WL.indexArr {d : Tmp} {t e sz len : Nat} {x y : Operand} {b off : Nat} {k : IntKind} {i : Int} (ho : o.op = .indexAddr t x y) (hx : evo env x = some (.pointer (some ⟨b, off, none⟩))) (hy : evo env y = some (.int k i)) (ht : lk T.T.arr t = some (len, e, sz)) (h0 : 0 ≤ i) (h1 : i < len)
    (hg : guardE ops env o = some true) (hdd : o.dst = some d) (hd : Nat.blt d N = true) (kk : WL P w0 N ops Q rest ((d, .pointer (some ⟨b, off + i.toNat * sz, none⟩)) :: env) hs) : WL P w0 N ops Q (o :: rest) env hs :=
  WL.valP hg (dst_ok hdd hd) (fun a w ha => run_indexArr ho (ha.eval hx) (ha.eval hy) ht h0 h1 w) (by rw [hdd]; exact kk)

/-! ### cutting -/
def loV (env : Env) : Option Operand → Option Int
  | none => some 0
  | some x => match evo env x with
    | some (.int .i64 i) => some i
    | _ => none
def hiV (env : Env) (n : Nat) : Option Operand → Option Int
  | none => some n
  | some x => match evo env x with
    | some (.int .i64 i) => some i
    | _ => none
/-- Where a cut begins. -/
def cutA (A : Option Addr) (cap l sz : Nat) : Option Addr := if cap = l then A else A.map (·.add (l * sz))
theorem run_bounds {isS : Bool} {n cap : Nat} {env : Env} {a : Act} (ha : Holds N a env) {lo hi : Option Operand} {l h : Int} (hl : loV env lo = some l) (hh : hiV env n hi = some h) (h0 : 0 ≤ l) (h1 : l ≤ h) (h2 : h ≤ cap) (hn : n ≤ cap) (w : World) :
    (Instr.sliceBounds isS n cap (lo.map a.eval) (hi.map a.eval) none).run P w = .ok (l.toNat, h.toNat, cap) w := by
  have bd : ∀ (i : Int) (y : Nat) (code : BoundsCode) (w : World), 0 ≤ i → i ≤ y → (Instr.sliceBound (.int .i64 i) y code).run P w = .ok i.toNat w := fun i y code w h0 h1 => by
    simp [Instr.sliceBound, asIntOf, h0, h1]
  have hl' : (lo = none ∧ l = 0) ∨ ∃ x, lo = some x ∧ a.eval x = .int .i64 l := by
    cases lo with
    | none => simp only [loV, Option.some.injEq] at hl; exact .inl ⟨rfl, hl.symm⟩
    | some x =>
      simp only [loV] at hl
      split at hl
      · rename_i i hx
        simp only [Option.some.injEq] at hl
        subst hl
        exact .inr ⟨x, rfl, ha.eval hx⟩
      · cases hl
  have hh' : (hi = none ∧ h = n) ∨ ∃ x, hi = some x ∧ a.eval x = .int .i64 h := by
    cases hi with
    | none => simp only [hiV, Option.some.injEq] at hh; exact .inl ⟨rfl, hh.symm⟩
    | some x =>
      simp only [hiV] at hh
      split at hh
      · rename_i i hx
        simp only [Option.some.injEq] at hh
        subst hh
        exact .inr ⟨x, rfl, ha.eval hx⟩
      · cases hh
  rcases hl' with ⟨rfl, rfl⟩ | ⟨x, rfl, hx⟩ <;> rcases hh' with ⟨rfl, rfl⟩ | ⟨y, rfl, hy⟩
  · simp [Instr.sliceBounds]
  · simp [Instr.sliceBounds, hy, bd _ _ _ _ (show 0 ≤ h by omega) h2]
  · simp [Instr.sliceBounds, hx, bd _ _ _ _ h0 h1]
  · simp only [Instr.sliceBounds, Option.map_some, hx, hy, Sem.run_bind, Sem.run_pure, Result.andThen_ok, bd _ _ _ _ (show 0 ≤ h by omega) h2, bd l h.toNat _ _ h0 (by omega)]
theorem run_slice {a : Act} {t e sz by_ : Nat} {x : Operand} {lo hi : Option Operand} {A : Option Addr} {n cap : Nat} {l h : Int} (ha : Holds N a env) (ho : o.op = .slice t x lo hi none) (hx : evo env x = some (.slice A n cap)) (ht : lk T.T.elm t = some (e, sz, by_))
    (hl : loV env lo = some l) (hh : hiV env n hi = some h) (h0 : 0 ≤ l) (h1 : l ≤ h) (h2 : h ≤ cap) (hn : n ≤ cap) (w : World) :
    (execOp a.eval o).run P w = .ok (.value (.slice (cutA A cap l.toNat sz) (h.toNat - l.toNat) (cap - l.toNat))) w := by
  obtain ⟨hu, j, hj, hsz, _⟩ := elm_und (tab_elm ht)
  have hb := run_bounds (P := P) (isS := true) ha hl hh h0 h1 h2 hn
  simp only [execOp, ho, Sem.run_bind, Instr.sliceAt, underlying, run_program, Result.andThen_ok, hu, Sem.run_pure, ha.eval hx, Instr.slice, hb, sizeOf, typeInfo, hj, hsz, cutA, Option.map_none]
theorem WL.slice {d : Tmp} {t e sz by_ : Nat} {x : Operand} {lo hi : Option Operand} {A : Option Addr} {n cap : Nat} {l h : Int} (ho : o.op = .slice t x lo hi none) (hx : evo env x = some (.slice A n cap)) (ht : lk T.T.elm t = some (e, sz, by_))
    (hl : loV env lo = some l) (hh : hiV env n hi = some h) (h0 : 0 ≤ l) (h1 : l ≤ h) (h2 : h ≤ cap) (hn : n ≤ cap)
    (hg : guardE ops env o = some true) (hdd : o.dst = some d) (hd : Nat.blt d N = true) (kk : WL P w0 N ops Q rest ((d, .slice (cutA A cap l.toNat sz) (h.toNat - l.toNat) (cap - l.toNat)) :: env) hs) : WL P w0 N ops Q (o :: rest) env hs :=
  WL.valP hg (dst_ok hdd hd) (fun a w ha => run_slice ha ho hx ht hl hh h0 h1 h2 hn w) (by rw [hdd]; exact kk)
theorem run_cutS {a : Act} {t : Nat} {x : Operand} {lo hi : Option Operand} {s : ByteArray} {l h : Int} (ha : Holds N a env) (ho : o.op = .slice t x lo hi none) (hx : evo env x = some (.string s)) (ht : lk T.T.prm t = some .string)
    (hl : loV env lo = some l) (hh : hiV env s.size hi = some h) (h0 : 0 ≤ l) (h1 : l ≤ h) (h2 : h ≤ s.size) (w : World) :
    (execOp a.eval o).run P w = .ok (.value (.string (s.extract l.toNat h.toNat))) w := by
  have hu := (prm_und (tab_prm ht)).1
  have hb := run_bounds (P := P) (isS := false) ha hl hh h0 h1 h2 (Nat.le_refl _)
  simp only [execOp, ho, Sem.run_bind, Instr.sliceAt, underlying, run_program, Result.andThen_ok, hu, Sem.run_pure, ha.eval hx, Instr.slice, Option.map_none, Option.isSome_none, Bool.false_eq_true, if_false, hb]
theorem WL.cutS {d : Tmp} {t : Nat} {x : Operand} {lo hi : Option Operand} {s : ByteArray} {l h : Int} (ho : o.op = .slice t x lo hi none) (hx : evo env x = some (.string s)) (ht : lk T.T.prm t = some .string)
    (hl : loV env lo = some l) (hh : hiV env s.size hi = some h) (h0 : 0 ≤ l) (h1 : l ≤ h) (h2 : h ≤ s.size)
    (hg : guardE ops env o = some true) (hdd : o.dst = some d) (hd : Nat.blt d N = true) (kk : WL P w0 N ops Q rest ((d, .string (s.extract l.toNat h.toNat)) :: env) hs) : WL P w0 N ops Q (o :: rest) env hs :=
  WL.valP hg (dst_ok hdd hd) (fun a w ha => run_cutS ha ho hx ht hl hh h0 h1 h2 w) (by rw [hdd]; exact kk)
theorem WQ.cutS {K : Act → Prop} {d : Tmp} {t : Nat} {x : Operand} {lo hi : Option Operand} {s : ByteArray} {l h : Int} (ho : o.op = .slice t x lo hi none) (hx : evo env x = some (.string s)) (ht : lk T.T.prm t = some .string)
    (hl : loV env lo = some l) (hh : hiV env s.size hi = some h) (h0 : 0 ≤ l) (h1 : l ≤ h) (h2 : h ≤ s.size)
    (hg : guardE ops env o = some true) (hdd : o.dst = some d) (hd : Nat.blt d N = true) (kk : WQ P w0 N ops K rest ((d, .string (s.extract l.toNat h.toNat)) :: env) hs) : WQ P w0 N ops K (o :: rest) env hs :=
  WQ.val hg (dst_ok hdd hd) (fun a H n ha hf => run_cutS ha ho hx ht hl hh h0 h1 h2 _) (by rw [hdd]; exact kk)
end
theorem Rd.cut {hs : Hs} {sz : Nat} {A : Option Addr} {n cap : Nat} {cs : List Value} (h : Rd hs sz (.slice A n cap) cs) (hsz : 0 < sz) {l r : Nat} (h1 : l ≤ r) (h2 : r ≤ n) :
    Rd hs sz (.slice (cutA A cap l sz) (r - l) (cap - l)) ((cs.take (r * sz)).drop (l * sz)) := by
  obtain ⟨A', n', cap', he, hn, hc, hr⟩ := h
  simp only [Value.slice.injEq] at he
  obtain ⟨rfl, rfl, rfl⟩ := he
  have hle : r * sz ≤ cs.length := by rw [← hn]; exact Nat.mul_le_mul_right _ h2
  have hlen : ((cs.take (r * sz)).drop (l * sz)).length = (r - l) * sz := by
    rw [List.length_drop, List.length_take, Nat.min_eq_left hle, Nat.sub_mul]
  refine ⟨_, _, _, rfl, hlen.symm, by omega, fun hp => ?_⟩
  have hpos : 0 < r - l := by
    rw [hlen] at hp
    exact Nat.pos_of_mul_pos_right hp
  obtain ⟨b, off, c, T, fr, rfl, hm, hcell⟩ := hr (by rw [← hn]; exact Nat.mul_pos (by omega) hsz)
  refine ⟨b, off + l * sz, c, T, fr, ?_, hm, fun j hj => ?_⟩
  · unfold cutA
    rw [if_neg (by omega)]
    simp [addr_add]
  · rw [hlen, Nat.sub_mul] at hj
    have := Nat.mul_le_mul_right sz h1
    rw [List.getElem?_drop, List.getElem?_take, if_pos (by omega), Nat.add_assoc]
    exact hcell _ (by omega)
theorem Own.cut {T : TypeId} {sz : Nat} {A : Option Addr} {n cap : Nat} {cs : List Value} {o : Hs} (h : Own T sz (.slice A n cap) cs o) {l r : Nat} (h1 : l ≤ r) (h2 : r ≤ n) :
    Own T sz (.slice (cutA A cap l sz) (r - l) (cap - l)) ((cs.take (r * sz)).drop (l * sz)) o := by
  rcases h with ⟨he, rfl, rfl⟩ | ⟨b, off, n', cap', c, he, rfl, hn, hc, hsize, hcell⟩
  · simp only [Value.slice.injEq] at he
    obtain ⟨rfl, rfl, rfl⟩ := he
    refine .inl ⟨?_, by simp, rfl⟩
    obtain rfl : l = 0 := by omega
    obtain rfl : r = 0 := by omega
    simp [cutA]
  · simp only [Value.slice.injEq] at he
    obtain ⟨rfl, rfl, rfl⟩ := he
    have hle : r * sz ≤ cs.length := by rw [hn]; exact Nat.mul_le_mul_right _ h2
    have hlen : ((cs.take (r * sz)).drop (l * sz)).length = (r - l) * sz := by
      rw [List.length_drop, List.length_take, Nat.min_eq_left hle, Nat.sub_mul]
    have hmul := Nat.mul_le_mul_right sz h1
    have hcl : (cap - l) * sz = cap * sz - l * sz := Nat.sub_mul ..
    have hll : l * sz ≤ cap * sz := Nat.mul_le_mul_right sz (by omega)
    by_cases e : cap = l
    · refine .inr ⟨b, off, r - l, cap - l, c, by simp [cutA, e], rfl, hlen, by omega, by rw [hcl]; omega, fun j hj => ?_⟩
      rw [hlen] at hj
      obtain rfl : r = l := by omega
      simp at hj
    · refine .inr ⟨b, off + l * sz, r - l, cap - l, c, by simp [cutA, e, addr_add], rfl, hlen, by omega, by rw [hcl]; omega, fun j hj => ?_⟩
      rw [hlen, Nat.sub_mul] at hj
      rw [List.getElem?_drop, List.getElem?_take, if_pos (by omega), Nat.add_assoc]
      exact hcell _ (by omega)

/-! ### appending -/
theorem firstCells_rd {P : Program} {w0 : World} {hs : Hs} {H : Array Obj} {n' : Nat} {sz : Nat} {A : Option Addr} {n cap : Nat} {cs : List Value} (h : Rd hs sz (.slice A n cap) cs) (hf : HF H hs) :
    (Builtin.firstCells sz n (.slice A n cap)).run P (wd w0 H n') = .ok cs.toArray (wd w0 H n') := by
  obtain ⟨A', m, cap', he, hn, hc, hr⟩ := h
  simp only [Value.slice.injEq] at he
  obtain ⟨rfl, rfl, rfl⟩ := he
  by_cases hz : cs.length = 0
  · obtain rfl := List.eq_nil_of_length_eq_zero hz
    have hz' : n * sz = 0 := by simpa using hn
    cases A with
    | none => simp [Builtin.firstCells]
    | some a => simp [Builtin.firstCells, hz', loadCells, loadCellsFrom]
  · obtain ⟨b, off, c, T, fr, rfl, hm, hcell⟩ := hr (by omega)
    have hb := hm.at_ hf
    have hle : off + cs.length ≤ c.size := by
      have := hcell (cs.length - 1) (by omega)
      rw [List.getElem?_eq_getElem (by omega)] at this
      have := (Array.getElem?_eq_some_iff.1 this).1
      omega
    simp only [Builtin.firstCells, hn]
    rw [run_loadCells hb hle]
    congr 1
    apply Array.ext_getElem?
    intro i
    rw [Array.getElem?_extract]
    by_cases hi : i < cs.length
    · rw [if_pos (by omega), hcell i hi]; simp
    · rw [if_neg (by omega)]; simp; omega

/-- What is appended: a slice's cells, a string's bytes. -/
def News (P : Program) (hs : Hs) (sz : Nat) (t2 : TypeId) (x : Value) (m : Nat) (new : List Value) : Prop :=
  (∀ u ∈ new, u.oneCell' = true) ∧ (((∃ e', P.underlying t2 = some (.slice e')) ∧ (∃ A cap, x = .slice A m cap) ∧ Rd hs sz x new) ∨ (P.underlying t2 = some .string ∧ sz = 1 ∧ ∃ s, x = .string s ∧ m = s.size ∧ new = byteCells s))
theorem News.src {P : Program} {w0 : World} {hs : Hs} {H : Array Obj} {n' sz : Nat} {t2 : TypeId} {x : Value} {m : Nat} {new : List Value} (h : News P hs sz t2 x m new) (hf : HF H hs) : Src P sz t2 x m new (wd w0 H n') := by
  obtain ⟨h1, ⟨hk, ⟨A, cap, rfl⟩, hr⟩ | ⟨hk, rfl, s, rfl, rfl, rfl⟩⟩ := h
  · obtain ⟨A', n, cap', he, hn, _, _⟩ := id hr
    simp only [Value.slice.injEq] at he
    obtain ⟨rfl, rfl, rfl⟩ := he
    exact ⟨.inl hk, fun _ => rfl, firstCells_rd hr hf, firstCells_rd (w0 := w0) (n' := n' + 1) hr hf, hn.symm, h1⟩
  · exact Src.ofString (w := wd w0 H n') hk s
theorem wd_setCells {w0 : World} {n b : Nat} {T : TypeId} : ∀ (vs : List Value) (off : Nat) {H : Array Obj} {c : Array Value}, H[b]? = some (.cells c T (0, 0)) →
    (wd w0 H n).setCells b off vs = wd w0 (H.setIfInBounds b (.cells (splice c off vs) T (0, 0))) n
  | [], off, H, c, h => by
    simp only [World.setCells, splice]
    congr 1
    apply Array.ext_getElem?
    intro j
    by_cases e : b = j
    · subst e
      have hb := (Array.getElem?_eq_some_iff.1 h).1
      rw [Array.getElem?_setIfInBounds_self, h]; simp [hb]
    · rw [Array.getElem?_setIfInBounds_ne e]
  | v :: vs, off, H, c, h => by
    have hb := (Array.getElem?_eq_some_iff.1 h).1
    have h' : (H.setIfInBounds b (.cells (c.setIfInBounds off v) T (0, 0)))[b]? = some (.cells (c.setIfInBounds off v) T (0, 0)) := by rw [Array.getElem?_setIfInBounds_self]; simp [hb]
    rw [World.setCells, wd_setCell h, wd_setCells vs (off + 1) h']
    show wd w0 ((H.setIfInBounds b _).setIfInBounds b (.cells (splice (c.setIfInBounds off v) (off + 1) vs) T (0, 0))) n = wd w0 (H.setIfInBounds b (.cells (splice (c.setIfInBounds off v) (off + 1) vs) T (0, 0))) n
    simp
/-- append to a slice that is its owner's own. -/
theorem append_own {P : Program} [T : Tab P] {w0 : World} {hs rest : Hs} {H : Array Obj} {n' t e sz by_ : Nat} {t2 ty : TypeId} {A : Option Addr} {n cap : Nat} {x z : Value} {cs new : List Value} {o : Hs} {m : Nat} (ht : lk T.T.elm t = some (e, sz, by_)) (hz : lk T.T.zro e = some z) (hzs : z.cells.size = sz)
    (hown : Own e sz (.slice A n cap) cs o) (ho : TakeL o hs rest) (hnew : News P hs sz t2 x m new)
    (hby : (n + m) * by_ ≤ 140737488355328) (hmax : n + m ≤ 9223372036854775807) (hf : HF H hs) :
    ∃ v' H' n'' o', (Builtin.append_ #[t, t2] ty #[.slice A n cap, x]).run P (wd w0 H n') = .ok v' (wd w0 H' n'') ∧ HF H' (o' ++ rest) ∧ Own e sz v' (cs ++ new) o' ∧ ∃ A' cap', v' = .slice A' (n + m) cap' := by
  obtain ⟨hu, i, hi, hisz, hiby⟩ := elm_und (tab_elm ht)
  obtain ⟨i', hi', hzi⟩ := zro_inf (tab_zro hz)
  obtain rfl : i' = i := by rw [hi] at hi'; exact (Option.some.inj hi').symm
  subst hisz
  have hsrc := hnew.src (w0 := w0) (n' := n') hf
  have hrd : Rd hs i'.size (.slice A n cap) cs := (hown.rd rest).mono fun b x hm => .of_mem (ho.perm.mem_iff.2 hm.mem)
  have hf2 := hf.perm ho.perm
  have grow : cap < n + m → n ≤ cap → ∃ v' H' n'' o', (Builtin.append_ #[t, t2] ty #[.slice A n cap, x]).run P (wd w0 H n') = .ok v' (wd w0 H' n'') ∧ HF H' (o' ++ rest) ∧ Own e i'.size v' (cs ++ new) o' ∧ ∃ A' cap', v' = .slice A' (n + m) cap' := by
    intro hg hnc
    have hold := firstCells_rd (P := P) (w0 := w0) (n' := n' + 1) hrd hf
    have hrun := run_append_grow_src (P := P) (wd w0 H n') t t2 ty e i' z hu hi hzi A n cap cs hold x m new hsrc hg (by omega) (growslice_fits hg (by rw [hiby]; exact hby))
    have hfr : HF H rest := hf2.sublist (List.sublist_append_right _ _)
    refine ⟨_, H.push (.cells ((cs ++ new).toArray ++ Builtin.zeroCells z.cells (grownCap (wd w0 H n') (n + m) cap e - (n + m))) e (0, 0)), n' + 1, [(H.size, .cells ((cs ++ new).toArray ++ Builtin.zeroCells z.cells (grownCap (wd w0 H n') (n + m) cap e - (n + m))) e (0, 0))], hrun, hfr.push _, ?_, _, _, rfl⟩
    · have hn' : cs.length = n * i'.size := by
        obtain ⟨_, _, _, he, h1, _⟩ := hrd.form
        simp only [Value.slice.injEq] at he
        obtain ⟨rfl, rfl, rfl⟩ := he
        exact h1.symm
      have hge := grownCap_ge (wd w0 H n') (n + m) cap e
      have hlen : (cs ++ new).length = (n + m) * i'.size := by rw [List.length_append, hn', hsrc.newsLen, Nat.add_mul]
      refine .inr ⟨H.size, 0, n + m, _, _, rfl, rfl, hlen, hge, ?_, fun j hj => ?_⟩
      · rw [Array.size_append, List.size_toArray, hlen]
        simp only [Builtin.zeroCells, Array.size_map, Array.size_range, hzs, ← Nat.add_mul]
        rw [Nat.zero_add]
        exact Nat.le_of_eq (congrArg (· * i'.size) (by omega))
      · rw [Nat.zero_add, Array.getElem?_append_left (by simpa using hj)]
        simp
  rcases id hown with ⟨he, rfl, rfl⟩ | ⟨b, off, n2, cap2, c, he, rfl, hn, hnc, hsize, hcell⟩
  · simp only [Value.slice.injEq] at he
    obtain ⟨rfl, rfl, rfl⟩ := he
    by_cases hm : m = 0
    · subst hm
      have hn0 : new = [] := List.eq_nil_of_length_eq_zero (by rw [hsrc.newsLen]; simp)
      subst hn0
      refine ⟨.slice none 0 0, H, n', [], ?_, by simpa using hf2, .inl ⟨rfl, by simp, rfl⟩, _, _, rfl⟩
      have hl := hsrc.len
      have hc := hsrc.cells
      rcases hsrc.kind with ⟨e', hk⟩ | hk <;> simp [Builtin.append_, run_underlying hu, run_underlying hk, sizeOf, typeInfo, hi, hl, hc]
    · exact grow (by omega) (Nat.le_refl _)
  · simp only [Value.slice.injEq] at he
    obtain ⟨rfl, rfl, rfl⟩ := he
    by_cases hroom : n + m ≤ cap
    · have hb : H[b]? = some (.cells c e (0, 0)) := hf2.at_ _ _ (by simp)
      have hnl := hsrc.newsLen
      have hmul : (n + m) * i'.size ≤ cap * i'.size := Nat.mul_le_mul_right _ hroom
      rw [Nat.add_mul] at hmul
      have hrun := run_append_room_src (P := P) (wd w0 H n') t t2 ty e i' hu hi b off n cap x m new hsrc hroom
        (fun j hj => by rw [wd_cell hb, Array.getElem?_eq_getElem (by omega)]; rfl) (fun j hj => wd_frozen hb)
      rw [wd_setCells new _ hb] at hrun
      refine ⟨_, _, n', [(b, _)], hrun, hf2.upd .head, ?_, _, _, rfl⟩
      refine .inr ⟨b, off, n + m, cap, _, rfl, rfl, by rw [List.length_append, hn, hnl, Nat.add_mul], hroom, by rw [splice_size]; exact hsize, fun j hj => ?_⟩
      rw [List.length_append] at hj
      rw [splice_get _ _ _ (by omega)]
      by_cases h1 : j < cs.length
      · rw [if_neg (by omega), List.getElem?_append_left h1]; exact hcell j h1
      · rw [if_pos (by omega), List.getElem?_append_right (by omega)]
        congr 1; omega
    · exact grow (by omega) hnc
section
variable {P : Program} [T : Tab P] {w0 : World} {N : Nat} {ops : Array Oper} {Q : Exit → Act → World → Prop} {env : Env} {hs : Hs} {o : Oper} {rest : List Oper}
theorem WL.append {d : Tmp} {c : Call} {t t2 e sz by_ : Nat} {A : Option Addr} {n cap : Nat} {x z : Value} {cs new : List Value} {ow hr : Hs} {m : Nat} (ho : o.op = .call c) (hc : c.callee = .builtin .append) (hx : evs env c.args.toList = some [.slice A n cap, x]) (hat : c.argTypes = #[t, t2])
    (ht : lk T.T.elm t = some (e, sz, by_)) (hz : lk T.T.zro e = some z) (hzs : z.cells.size = sz)
    (hown : Own e sz (.slice A n cap) cs ow) (hto : TakeL ow hs hr) (hnew : News P hs sz t2 x m new) (hby : (n + m) * by_ ≤ 140737488355328) (hmax : n + m ≤ 9223372036854775807)
    (hg : guardE ops env o = some true) (hdd : o.dst = some d) (hd : Nat.blt d N = true)
    (k : ∀ A' cap' o', Own e sz (.slice A' (n + m) cap') (cs ++ new) o' → WL P w0 N ops Q rest ((d, .slice A' (n + m) cap') :: env) (o' ++ hr)) : WL P w0 N ops Q (o :: rest) env hs := by
  refine WL.valR (fun v h' => ∃ A' cap' o', v = .slice A' (n + m) cap' ∧ h' = o' ++ hr ∧ Own e sz (.slice A' (n + m) cap') (cs ++ new) o') hg (dst_ok hdd hd) (fun a H n1 ha hf => ?_)
    (fun v h' ⟨A', cap', o', h1, h2, h3⟩ => by subst h1; subst h2; rw [hdd]; exact k A' cap' o' h3)
  obtain ⟨v', H', n'', o', h1, h2, h3, A', cap', rfl⟩ := append_own (w0 := w0) (n' := n1) (ty := o.type) ht hz hzs hown hto hnew hby hmax hf
  have hargs : c.args.map a.eval = #[.slice A n cap, x] := by
    apply Array.toList_inj.1
    rw [Array.toList_map, ha.evals hx]
  refine ⟨_, H', n'', _, ?_, h2, A', cap', o', rfl, rfl, h3⟩
  simp [execOp, ho, resolve, hc, hargs, invoke, builtin, hat, h1]
end
end Go.Pan
