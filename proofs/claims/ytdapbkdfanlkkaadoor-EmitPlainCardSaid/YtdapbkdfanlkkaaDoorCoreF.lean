/- The walk's rules for making slices and structs, copying, and for bytes and strings. Nothing of the program stands here. -/
import Derived.Test.YtdapbkdfanlkkaaDoorCoreE
import Derived.Lib.ConvBytes
import Derived.Laws.Tables
set_option linter.unusedSectionVars false
set_option linter.unusedVariables false
set_option linter.unusedSimpArgs false
namespace Go.Pan
open Go

/-- bytes as cells -/
def enc8 (l : List UInt8) : List Value := l.map fun c => .int .u8 c.toNat
theorem enc8_length (l : List UInt8) : (enc8 l).length = l.length := by simp [enc8]
theorem enc8_one (l : List UInt8) : ∀ u ∈ enc8 l, u.oneCell' = true := by
  intro u hu
  obtain ⟨c, _, rfl⟩ := List.mem_map.1 hu
  rfl
theorem enc8_append (l m : List UInt8) : enc8 (l ++ m) = enc8 l ++ enc8 m := by simp [enc8]
theorem byteCells_enc8 (s : ByteArray) : byteCells s = enc8 s.data.toList := rfl
theorem enc8_get {l : List UInt8} {j : Nat} (h : j < l.length) : (enc8 l)[j]? = some (.int .u8 l[j].toNat) := by simp [enc8, h]

section
variable {P : Program} [T : Tab P] {w0 : World} {N : Nat} {ops : Array Oper} {Q : Exit → Act → World → Prop} {env : Env} {hs : Hs} {o : Oper} {rest : List Oper}
theorem WL.make {d : Tmp} {t e sz by_ : Nat} {x y : Operand} {z : Value} {l c : Int} (ho : o.op = .makeSlice t x y) (hx : evo env x = some (.int .i64 l)) (hy : evo env y = some (.int .i64 c)) (ht : lk T.T.elm t = some (e, sz, by_)) (hz : lk T.T.zro e = some z) (hzs : z.cells.size = sz)
    (h0 : 0 ≤ l) (hlc : l ≤ c) (hb : by_ * c.toNat ≤ 281474976710656) (hmax : c ≤ 9223372036854775807)
    (hg : guardE ops env o = some true) (hdd : o.dst = some d) (hd : Nat.blt d N = true)
    (k : ∀ b, WL P w0 N ops Q rest ((d, .slice (some ⟨b, 0, none⟩) l.toNat c.toNat) :: env) ((b, .cells (madeCells z.cells (c.toNat * sz)) e (0, 0)) :: hs)) : WL P w0 N ops Q (o :: rest) env hs := by
  refine WL.valR (fun v h' => ∃ b, v = .slice (some ⟨b, 0, none⟩) l.toNat c.toNat ∧ h' = (b, .cells (madeCells z.cells (c.toNat * sz)) e (0, 0)) :: hs) hg (dst_ok hdd hd) (fun a H n ha hf => ⟨_, H.push _, n, _, ?_, hf.push _, _, rfl, rfl⟩) (fun v h' ⟨b, h1, h2⟩ => by subst h1; subst h2; rw [hdd]; exact k b)
  obtain ⟨hu, i, hi, hisz, hiby⟩ := elm_und (tab_elm ht)
  obtain ⟨i', hi', hzi⟩ := zro_inf (tab_zro hz)
  obtain rfl : i' = i := by rw [hi] at hi'; exact (Option.some.inj hi').symm
  have hm := run_make (P := P) (wd w0 H n) t e i' z hu hi hzi .i64 .i64 l c h0 hlc (by rw [hiby, show (by_ : Int) * c = ((by_ * c.toNat : Nat) : Int) by rw [Int.natCast_mul, Int.toNat_of_nonneg (by omega)]]; omega) hmax
  simp only [execOp, ho, ha.eval hx, ha.eval hy, Sem.run_bind, hm, Result.andThen_ok, Sem.run_pure, hisz]
  rfl
/-- A slice literal. -/
theorem WL.lit {d : Tmp} {t e sz by_ len : Nat} {parts : Array (Nat × Operand)} {z : Value} {vs : List (Nat × Value)} {cells : Array Value} (ho : o.op = .buildSlice t len parts) (hx : evp env parts.toList = some vs) (ht : lk T.T.elm t = some (e, sz, by_)) (hz : lk T.T.zro e = some z)
    (hlen : (Nat.ble (len * sz) 16777216 && Nat.blt 0 (len * sz)) = true) (hfill : Instr.fill (fun i => some (i * sz, sz)) ((Array.range (len * sz)).map (z.cells[· % z.cells.size]!)) vs = some cells)
    (hg : guardE ops env o = some true) (hdd : o.dst = some d) (hd : Nat.blt d N = true)
    (k : ∀ b, WL P w0 N ops Q rest ((d, .slice (some ⟨b, 0, none⟩) len len) :: env) ((b, .cells cells e (0, 0)) :: hs)) : WL P w0 N ops Q (o :: rest) env hs := by
  refine WL.valR (fun v h' => ∃ b, v = .slice (some ⟨b, 0, none⟩) len len ∧ h' = (b, .cells cells e (0, 0)) :: hs) hg (dst_ok hdd hd) (fun a H n ha hf => ⟨_, H.push (.cells cells e (0, 0)), n, _, ?_, hf.push _, _, rfl, rfl⟩) (fun v h' ⟨b, h1, h2⟩ => by subst h1; subst h2; rw [hdd]; exact k b)
  obtain ⟨hu, i, hi, hisz, hiby⟩ := elm_und (tab_elm ht)
  obtain ⟨i', hi', hzi⟩ := zro_inf (tab_zro hz)
  obtain rfl : i' = i := by rw [hi] at hi'; exact (Option.some.inj hi').symm
  have hp' : (parts.map fun (i, x) => (i, a.eval x)) = vs.toArray := by
    apply Array.toList_inj.1
    rw [Array.toList_map, ← ha.evalp hx]
  rw [Bool.and_eq_true] at hlen
  have hle := Nat.le_of_ble_eq_true hlen.1
  have h0 : ¬ len * sz = 0 := by have := hlen.2; simp only [Nat.blt_eq] at this; omega
  simp only [execOp, ho, hp', Sem.run_bind, Instr.buildSlice, underlying, run_program, Result.andThen_ok, hu, Sem.run_pure, sizeOf, typeInfo, hi, hisz]
  rw [if_neg (by omega)]
  simp only [h0, if_false, zeroValue, typeInfo, run_program, hi, hzi, Sem.run_pure, Sem.run_bind, Result.andThen_ok, hfill, newRow, run_newObj]
  rfl
/-- An empty slice literal: []T{}. -/
theorem WL.lit0 {d : Tmp} {t e sz by_ : Nat} (ho : o.op = .buildSlice t 0 #[]) (ht : lk T.T.elm t = some (e, sz, by_))
    (hg : guardE ops env o = some true) (hdd : o.dst = some d) (hd : Nat.blt d N = true)
    (k : ∀ b, WL P w0 N ops Q rest ((d, .slice (some ⟨b, 0, none⟩) 0 0) :: env) ((b, .cells #[] e (0, 0)) :: hs)) : WL P w0 N ops Q (o :: rest) env hs := by
  refine WL.valR (fun v h' => ∃ b, v = .slice (some ⟨b, 0, none⟩) 0 0 ∧ h' = (b, .cells #[] e (0, 0)) :: hs) hg (dst_ok hdd hd) (fun a H n ha hf => ⟨_, H.push (.cells #[] e (0, 0)), n, _, ?_, hf.push _, _, rfl, rfl⟩) (fun v h' ⟨b, h1, h2⟩ => by subst h1; subst h2; rw [hdd]; exact k b)
  obtain ⟨hu, i, hi, hisz, hiby⟩ := elm_und (tab_elm ht)
  have hz : ∀ f : Nat → Value, (Array.range 0).map f = #[] := fun f => by simp
  simp only [execOp, ho, Sem.run_bind, Instr.buildSlice, underlying, run_program, Result.andThen_ok, hu, Sem.run_pure, sizeOf, typeInfo, hi, hisz, Nat.zero_mul]
  rw [if_neg (by omega)]
  simp [hz, Instr.fill, newRow]
  exact ⟨rfl, rfl⟩
/-- A struct's value. -/
theorem run_buildV {a : Act} {t : Nat} {parts : Array (Nat × Operand)} {vs : List (Nat × Value)} {fs : List (Nat × Nat)} {z : Value} {cells : Array Value} (ha : Holds N a env) (ho : o.op = .build t parts) (hx : evp env parts.toList = some vs) (hf : lk T.T.fld t = some fs) (hz : lk T.T.zro t = some z)
    (hfill : Instr.fill (fs[·]?) z.cells vs = some cells) (w : World) : (execOp a.eval o).run P w = .ok (.value (.agg cells)) w := by
  have hp' : (parts.map fun (i, x) => (i, a.eval x)) = vs.toArray := by
    apply Array.toList_inj.1
    rw [Array.toList_map, ← ha.evalp hx]
  obtain ⟨i, hi, hzi⟩ := zro_inf (tab_zro hz)
  have hfl := tab_fld hf
  have key : ∀ (l : List Field) (r : List (Nat × Nat)), fldL P l = some r → l.mapM (fun f => (P.info? f.type).map fun i => (f.offset, i.size)) = some r := by
    intro l
    induction l with
    | nil => intro r h; simp [fldL] at h; subst h; simp
    | cons f l ih =>
      intro r h
      simp only [fldL] at h
      split at h
      · rename_i j l' hj hl
        simp only [Option.some.injEq] at h
        subst h
        rw [List.mapM_cons]
        simp [hj, ih _ hl]
      · cases h
  unfold fldOf at hfl
  split at hfl
  · rename_i fs' hu
    have hb : P.built t vs.toArray.toList = some cells := by
      unfold Program.built
      simp only [hi, hu, hzi, key _ _ hfl]
      simpa using hfill
    have hr := run_build (P := P) w t vs.toArray cells hb
    simp only [execOp, ho, hp', Sem.run_bind, hr, Result.andThen_ok, Sem.run_pure]
  · cases hfl
theorem WL.build {d : Tmp} {t : Nat} {parts : Array (Nat × Operand)} {vs : List (Nat × Value)} {fs : List (Nat × Nat)} {z : Value} {cells : Array Value} (ho : o.op = .build t parts) (hx : evp env parts.toList = some vs) (hf : lk T.T.fld t = some fs) (hz : lk T.T.zro t = some z)
    (hfill : Instr.fill (fs[·]?) z.cells vs = some cells) (hg : guardE ops env o = some true) (hdd : o.dst = some d) (hd : Nat.blt d N = true)
    (k : WL P w0 N ops Q rest ((d, .agg cells) :: env) hs) : WL P w0 N ops Q (o :: rest) env hs :=
  WL.valP hg (dst_ok hdd hd) (fun a w ha => run_buildV ha ho hx hf hz hfill w) (by rw [hdd]; exact k)
theorem WQ.build {K : Act → Prop} {d : Tmp} {t : Nat} {parts : Array (Nat × Operand)} {vs : List (Nat × Value)} {fs : List (Nat × Nat)} {z : Value} {cells : Array Value} (ho : o.op = .build t parts) (hx : evp env parts.toList = some vs) (hf : lk T.T.fld t = some fs) (hz : lk T.T.zro t = some z)
    (hfill : Instr.fill (fs[·]?) z.cells vs = some cells) (hg : guardE ops env o = some true) (hdd : o.dst = some d) (hd : Nat.blt d N = true)
    (k : WQ P w0 N ops K rest ((d, .agg cells) :: env) hs) : WQ P w0 N ops K (o :: rest) env hs :=
  WQ.val hg (dst_ok hdd hd) (fun a H n ha _ => run_buildV ha ho hx hf hz hfill _) (by rw [hdd]; exact k)
theorem WA.build {hq : Hs} {fuel : Nat} {listed : Array Bool} (i : Nat) {oi : Oper} {d : Tmp} {t : Nat} {parts : Array (Nat × Operand)} {vs : List (Nat × Value)} {fs : List (Nat × Nat)} {z : Value} {cells : Array Value} (hi : ops[i]? = some oi) (ho : oi.op = .build t parts) (hx : evp env parts.toList = some vs) (hf : lk T.T.fld t = some fs) (hz : lk T.T.zro t = some z)
    (hfill : Instr.fill (fs[·]?) z.cells vs = some cells) (hside : (Region.noSelect ops && Region.free .any ops listed i && (Region.ready .any ops listed).contains i) = true)
    (hQ : ∀ c a v w, Q (.panic c) (a.put oi.dst v) w → Q (.panic c) a w) (hg : guardE ops env oi = some true) (hdd : oi.dst = some d) (hd : Nat.blt d N = true)
    (k : WA P w0 N ops Q hq fuel (listed.setIfInBounds i true) ((d, .agg cells) :: env) hs) : WA P w0 N ops Q hq (fuel + 1) listed env hs :=
  WA.takeV i hi hside hQ hg (dst_ok hdd hd) (fun a H n ha _ => run_buildV ha ho hx hf hz hfill _) (by rw [hdd]; exact k)

/-! ### bytes and strings -/
theorem run_str {a : Act} {H : Array Obj} {n : Nat} {s t e : Nat} {sz by_ : Nat} {x : Operand} {v : Value} {l : List UInt8} (ho : o.op = .convert s t x) (hx : a.eval x = v) (hs' : lk T.T.elm s = some (e, 1, by_)) (he : lk T.T.prm e = some (.int .u8)) (ht : lk T.T.prm t = some .string) (hr : Rd hs 1 v (enc8 l)) (hf : HF H hs) :
    (execOp a.eval o).run P (wd w0 H n) = .ok (.value (.string ⟨l.toArray⟩)) (wd w0 H n) := by
  obtain ⟨h1, _⟩ := elm_und (tab_elm hs')
  have h2 := (prm_und (tab_prm he)).1
  have h3 := (prm_und (tab_prm ht)).1
  obtain ⟨A, m, cap, rfl, hm, hc, hcell⟩ := hr
  rw [Nat.mul_one, enc8_length] at hm
  subst hm
  have hrun : (convert s t (.slice A l.length cap)).run P (wd w0 H n) = .ok (.string ⟨l.toArray⟩) (wd w0 H n) := by
    by_cases h0 : l.length = 0
    · obtain rfl := List.eq_nil_of_length_eq_zero h0
      cases A with
      | none => rw [run_convert_bytes_nil (P := P) _ s e h1 h2 _ cap t h3]; rfl
      | some ad => exact run_convert_bytes_back (P := P) _ s t e ad cap [] h1 h2 h3 (fun j hj => by simp at hj)
    · obtain ⟨b, off, c, T', fr, rfl, hm, hce⟩ := hcell (by rw [enc8_length]; omega)
      refine run_convert_bytes_back (P := P) _ s t e _ cap l h1 h2 h3 (fun j hj => ?_)
      rw [addr_add, wd_cell (hm.at_ hf), hce j (by rw [enc8_length]; exact hj), enc8_get hj]
  simp [execOp, ho, hx, hrun]
theorem WL.str {d : Tmp} {s t e by_ : Nat} {x : Operand} {v : Value} {l : List UInt8} (ho : o.op = .convert s t x) (hx : evo env x = some v) (hs' : lk T.T.elm s = some (e, 1, by_)) (he : lk T.T.prm e = some (.int .u8)) (ht : lk T.T.prm t = some .string) (hr : Rd hs 1 v (enc8 l))
    (hg : guardE ops env o = some true) (hdd : o.dst = some d) (hd : Nat.blt d N = true) (k : WL P w0 N ops Q rest ((d, .string ⟨l.toArray⟩) :: env) hs) : WL P w0 N ops Q (o :: rest) env hs :=
  WL.val hg (dst_ok hdd hd) (fun a H n ha hf => ⟨H, n, run_str (sz := 1) ho (ha.eval hx) hs' he ht hr hf, hf⟩) (by rw [hdd]; exact k)
theorem WQ.str {K : Act → Prop} {d : Tmp} {s t e by_ : Nat} {x : Operand} {v : Value} {l : List UInt8} (ho : o.op = .convert s t x) (hx : evo env x = some v) (hs' : lk T.T.elm s = some (e, 1, by_)) (he : lk T.T.prm e = some (.int .u8)) (ht : lk T.T.prm t = some .string) (hr : Rd hs 1 v (enc8 l))
    (hg : guardE ops env o = some true) (hdd : o.dst = some d) (hd : Nat.blt d N = true) (k : WQ P w0 N ops K rest ((d, .string ⟨l.toArray⟩) :: env) hs) : WQ P w0 N ops K (o :: rest) env hs :=
  WQ.val hg (dst_ok hdd hd) (fun a H n ha hf => run_str (sz := 1) ho (ha.eval hx) hs' he ht hr hf) (by rw [hdd]; exact k)
/-- []byte(s) -/
theorem WL.bytes {d : Tmp} {s t e by_ : Nat} {x : Operand} {u : ByteArray} (ho : o.op = .convert s t x) (hx : evo env x = some (.string u)) (hs' : lk T.T.prm s = some .string) (ht : lk T.T.elm t = some (e, 1, by_)) (he : lk T.T.prm e = some (.int .u8))
    (hg : guardE ops env o = some true) (hdd : o.dst = some d) (hd : Nat.blt d N = true)
    (k : ∀ b cap c fr, u.size ≤ cap → Rd ((b, .cells c e fr) :: hs) 1 (.slice (some ⟨b, 0, none⟩) u.size cap) (enc8 u.data.toList) → WL P w0 N ops Q rest ((d, .slice (some ⟨b, 0, none⟩) u.size cap) :: env) ((b, .cells c e fr) :: hs)) : WL P w0 N ops Q (o :: rest) env hs := by
  have h1 := (prm_und (tab_prm hs')).1
  obtain ⟨h2, _⟩ := elm_und (tab_elm ht)
  have h3 := (prm_und (tab_prm he)).1
  refine WL.valR (fun v h' => ∃ b cap c fr, u.size ≤ cap ∧ Rd ((b, .cells c e fr) :: hs) 1 (.slice (some ⟨b, 0, none⟩) u.size cap) (enc8 u.data.toList) ∧ v = .slice (some ⟨b, 0, none⟩) u.size cap ∧ h' = (b, .cells c e fr) :: hs) hg (dst_ok hdd hd) (fun a H n ha hf => ?_)
    (fun v h' ⟨b, cap, c, fr, hc, hr, e1, e2⟩ => by subst e1; subst e2; rw [hdd]; exact k b cap c fr hc hr)
  have hrun := Lib.run_convert_string_bytes (P := P) (wd w0 H n) s t e u h1 h2 h3
  have hge := grownCap_ge (wd w0 H n) u.size 0 e
  refine ⟨_, H.push (.cells (Lib.bytesCells (wd w0 H n) e u) e ((Lib.bytesCells (wd w0 H n) e u).size, (Lib.bytesCells (wd w0 H n) e u).size + 1)), n + 1, _, ?_, hf.push _, H.size, grownCap (wd w0 H n) u.size 0 e, _, _, hge, ?_, rfl, rfl⟩
  · simp only [execOp, ho, ha.eval hx, Sem.run_bind, hrun, Result.andThen_ok, Sem.run_pure]
    congr 1
    unfold Lib.bytesWorld World.freeze
    rw [if_neg (by omega)]
    show wd w0 ((H.push (.cells (Lib.bytesCells (wd w0 H n) e u) e)).modify H.size _) (n + 1) = wd w0 _ (n + 1)
    congr 1
    apply Array.ext_getElem?
    intro i
    rw [Array.getElem?_modify, Array.getElem?_push, Array.getElem?_push]
    by_cases hi : i = H.size
    · subst hi; simp
    · rw [if_neg (by omega), if_neg hi, if_neg hi]
  · refine ⟨_, _, _, rfl, by simp [enc8], hge, fun hp => ⟨H.size, 0, _, e, _, rfl, .head, fun j hj => ?_⟩⟩
    rw [enc8_length] at hj
    unfold Lib.bytesCells
    rw [Nat.zero_add, Array.getElem?_append_left (by simpa using hj), enc8_get hj]
    rw [Array.getElem?_map, Array.getElem?_eq_getElem (by simpa using hj)]
    simp

/-! ### copying -/
/-- copy into a row of the walk's own: what is copied is read first. -/
theorem WL.copy {c : Call} {t t2 e by_ : Nat} {T' b off n cap m : Nat} {cur : Array Value} {x : Value} {new : List Value} {hs' : Hs} {k : Nat} (ho : o.op = .call c) (hc : c.callee = .builtin .copy) (hx : evs env c.args.toList = some [.slice (some ⟨b, off, none⟩) n cap, x]) (hat : c.argTypes = #[t, t2])
    (ht : lk T.T.elm t = some (e, 1, by_)) (hnew : News P hs 1 t2 x m new) (hk : min m n = k) (hm : Upd b (.cells cur T' (0, 0)) (.cells (splice cur off (new.take k)) T' (0, 0)) hs hs') (hle : off + k ≤ cur.size)
    (hg : guardE ops env o = some true) (hd : dstOk N o.dst = true) (kk : WL P w0 N ops Q rest (putE o.dst (.int .i64 k) env) hs') : WL P w0 N ops Q (o :: rest) env hs := by
  refine WL.val hg hd (fun a H n1 ha hf => ⟨_, n1, ?_, hf.upd hm⟩) kk
  obtain ⟨hu, i, hi, hisz, hiby⟩ := elm_und (tab_elm ht)
  have hargs : c.args.map a.eval = #[.slice (some ⟨b, off, none⟩) n cap, x] := by
    apply Array.toList_inj.1
    rw [Array.toList_map, ha.evals hx]
  have hsrc := hnew.src (w0 := w0) (n' := n1) hf
  have hnl := hsrc.newsLen
  rw [Nat.mul_one] at hnl
  have hcells : (Builtin.firstCells 1 k x).run P (wd w0 H n1) = .ok (new.take k).toArray (wd w0 H n1) := by
    obtain ⟨h1, ⟨hk', ⟨A, cap', rfl⟩, hr⟩ | ⟨hk', _, s, rfl, rfl, rfl⟩⟩ := hnew
    · have hr' : Rd hs 1 (.slice A k cap') (new.take k) := by
        obtain ⟨A', n', cap2, he, h2, h3, h4⟩ := hr
        simp only [Value.slice.injEq] at he
        obtain ⟨rfl, rfl, rfl⟩ := he
        have hkl : k ≤ new.length := by omega
        refine ⟨A, k, cap', rfl, by simp; omega, by omega, fun hp => ?_⟩
        have hp' : 0 < new.length := by simp at hp; omega
        obtain ⟨b2, off2, c2, T2, fr2, h5, h6, h7⟩ := h4 hp'
        refine ⟨b2, off2, c2, T2, fr2, h5, h6, fun j hj => ?_⟩
        have hj' : j < k := by simp at hj; omega
        rw [List.getElem?_take, if_pos hj']
        exact h7 j (by omega)
      have := firstCells_rd (P := P) (w0 := w0) (n' := n1) hr' hf
      simp only [Builtin.firstCells] at this ⊢
      cases A <;> exact this
    · simp only [Builtin.firstCells, Sem.run_pure]
      congr 1
      apply Array.toList_inj.1
      simp [byteCells, List.map_take]
  have hst := run_storeCells (P := P) (w0 := w0) (n := n1) (off := off) (new.take k) 0 (hm.mem.at_ hf) (by simp; omega) (fun v hv => hsrc.one v (List.mem_of_mem_take hv))
  have hmin : Nat.min m n = k := hk
  simp [execOp, ho, resolve, hc, hargs, invoke, builtin, Builtin.copy_, hat, underlying, hu, hsrc.len, hmin, sizeOf, typeInfo, hi, hisz, hcells, hst, goInt]
end
end Go.Pan
