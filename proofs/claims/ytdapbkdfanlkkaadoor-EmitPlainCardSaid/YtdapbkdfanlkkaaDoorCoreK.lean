/- unsafe.String at any place of a row of bytes. -/
import Derived.Test.YtdapbkdfanlkkaaDoorCoreH
set_option maxRecDepth 10000
set_option linter.unusedSectionVars false
set_option linter.unusedVariables false
set_option linter.unusedSimpArgs false
namespace Go.Pan
open Go
theorem lies8 {P : Program} {e : TypeId} (hc : P.cellsOf e = 1) (count off n : Nat) (hn : off + n ≤ count) : liesAt P P.depth e count off e n = true := by
  have hd : P.depth = (2 * (P.types.size + Made.depth) + 1) + 1 := rfl
  rw [hd]
  simp only [liesAt, Bool.or_eq_true]
  left
  rw [hd]
  simp [rowAt, hc, hn, sameLayout, Nat.mod_one]
theorem run_unsafeStr {P : Program} {w : World} (pt it ty e : TypeId) (hp : P.underlying pt = some (.pointer e)) (hc : P.cellsOf e = 1) (g off cells : Nat) (hsh : w.shape? g = some (e, cells)) (l : List UInt8) (h0 : l ≠ []) (hn : off + l.length ≤ cells) (h63 : l.length ≤ 9223372036854775807)
    (hcell : ∀ j x, l[j]? = some x → w.cell? ((⟨g, off, none⟩ : Addr).add j) = some (.int .u8 x.toNat)) :
    (Builtin.unsafeString_ #[pt, it] ty #[.pointer (some ⟨g, off, none⟩), .int .i64 l.length]).run P w = .ok (.string ⟨l.toArray⟩) (w.freeze ⟨g, off, none⟩ l.length) := by
  have hl : l.length ≠ 0 := by simpa using h0
  have hlb := Lib.run_loadBytes (P := P) w l ⟨g, off, none⟩ .empty hcell
  have hlies := lies8 (P := P) hc (cells / P.cellsOf e) off l.length (by rw [hc]; simpa using hn)
  have h63' : ¬ (9223372036854775807 : Int) < (l.length : Int) := by omega
  have hdef : Builtin.unsafeString_ #[pt, it] ty #[.pointer (some ⟨g, off, none⟩), .int .i64 l.length] =
      (do
        let n ← asInt (.int .i64 l.length)
        if n < 0 then runtimePanic (.error "unsafe.String: len out of range")
        if n > IntKind.i64.max then unsupported (.unsafePointer "String: a length above the largest int")
        if n = 0 then pure (.string .empty)
        else if ← variablesAt ⟨g, off, none⟩ (← elemOf pt) n.toNat then do
          let s ← loadBytes ⟨g, off, none⟩ .empty n.toNat
          freeze ⟨g, off, none⟩ n.toNat
          pure (.string s)
        else unsupported (.unsafePointer "String: not so many bytes at ptr")) := rfl
  rw [hdef]
  have hmax : IntKind.i64.max = 9223372036854775807 := rfl
  have hneg : ¬ (l.length : Int) < 0 := by omega
  simp [asInt, asIntOf, hmax, h63', hneg, hl, variablesAt, hsh, elemOf, run_underlying hp, hlies, hlb]
section
variable {P : Program} [T : Tab P] {w0 : World} {N : Nat} {ops : Array Oper} {Q : Exit → Act → World → Prop} {env : Env} {hs : Hs} {o : Oper} {rest : List Oper}
/-- unsafe.String: the bytes are frozen; the block is let go. -/
theorem WL.unsafeStr {d : Tmp} {c : Call} {pt it e : TypeId} {g off : Nat} {cs : Array Value} {l : List UInt8} {hr : Hs} (ho : o.op = .call c) (hc : c.callee = .builtin .unsafeString) (hx : evs env c.args.toList = some [.pointer (some ⟨g, off, none⟩), .int .i64 l.length]) (hat : c.argTypes = #[pt, it])
    (hp : P.underlying pt = some (.pointer e)) (hce : P.cellsOf e = 1) (hm : TakeL [(g, .cells cs e (0, 0))] hs hr) (h0 : l ≠ []) (hn : off + l.length ≤ cs.size) (h63 : l.length ≤ 9223372036854775807) (hcs : ∀ j, j < l.length → cs[off + j]? = (enc8 l)[j]?)
    (hg : guardE ops env o = some true) (hdd : o.dst = some d) (hd : Nat.blt d N = true) (kk : WL P w0 N ops Q rest ((d, .string ⟨l.toArray⟩) :: env) hr) : WL P w0 N ops Q (o :: rest) env hs := by
  refine WL.valR (fun v hs' => v = .string ⟨l.toArray⟩ ∧ hs' = hr) hg (dst_ok hdd hd) (fun a H n ha hf => ?_) (fun v hs' ⟨h1, h2⟩ => by subst h1; subst h2; rw [hdd]; exact kk)
  have hf' := hf.perm hm.perm
  have hgm : H[g]? = some (.cells cs e (0, 0)) := hf'.at_ _ _ (by simp)
  have hnd := hf'.nodup
  have hargs : c.args.map a.eval = #[.pointer (some ⟨g, off, none⟩), .int .i64 l.length] := by
    apply Array.toList_inj.1
    rw [Array.toList_map, ha.evals hx]
  have hsh : (wd w0 H n).shape? g = some (e, cs.size) := by
    have : (wd w0 H n).heap[g]? = some (.cells cs e (0, 0)) := hgm
    simp [World.shape?, this]
  have hrun := fun ty => run_unsafeStr (P := P) (w := wd w0 H n) pt it ty e hp hce g off cs.size hsh l h0 hn h63 (fun j x hx => by
    have h1 := hcs j (by
      rcases Nat.lt_or_ge j l.length with h | h
      · exact h
      · simp [List.getElem?_eq_none h] at hx)
    have : (wd w0 H n).heap[g]? = some (.cells cs e (0, 0)) := hgm
    rw [addr_add, Lib.cell_of_heap this, h1]
    simp [enc8, hx])
  have hl : l.length ≠ 0 := by simpa using h0
  refine ⟨.string ⟨l.toArray⟩, ((wd w0 H n).freeze ⟨g, off, none⟩ l.length).heap, n, hr, ?_, ?_, rfl, rfl⟩
  · have e1 : (wd w0 H n).freeze ⟨g, off, none⟩ l.length = wd w0 ((wd w0 H n).freeze ⟨g, off, none⟩ l.length).heap n := by
      simp only [World.freeze, if_neg hl]; rfl
    rw [← e1]
    simp [execOp, ho, resolve, hc, hargs, invoke, builtin, hat, hrun]
  · have hnd' : g ∉ hr.map (·.1) ∧ (hr.map (·.1)).Nodup := List.nodup_cons.1 hnd
    refine ⟨hnd'.2, fun b x hbx => ?_⟩
    have hne : b ≠ g := by
      rintro rfl
      exact hnd'.1 (List.mem_map.2 ⟨_, hbx, rfl⟩)
    have := hf'.at_ b x (by simp [hbx])
    simp only [World.freeze, if_neg hl, wd]
    rw [Array.getElem?_modify, if_neg (fun h => hne h.symm)]
    exact this
theorem HDrop.takeE {b : Nat} {x y : Obj} {big r s : Hs} (h : TakeL [(b, x)] big r) (e : x = y) (k : HDrop r s) : HDrop big ((b, y) :: s) := e ▸ HDrop.take h k
theorem own8_nil (T : TypeId) : Own T 1 (.slice none 0 0) (enc8 []) [] := Own.nil _ _
theorem WA.cat {hq : Hs} {fuel : Nat} {listed : Array Bool} (i : Nat) {oi : Oper} {d : Tmp} {t t' : TypeId} {x y : Operand} {s u : ByteArray} (hi : ops[i]? = some oi) (ho : oi.op = .binOp .add t x y t') (hx : evo env x = some (.string s)) (hy : evo env y = some (.string u)) (hb : s.size + u.size ≤ 9223372036854775807)
    (hside : (Region.noSelect ops && Region.free .any ops listed i && (Region.ready .any ops listed).contains i) = true) (hQ : ∀ c a v w, Q (.panic c) (a.put oi.dst v) w → Q (.panic c) a w) (hg : guardE ops env oi = some true) (hdd : oi.dst = some d) (hd : Nat.blt d N = true)
    (k : WA P w0 N ops Q hq fuel (listed.setIfInBounds i true) ((d, .string (s ++ u)) :: env) hs) : WA P w0 N ops Q hq (fuel + 1) listed env hs := by
  refine WA.takeV i hi hside hQ hg (dst_ok hdd hd) (fun a' H n' ha _ => ?_) (by rw [hdd]; exact k)
  have hge : (eqGuard .add t x y (.string s) (.string u)).run P (wd w0 H n') = .ok () (wd w0 H n') := by unfold eqGuard; simp
  have hb' : ¬ ((s.size + u.size : Nat) : Int) > IntKind.i64.max := by
    have : IntKind.i64.max = 9223372036854775807 := by decide
    rw [this]; omega
  simp only [execOp, ho, ha.eval hx, ha.eval hy, Sem.run_bind, hge, binOp, Op.stringOp, Result.andThen_ok]
  rw [if_neg hb']
  simp
/-- The cells of records of two texts. -/
def recC : List (ByteArray × ByteArray) → List Value
  | [] => []
  | r :: l => .string r.1 :: .string r.2 :: recC l
theorem WA.meet {σ : Type} {E : σ → Env} {G : σ → Hs} {I : σ → Prop} {hq : Hs} {fuel : Nat} {listed : Array Bool} (s' : σ) (hr : Region.ready .any ops listed = []) (hQ : ∀ a w, Q .normal a w = CutQ w0 N E G I a w) (hE : subE env (E s')) (hG : HSub hs (G s')) (hI : I s') : WA P w0 N ops Q hq fuel listed env hs :=
  WA.nil hr fun a H n ha hf => by rw [hQ]; exact cutQ_of s' hE hG hI ha hf
theorem run_zero {t : Nat} {z : Value} (h : lk T.T.zro t = some z) (w : World) : (zeroValue t).run P w = .ok z w := by
  obtain ⟨i, hi, hz⟩ := zro_inf (tab_zro h)
  simp [zeroValue, typeInfo, hi, hz]
theorem rd_one {b : Nat} {k v : ByteArray} {T' : TypeId} {fr : Nat × Nat} (hm : Mem b (.cells #[.string k, .string v] T' fr) hs) : Rd hs 2 (.slice (some ⟨b, 0, none⟩) 1 1) (recC [(k, v)]) :=
  ⟨_, 1, 1, rfl, rfl, Nat.le_refl _, fun _ => ⟨b, 0, _, _, _, rfl, hm, fun j hj => by
    match j, hj with
    | 0, _ => rfl
    | 1, _ => rfl⟩⟩
/-- What the results' slots and cells hold. -/
inductive ResC (T : TT) (env : Env) (hs : Hs) : List ResultVar → List Value → Prop
  | nil : ResC T env hs [] []
  | tmp {t rs v vs} (h : get env t = some v) (k : ResC T env hs rs vs) : ResC T env hs (.tmp t :: rs) (v :: vs)
  | cell {a t rs b off g sz v vs} (h : get env a = some (.pointer (some ⟨b, off, none⟩))) (hl : lk T.lay t = some (g, sz)) (hm : LdAt b off g sz v hs) (k : ResC T env hs rs vs) : ResC T env hs (.cell a t :: rs) (v :: vs)
theorem resC_run {a : Act} {H : Array Obj} {n : Nat} (ha : Holds N a env) (hf : HF H hs) {rs : List ResultVar} {vs : List Value} (h : ResC T.T env hs rs vs) : (rs.mapM (resM a)).run P (wd w0 H n) = .ok vs (wd w0 H n) := by
  induction h with
  | nil => simp
  | @tmp t rs v vs h k ih =>
    have := ha.vals t v h
    have ht : a.tmps.getD t undef = v := by rw [Array.getD_eq_getD_getElem?, this]; rfl
    rw [List.mapM_cons]
    simp only [resM, ht, Sem.run_bind, Sem.run_pure, Result.andThen_ok, ih]
  | @cell a' t rs b off g sz v vs h hl hm k ih =>
    have := ha.vals a' _ h
    have ht : a.tmps.getD a' undef = .pointer (some ⟨b, off, none⟩) := by rw [Array.getD_eq_getD_getElem?, this]; rfl
    obtain ⟨c, T', fr, hm, hv⟩ := hm.out
    have hr := run_loadVar (w0 := w0) (n := n) hl (hm.at_ hf) hv
    rw [List.mapM_cons]
    simp only [resM, ht, asAddr, Sem.run_bind, Sem.run_pure, Result.andThen_ok, hr, ih]
/-- The end of a function whose results stand in slots and cells; some blocks are let go. -/
theorem WC.doneC {fn : Func} {R : Value → Hs → Prop} {vs : List Value} {hs' : Hs} (hq : ∀ a w, Q .ret a w = Post P fn w0 R .ret a w) (hr : ResC T.T env hs fn.results.toList vs) (hd : HDrop hs hs') (h : R (tupV vs) hs') : WC P w0 N .ret Q env hs :=
  WC.ret fun a H n ha hf => by
    rw [hq]
    have hm := resC_run (w0 := w0) (n := n) ha hf hr
    have hm' : (fn.results.mapM (resM a)).run P (wd w0 H n) = .ok vs.toArray (wd w0 H n) := by
      rw [Array.mapM_eq_mapM_toList, Sem.run_map, hm]
      rfl
    have he : results fn a.tmps = (do let vs ← fn.results.mapM (resM a); pure (if h : vs.size = 1 then vs[0] else .tuple vs)) := by
      unfold results
      congr 1
    refine post_of ha (hd.sub H hf) (v := tupV vs) ?_ h
    rw [he, Sem.run_bind, hm', Result.andThen_ok, Sem.run_pure]
    congr 1
    match vs with
    | [] => rfl
    | [v] => rfl
    | _ :: _ :: _ => simp [tupV]
/-- An entry of a map, if it is asked for. -/
def opt (b : Bool) (k v : ByteArray) : List (ByteArray × ByteArray) := if b then [] else [(k, v)]
theorem opt_t (k v : ByteArray) : opt true k v = [] := rfl
theorem opt_f (k v : ByteArray) : opt false k v = [(k, v)] := rfl
theorem lkS_append (k : ByteArray) : ∀ a b, lkS k (a ++ b) = match lkS k a with | some v => some v | none => lkS k b
  | [], b => rfl
  | p :: a, b => by
    simp only [List.cons_append, lkS]
    split
    · rfl
    · exact lkS_append k a b
theorem lkS_none {k : ByteArray} {a b : List (ByteArray × ByteArray)} (h1 : lkS k a = none) (h2 : lkS k b = none) : lkS k (a ++ b) = none := by rw [lkS_append, h1]; exact h2
theorem lkS_opt {k k' v : ByteArray} {b : Bool} (h : (k == k') = false) : lkS k (opt b k' v) = none := by
  cases b
  · simp [opt, lkS, h]
  · rfl
/-- What is handed back is a slice over a new block that reads so. -/
def NewR (f : Value → Value) (T : TypeId) (cs : List Value) (hs : Hs) (v : Value) (hs' : Hs) : Prop := ∃ b m cap c fr, v = f (.slice (some ⟨b, 0, none⟩) m cap) ∧ Rd ((b, .cells c T fr) :: hs) 1 (.slice (some ⟨b, 0, none⟩) m cap) cs ∧ hs' = (b, .cells c T fr) :: hs
theorem recC_length (l : List (ByteArray × ByteArray)) : (recC l).length = l.length * 2 := by
  induction l with
  | nil => rfl
  | cons r l ih => simp [recC, ih]; omega
theorem recC_append (l m : List (ByteArray × ByteArray)) : recC (l ++ m) = recC l ++ recC m := by
  induction l with
  | nil => rfl
  | cons r l ih => simp [recC, ih]
theorem recC_one (l : List (ByteArray × ByteArray)) : ∀ u ∈ recC l, u.oneCell' = true := by
  induction l with
  | nil => simp [recC]
  | cons r l ih =>
    intro u hu
    simp only [recC, List.mem_cons] at hu
    rcases hu with rfl | rfl | hu
    · rfl
    · rfl
    · exact ih u hu
theorem recC_get : ∀ (l : List (ByteArray × ByteArray)) (i : Nat) (hi : i < l.length), (recC l)[i * 2]? = some (.string l[i].1) ∧ (recC l)[i * 2 + 1]? = some (.string l[i].2)
  | r :: l, 0, _ => ⟨rfl, rfl⟩
  | r :: l, i + 1, hi => by
    have ih := recC_get l i (by simpa using hi)
    rw [show (i + 1) * 2 = i * 2 + 1 + 1 by omega]
    simpa [recC] using ih
theorem Rd.rec2 {l : List (ByteArray × ByteArray)} {v : Value} (h : Rd hs 2 v (recC l)) {i : Nat} (hi : i < l.length) : ∃ b off cap, v = .slice (some ⟨b, off, none⟩) l.length cap ∧ LdAt b (off + i * 2) true 2 (.agg #[.string l[i].1, .string l[i].2]) hs := by
  obtain ⟨A, n, cap, h1, h2, h3, h4⟩ := h
  rw [recC_length] at h2 h4
  obtain ⟨b, off, c, T, fr, h5, h6, h7⟩ := h4 (by omega)
  refine ⟨b, off, cap, by rw [h1, h5, show n = l.length by omega], .mem h6 ?_⟩
  have e1 := h7 (i * 2) (by omega)
  have e2 := h7 (i * 2 + 1) (by omega)
  obtain ⟨g1, g2⟩ := recC_get l i hi
  rw [g1] at e1
  rw [g2] at e2
  have hsz : off + i * 2 + 2 ≤ c.size := by
    have := (Array.getElem?_eq_some_iff.1 e2).1
    omega
  simp only [ldv, if_true]
  rw [if_pos hsz]
  congr 2
  apply Array.ext_getElem?
  intro j
  match j with
  | 0 => rw [Array.getElem?_extract, if_pos (by omega)]; simpa using e1
  | 1 => rw [Array.getElem?_extract, if_pos (by omega), show off + i * 2 + 1 = off + (i * 2 + 1) by omega]; simpa using e2
  | j + 2 => rw [Array.getElem?_extract, if_neg (by omega)]; simp
end
end Go.Pan
