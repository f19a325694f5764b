/- Library functions by their given contracts; pointers, builders and maps. -/
import Derived.Test.YtdapbkdfanlkkaaDoorCoreI
import Derived.Lib.Builder
import Derived.Lib.UnsafeStr
import Derived.LaidEqlPtr
import Derived.Sort.Grow
import Derived.Below
import Derived.MapKept
set_option maxRecDepth 10000
set_option linter.unusedSectionVars false
set_option linter.unusedVariables false
set_option linter.unusedSimpArgs false
namespace Go.Pan
open Go RowKit

/-- A contract that leaves all that lay in the heap as it was. -/
theorem CallsF.below {P : Program} {f : FuncId} {args : List Value} {w0 : World} {hs : Hs} {v : Value} (h : ∀ H n, HF H hs → Calls P f args.toArray (wd w0 H n) fun e w' => e = .returned v ∧ Below H.size (wd w0 H n) w') : CallsF P f args w0 hs (Same v hs) := by
  intro H n hf
  refine (h H n hf).mono fun e w' ⟨he, hb⟩ => ⟨v, w'.heap, w'.drawn, hs, he, ?_, ⟨hf.nodup, fun b o hm => ?_⟩, rfl, rfl⟩
  · have h1 := hb.os
    have h2 := hb.tape
    have h3 := hb.output
    cases w'
    simp only [wd] at h1 h2 h3 ⊢
    subst h1; subst h2; subst h3
    rfl
  · rw [hb.block b (hf.lt hm)]; exact hf.at_ b o hm

section
variable {P : Program} [T : Tab P] {w0 : World} {N : Nat} {ops : Array Oper} {Q : Exit → Act → World → Prop} {K : Act → Prop} {env : Env} {hs hq : Hs} {o : Oper} {rest : List Oper} {fuel : Nat} {listed : Array Bool}
/-- A function without results comes to its end. -/
theorem WL.fin {fn : Func} {R : Value → Hs → Prop} {vs : List Value} (hq : ∀ a w, Q .normal a w = Post P fn w0 R .ret a w) (hr : resE env fn.results.toList = some vs) (h : R (tupV vs) hs) : WL P w0 N ops Q [] env hs :=
  WL.nil fun a H n ha hf => by rw [hq]; exact post_ret ha hf hr h
theorem WC.fin {fn : Func} {R : Value → Hs → Prop} {vs : List Value} (hq : ∀ a w, Q .normal a w = Post P fn w0 R .ret a w) (hr : resE env fn.results.toList = some vs) (h : R (tupV vs) hs) : WC P w0 N .skip Q env hs :=
  WC.skip fun a H n ha hf => by rw [hq]; exact post_ret ha hf hr h
/-- Two pointers are held against each other. -/
theorem WL.ptr {d : Tmp} {op : BinOp} {t t' : TypeId} {x y : Operand} {p q : Option Addr} {r : Bool} (ho : o.op = .binOp op t x y t') (hx : evo env x = some (.pointer p)) (hy : evo env y = some (.pointer q)) (hr : ∀ w, (binOp op t (.pointer p) (.pointer q)).run P w = .ok (.bool r) w)
    (hg : guardE ops env o = some true) (hdd : o.dst = some d) (hd : Nat.blt d N = true) (kk : WL P w0 N ops Q rest ((d, .bool r) :: env) hs) : WL P w0 N ops Q (o :: rest) env hs := by
  refine WL.valP hg (dst_ok hdd hd) (fun a' w ha => ?_) (by rw [hdd]; exact kk)
  have hge : (eqGuard op t x y (.pointer p) (.pointer q)).run P w = .ok () w := by unfold eqGuard; split <;> simp
  simp [execOp, ho, ha.eval hx, ha.eval hy, hge, hr]
theorem run_eql_nil_nil {tp te : TypeId} {j : TypeInfo} (hp : P.underlying tp = some (.pointer te)) (hte : P.info? te = some j) (w : World) : (binOp .eql tp (.pointer none) (.pointer none)).run P w = .ok (.bool true) w := by
  have h : ∀ d : Nat, (Op.equalIn (d + 1) tp (.pointer none) (.pointer none)).run P w = .ok true w := fun d => by
    simp [Op.equalIn, run_underlying hp, sizeOf, typeInfo, hte]
  simp only [binOp]
  simp [Op.equal, Op.maxDepth, h 9999]
theorem run_eql_ptr_nil {tp te : TypeId} {j : TypeInfo} {a : Addr} (hp : P.underlying tp = some (.pointer te)) (hte : P.info? te = some j) (w : World) : (binOp .eql tp (.pointer (some a)) (.pointer none)).run P w = .ok (.bool false) w := by
  have h : ∀ d : Nat, (Op.equalIn (d + 1) tp (.pointer (some a)) (.pointer none)).run P w = .ok false w := fun d => by
    simp [Op.equalIn, run_underlying hp, sizeOf, typeInfo, hte]
  simp only [binOp]
  simp [Op.equal, Op.maxDepth, h 9999]
theorem shape_of {b : Nat} {c : Array Value} {e : TypeId} {fr : Nat × Nat} {H : Array Obj} {n : Nat} (hm : Mem b (.cells c e fr) hs) (hf : HF H hs) : (wd w0 H n).shape? b = some (e, c.size) := by
  have : (wd w0 H n).heap[b]? = some (.cells c e fr) := hm.at_ hf
  simp [World.shape?, this]
theorem lay_info2 {t : Nat} {g : Bool} {sz : Nat} (h : layOf P t = some (g, sz)) : ∃ j, P.info? t = some j ∧ j.size = sz := by
  unfold layOf at h
  cases hu : P.underlying t with
  | none => simp [hu] at h
  | some d =>
    cases hi : P.info? t with
    | none => simp [hu, hi] at h
    | some j => simp [hu, hi] at h; exact ⟨j, rfl, h.2⟩
theorem WL.eqNilNil {d : Tmp} {t t' te : TypeId} {x y : Operand} {q : Bool × Nat} (ho : o.op = .binOp .eql t x y t') (hx : evo env x = some (.pointer none)) (hy : evo env y = some (.pointer none)) (ht : lk T.T.prm t = some (.pointer te)) (hl : lk T.T.lay te = some q)
    (hg : guardE ops env o = some true) (hdd : o.dst = some d) (hd : Nat.blt d N = true) (kk : WL P w0 N ops Q rest ((d, .bool true) :: env) hs) : WL P w0 N ops Q (o :: rest) env hs := by
  obtain ⟨j, h1, _⟩ := lay_info2 (tab_lay hl)
  exact WL.ptr ho hx hy (fun w => run_eql_nil_nil (prm_und (tab_prm ht)).1 h1 w) hg hdd hd kk
theorem WL.eqPtrNil {d : Tmp} {t t' te : TypeId} {x y : Operand} {a : Addr} {q : Bool × Nat} (ho : o.op = .binOp .eql t x y t') (hx : evo env x = some (.pointer (some a))) (hy : evo env y = some (.pointer none)) (ht : lk T.T.prm t = some (.pointer te)) (hl : lk T.T.lay te = some q)
    (hg : guardE ops env o = some true) (hdd : o.dst = some d) (hd : Nat.blt d N = true) (kk : WL P w0 N ops Q rest ((d, .bool false) :: env) hs) : WL P w0 N ops Q (o :: rest) env hs := by
  obtain ⟨j, h1, _⟩ := lay_info2 (tab_lay hl)
  exact WL.ptr ho hx hy (fun w => run_eql_ptr_nil (prm_und (tab_prm ht)).1 h1 w) hg hdd hd kk
theorem WL.neSame {d : Tmp} {t t' te : TypeId} {x y : Operand} {a : Addr} {q : Bool × Nat} (ho : o.op = .binOp .neq t x y t') (hx : evo env x = some (.pointer (some a))) (hy : evo env y = some (.pointer (some a))) (ht : lk T.T.prm t = some (.pointer te)) (hl : lk T.T.lay te = some q)
    (hg : guardE ops env o = some true) (hdd : o.dst = some d) (hd : Nat.blt d N = true) (kk : WL P w0 N ops Q rest ((d, .bool false) :: env) hs) : WL P w0 N ops Q (o :: rest) env hs := by
  obtain ⟨j, h1, _⟩ := lay_info2 (tab_lay hl)
  exact WL.ptr ho hx hy (fun w => Lib.run_neq_ptr_same w a (prm_und (tab_prm ht)).1 h1) hg hdd hd kk
/-- A pointer becomes an unsafe.Pointer. -/
theorem WL.toUnsafe {d : Tmp} {s t te e : TypeId} {x : Operand} {b off : Nat} {c : Array Value} {fr : Nat × Nat} {g : Bool} {sz : Nat} (ho : o.op = .convert s t x) (hx : evo env x = some (.pointer (some ⟨b, off, none⟩))) (hs' : lk T.T.prm s = some (.pointer te)) (ht : P.underlying t = some .unsafePointer) (hte : lk T.T.lay te = some (g, sz)) (hj : sz ≠ 0)
    (hm : Mem b (.cells c e fr) hs) (hoff : off < c.size) (hg : guardE ops env o = some true) (hdd : o.dst = some d) (hd : Nat.blt d N = true) (kk : WL P w0 N ops Q rest ((d, .pointer (some ⟨b, off, none⟩)) :: env) hs) : WL P w0 N ops Q (o :: rest) env hs := by
  obtain ⟨j, h1, h2⟩ := lay_info2 (tab_lay hte)
  refine WL.val hg (dst_ok hdd hd) (fun a H n ha hf => ⟨H, n, ?_, hf⟩) (by rw [hdd]; exact kk)
  have := Lib.run_to_unsafe (P := P) (wd w0 H n) ⟨b, off, none⟩ (prm_und (tab_prm hs')).1 ht h1 (by omega) (shape_of hm hf) hoff
  simp [execOp, ho, ha.eval hx, this]
/-- .. and back. -/
theorem WL.fromUnsafe {d : Tmp} {s t te e : TypeId} {x : Operand} {b off : Nat} {c : Array Value} {fr : Nat × Nat} {q : Bool × Nat} (ho : o.op = .convert s t x) (hx : evo env x = some (.pointer (some ⟨b, off, none⟩))) (hs' : P.underlying s = some .unsafePointer) (ht : lk T.T.prm t = some (.pointer te)) (hte : lk T.T.lay te = some q)
    (hm : Mem b (.cells c e fr) hs) (hlies : liesAt P P.depth e (c.size / P.cellsOf e) off te 1 = true) (hg : guardE ops env o = some true) (hdd : o.dst = some d) (hd : Nat.blt d N = true) (kk : WL P w0 N ops Q rest ((d, .pointer (some ⟨b, off, none⟩)) :: env) hs) : WL P w0 N ops Q (o :: rest) env hs := by
  obtain ⟨j, h1, _⟩ := lay_info2 (tab_lay hte)
  refine WL.val hg (dst_ok hdd hd) (fun a H n ha hf => ⟨H, n, ?_, hf⟩) (by rw [hdd]; exact kk)
  have := Lib.run_from_unsafe (P := P) (wd w0 H n) ⟨b, off, none⟩ hs' (prm_und (tab_prm ht)).1 h1 (shape_of hm hf) hlies
  simp [execOp, ho, ha.eval hx, this]
/-- unsafe.SliceData of a slice with a capacity. -/
theorem WA.sliceData (i : Nat) {oi : Oper} {d : Tmp} {c : Call} {a : Addr} {n cap : Nat} (hi : ops[i]? = some oi) (ho : oi.op = .call c) (hc : c.callee = .builtin .unsafeSliceData) (hx : evs env c.args.toList = some [.slice (some a) n cap]) (hcap : cap ≠ 0)
    (hside : (Region.noSelect ops && Region.free .any ops listed i && (Region.ready .any ops listed).contains i) = true) (hQ : ∀ c a v w, Q (.panic c) (a.put oi.dst v) w → Q (.panic c) a w) (hg : guardE ops env oi = some true) (hdd : oi.dst = some d) (hd : Nat.blt d N = true)
    (k : WA P w0 N ops Q hq fuel (listed.setIfInBounds i true) ((d, .pointer (some a)) :: env) hs) : WA P w0 N ops Q hq (fuel + 1) listed env hs := by
  refine WA.takeV i hi hside hQ hg (dst_ok hdd hd) (fun a' H n' ha _ => ?_) (by rw [hdd]; exact k)
  have hargs : c.args.map a'.eval = #[.slice (some a) n cap] := by
    apply Array.toList_inj.1
    rw [Array.toList_map, ha.evals hx]
  have := fun ts ty => Lib.run_unsafeSliceData_row (P := P) (wd w0 H n') ts ty a n cap hcap
  simp [execOp, ho, resolve, hc, hargs, invoke, builtin, this]
theorem WA.lenl (i : Nat) {oi : Oper} {d : Tmp} {c : Call} {t : TypeId} {A : Option Addr} {n m : Nat} {e : Nat × Nat × Nat} (hi : ops[i]? = some oi) (ho : oi.op = .call c) (hc : c.callee = .builtin .len) (hx : evs env c.args.toList = some [.slice A n m]) (ht : c.argTypes[0]? = some t) (hu : lk T.T.elm t = some e)
    (hside : (Region.noSelect ops && Region.free .any ops listed i && (Region.ready .any ops listed).contains i) = true) (hQ : ∀ c a v w, Q (.panic c) (a.put oi.dst v) w → Q (.panic c) a w) (hg : guardE ops env oi = some true) (hdd : oi.dst = some d) (hd : Nat.blt d N = true)
    (k : WA P w0 N ops Q hq fuel (listed.setIfInBounds i true) ((d, .int .i64 n) :: env) hs) : WA P w0 N ops Q hq (fuel + 1) listed env hs := by
  refine WA.takeV i hi hside hQ hg (dst_ok hdd hd) (fun a' H n' ha _ => ?_) (by rw [hdd]; exact k)
  have hargs : c.args.map a'.eval = #[.slice A n m] := by
    apply Array.toList_inj.1
    rw [Array.toList_map, ha.evals hx]
  obtain ⟨e, s, b⟩ := e
  have hu := (elm_und (tab_elm hu)).1
  simp [execOp, ho, resolve, hc, hargs, invoke, builtin, Builtin.len_, ht, underlying, hu, goInt]
/-- unsafe.String: the bytes are frozen; the block is let go. -/
theorem WL.unsafeString {d : Tmp} {c : Call} {pt it e : TypeId} {g : Nat} {cs : Array Value} {l : List UInt8} {hr : Hs} (ho : o.op = .call c) (hc : c.callee = .builtin .unsafeString) (hx : evs env c.args.toList = some [.pointer (some ⟨g, 0, none⟩), .int .i64 l.length]) (hat : c.argTypes = #[pt, it])
    (hp : P.underlying pt = some (.pointer e)) (hce : P.cellsOf e = 1) (hm : TakeL [(g, .cells cs e (0, 0))] hs hr) (h0 : l ≠ []) (hn : l.length ≤ cs.size) (h63 : l.length ≤ 9223372036854775807) (hcs : ∀ j, j < l.length → cs[j]? = (enc8 l)[j]?)
    (hg : guardE ops env o = some true) (hdd : o.dst = some d) (hd : Nat.blt d N = true) (kk : WL P w0 N ops Q rest ((d, .string ⟨l.toArray⟩) :: env) hr) : WL P w0 N ops Q (o :: rest) env hs := by
  refine WL.valR (fun v hs' => v = .string ⟨l.toArray⟩ ∧ hs' = hr) hg (dst_ok hdd hd) (fun a H n ha hf => ?_) (fun v hs' ⟨h1, h2⟩ => by subst h1; subst h2; rw [hdd]; exact kk)
  have hf' := hf.perm hm.perm
  have hgm : H[g]? = some (.cells cs e (0, 0)) := hf'.at_ _ _ (by simp)
  have hnd := hf'.nodup
  have hargs : c.args.map a.eval = #[.pointer (some ⟨g, 0, none⟩), .int .i64 l.length] := by
    apply Array.toList_inj.1
    rw [Array.toList_map, ha.evals hx]
  have hsh : (wd w0 H n).shape? g = some (e, cs.size) := by
    have : (wd w0 H n).heap[g]? = some (.cells cs e (0, 0)) := hgm
    simp [World.shape?, this]
  have hrun := fun ty => Lib.run_unsafeString_row (P := P) (wd w0 H n) pt it ty e hp hce g cs.size hsh l h0 hn h63 (fun j x hx => by
    have h1 := hcs j (by
      rcases Nat.lt_or_ge j l.length with h | h
      · exact h
      · simp [List.getElem?_eq_none h] at hx)
    have : (wd w0 H n).heap[g]? = some (.cells cs e (0, 0)) := hgm
    rw [addr_add, Nat.zero_add, Lib.cell_of_heap this, h1]
    simp [enc8, hx])
  have hl : l.length ≠ 0 := by simpa using h0
  refine ⟨.string ⟨l.toArray⟩, ((wd w0 H n).freeze ⟨g, 0, none⟩ l.length).heap, n, hr, ?_, ?_, rfl, rfl⟩
  · have e1 : (wd w0 H n).freeze ⟨g, 0, none⟩ l.length = wd w0 ((wd w0 H n).freeze ⟨g, 0, none⟩ l.length).heap n := by
      simp only [World.freeze, if_neg hl]; rfl
    rw [← e1]
    simp [execOp, ho, resolve, hc, hargs, invoke, builtin, hat, hrun]
  · have hnd' : g ∉ hr.map (·.1) ∧ (hr.map (·.1)).Nodup := List.nodup_cons.1 hnd
    refine ⟨hnd'.2, fun b x hbx => ?_⟩
    have hne : b ≠ g := by
      rintro rfl
      exact hnd'.1 (List.mem_map.2 ⟨_, hbx, rfl⟩)
    have := hf'.at_ b x (by simp [hbx])
    simp only [World.freeze, if_neg hl, wd]
    rw [Array.getElem?_modify, if_neg (fun h => hne h.symm)]
    exact this
/-! ### maps from strings to strings -/
def smE : Nat → List (ByteArray × ByteArray) → List MapEntry
  | _, [] => []
  | i, p :: l => { key := .string p.1, val := .string p.2, born := i } :: smE (i + 1) l
/-- A map from strings to strings whose entries came in this order, and stayed. -/
def smap (m : List (ByteArray × ByteArray)) : Obj := .map (smE 0 m).toArray m.length
def lkS (k : ByteArray) : List (ByteArray × ByteArray) → Option ByteArray
  | [] => none
  | p :: l => if k == p.1 then some p.2 else lkS k l
theorem findNow_smE (k : ByteArray) : ∀ (m : List (ByteArray × ByteArray)) (i j : Nat), ∃ q, Instr.findNow .string (.string k) (smE i m) j = some (match lkS k m with | none => none | some v => some (q, .string v))
  | [], i, j => ⟨0, rfl⟩
  | p :: l, i, j => by
    obtain ⟨q, hq⟩ := findNow_smE k l (i + 1) (j + 1)
    simp only [smE, Instr.findNow, Instr.sameNow, lkS]
    cases hk : k == p.1 with
    | true => exact ⟨j, by simp⟩
    | false => exact ⟨q, by simpa using hq⟩
theorem smE_append : ∀ (m l : List (ByteArray × ByteArray)) (i : Nat), smE i (m ++ l) = smE i m ++ smE (i + m.length) l
  | [], l, i => by simp [smE]
  | p :: m, l, i => by simp [smE, smE_append m l (i + 1), Nat.add_assoc, Nat.add_comm 1]
theorem run_checkStr {kt : TypeId} (hk : P.underlying kt = some .string) (e : Bool) (k : ByteArray) (w : World) : (Instr.checkKey e 10000 kt (.string k)).run P w = .ok () w := by
  have : ∀ n, (Instr.checkKey e (n + 1) kt (.string k)).run P w = .ok () w := fun n => by simp [Instr.checkKey, run_underlying hk]
  exact this 9999
theorem run_findStr {kt : TypeId} (hk : P.underlying kt = some .string) (k : ByteArray) (m : List (ByteArray × ByteArray)) (w : World) : ∃ q, (Instr.findKey kt (.string k) (smE 0 m)).run P w = .ok (match lkS k m with | none => none | some v => some (q, .string v)) w := by
  obtain ⟨q, hq⟩ := findNow_smE k m 0 0
  exact ⟨q, by simp [Instr.findKey, run_underlying hk, hq]⟩
theorem WL.makeMap {d : Tmp} {t : TypeId} (ho : o.op = .makeMap t none) (hg : guardE ops env o = some true) (hdd : o.dst = some d) (hd : Nat.blt d N = true) (k : ∀ b, WL P w0 N ops Q rest ((d, .map (some b)) :: env) ((b, smap []) :: hs)) : WL P w0 N ops Q (o :: rest) env hs := by
  refine WL.valR (fun v hs' => ∃ b, v = .map (some b) ∧ hs' = (b, smap []) :: hs) hg (dst_ok hdd hd) (fun a H n ha hf => ?_) (fun v hs' ⟨b, h1, h2⟩ => by subst h1; subst h2; rw [hdd]; exact k b)
  have h : ∀ w : World, (execOp a.eval o).run P w = .ok (.value (.map (some w.heap.size))) { w with heap := w.heap.push (.map #[] 0) } := fun w => by
    simp [execOp, ho, Instr.makeMap, -run_newObj_alloc]
  exact ⟨.map (some H.size), H.push (smap []), n, _, h (wd w0 H n), hf.push _, H.size, rfl, rfl⟩
theorem run_mapPut {t kt et : TypeId} {b : Nat} {m : List (ByteArray × ByteArray)} {k v : ByteArray} {w : World} (ht : P.underlying t = some (.map kt et)) (hk : P.underlying kt = some .string) (hnew : lkS k m = none) (hb : w.heap[b]? = some (smap m)) :
    (Instr.mapUpdate t (.map (some b)) (.string k) (.string v)).run P w = .ok () { w with heap := w.heap.setIfInBounds b (smap (m ++ [(k, v)])) } := by
  obtain ⟨q, hq⟩ := run_findStr (P := P) hk k m w
  rw [hnew] at hq
  have hb' : w.heap[b]? = some (.map (smE 0 m).toArray m.length) := hb
  simp [Instr.mapUpdate, run_underlying ht, MapKept.run_getObj_map hb', run_checkStr hk, hq, MapKept.run_setObj_map _ hb', smap, smE_append, smE]
theorem WL.mapPut {t kt et : TypeId} {x y z : Operand} {b : Nat} {m : List (ByteArray × ByteArray)} {k v : ByteArray} {hs' : Hs} (ho : o.op = .mapUpdate t x y z) (hx : evo env x = some (.map (some b))) (hy : evo env y = some (.string k)) (hz : evo env z = some (.string v))
    (ht : P.underlying t = some (.map kt et)) (hk : P.underlying kt = some .string) (hnew : lkS k m = none) (hm : Upd b (smap m) (smap (m ++ [(k, v)])) hs hs')
    (hg : guardE ops env o = some true) (hd : dstOk N o.dst = true) (kk : WL P w0 N ops Q rest (putE o.dst undef env) hs') : WL P w0 N ops Q (o :: rest) env hs := by
  refine WL.skp hg hd (fun a H n ha hf => ⟨H.setIfInBounds b (smap (m ++ [(k, v)])), n, ?_, hf.upd hm⟩) kk
  have := run_mapPut (P := P) (v := v) (w := wd w0 H n) ht hk hnew (hm.mem.at_ hf)
  simp [execOp, ho, ha.eval hx, ha.eval hy, ha.eval hz, this]
  rfl
theorem run_mapNew {t kt et : TypeId} {b : Nat} {m : List (ByteArray × ByteArray)} {k : ByteArray} {w : World} (ht : P.underlying t = some (.map kt et)) (hk : P.underlying kt = some .string) (hz : (zeroValue et).run P w = .ok (.string ⟨#[]⟩) w) (hnew : lkS k m = none) (hb : w.heap[b]? = some (smap m)) :
    (Instr.mapEntry t (.map (some b)) (.string k)).run P w = .ok (.tuple #[.string ⟨#[]⟩, .int .i64 m.length]) { w with heap := w.heap.setIfInBounds b (smap (m ++ [(k, ⟨#[]⟩)])) } := by
  obtain ⟨q, hq⟩ := run_findStr (P := P) hk k m w
  rw [hnew] at hq
  have hb' : w.heap[b]? = some (.map (smE 0 m).toArray m.length) := hb
  simp [Instr.mapEntry, run_underlying ht, MapKept.run_getObj_map hb', run_checkStr hk, hq, hz, MapKept.run_setObj_map _ hb', smap, smE_append, smE, goInt]
/-- An entry is made in a map; what it holds follows. -/
theorem WL.mapNew {d : Tmp} {t kt et : TypeId} {x y : Operand} {b : Nat} {m : List (ByteArray × ByteArray)} {k : ByteArray} {hs' : Hs} (ho : o.op = .mapEntry t x y) (hx : evo env x = some (.map (some b))) (hy : evo env y = some (.string k))
    (ht : P.underlying t = some (.map kt et)) (hk : P.underlying kt = some .string) (hz : ∀ w, (zeroValue et).run P w = .ok (.string ⟨#[]⟩) w) (hnew : lkS k m = none) (hm : Upd b (smap m) (smap (m ++ [(k, ⟨#[]⟩)])) hs hs')
    (hg : guardE ops env o = some true) (hdd : o.dst = some d) (hd : Nat.blt d N = true) (kk : WL P w0 N ops Q rest ((d, .tuple #[.string ⟨#[]⟩, .int .i64 m.length]) :: env) hs') : WL P w0 N ops Q (o :: rest) env hs := by
  refine WL.valR (fun v h => v = .tuple #[.string ⟨#[]⟩, .int .i64 m.length] ∧ h = hs') hg (dst_ok hdd hd) (fun a H n ha hf => ?_) (fun v h ⟨h1, h2⟩ => by subst h1; subst h2; rw [hdd]; exact kk)
  have := run_mapNew (P := P) (w := wd w0 H n) ht hk (hz _) hnew (hm.mem.at_ hf)
  refine ⟨_, H.setIfInBounds b (smap (m ++ [(k, ⟨#[]⟩)])), n, hs', ?_, hf.upd hm, rfl, rfl⟩
  simp [execOp, ho, ha.eval hx, ha.eval hy, this]
  rfl
theorem smE_find : ∀ (m : List (ByteArray × ByteArray)) (k u : ByteArray) (i : Nat), ((smE i (m ++ [(k, u)])).toArray.findIdx? fun e => (e.born : Int) == ((i + m.length : Nat) : Int)) = some m.length := by
  intro m k u i
  rw [List.findIdx?_toArray]
  induction m generalizing i with
  | nil => simp [smE]
  | cons p m ih =>
    simp only [List.cons_append, smE, List.findIdx?_cons, List.length_cons]
    rw [if_neg (by simp; omega), show i + (m.length + 1) = i + 1 + m.length by omega, ih (i + 1)]
    rfl
theorem smE_mod : ∀ (m : List (ByteArray × ByteArray)) (k u v : ByteArray) (i : Nat), (smE i (m ++ [(k, u)])).modify m.length (fun e => { e with val := .string v }) = smE i (m ++ [(k, v)])
  | [], k, u, v, i => rfl
  | p :: m, k, u, v, i => by simp [smE, smE_mod m k u v (i + 1)]
theorem run_mapFill {t : TypeId} {b : Nat} {m : List (ByteArray × ByteArray)} {k u v : ByteArray} {w : World} (hb : w.heap[b]? = some (smap (m ++ [(k, u)]))) :
    (Instr.entryStore t (.map (some b)) (.int .i64 m.length) (.string v)).run P w = .ok () { w with heap := w.heap.setIfInBounds b (smap (m ++ [(k, v)])) } := by
  have hb' : w.heap[b]? = some (.map (smE 0 (m ++ [(k, u)])).toArray (m ++ [(k, u)]).length) := hb
  have h1 := smE_find m k u 0
  simp only [Nat.zero_add] at h1
  simp only [Instr.entryStore, Sem.run_bind, MapKept.run_getObj_map hb', Result.andThen_ok, asInt, asIntOf, Sem.run_pure, h1, MapKept.run_setObj_map _ hb']
  rw [show (smE 0 (m ++ [(k, u)])).toArray.modify m.length (fun e => { e with val := .string v }) = (smE 0 (m ++ [(k, v)])).toArray by
    rw [List.modify_toArray, smE_mod]]
  simp [smap]
/-- What the entry that was made last holds. -/
theorem WL.mapFill {t : TypeId} {x y z : Operand} {b : Nat} {m : List (ByteArray × ByteArray)} {k u v : ByteArray} {hs' : Hs} (ho : o.op = .entryStore t x y z) (hx : evo env x = some (.map (some b))) (hy : evo env y = some (.int .i64 m.length)) (hz : evo env z = some (.string v))
    (hm : Upd b (smap (m ++ [(k, u)])) (smap (m ++ [(k, v)])) hs hs')
    (hg : guardE ops env o = some true) (hd : dstOk N o.dst = true) (kk : WL P w0 N ops Q rest (putE o.dst undef env) hs') : WL P w0 N ops Q (o :: rest) env hs := by
  refine WL.skp hg hd (fun a H n ha hf => ⟨H.setIfInBounds b (smap (m ++ [(k, v)])), n, ?_, hf.upd hm⟩) kk
  have := run_mapFill (P := P) (t := t) (v := v) (w := wd w0 H n) (hm.mem.at_ hf)
  simp [execOp, ho, ha.eval hx, ha.eval hy, ha.eval hz, this]
  rfl
theorem run_mapGet {t kt et : TypeId} {b : Nat} {m : List (ByteArray × ByteArray)} {k : ByteArray} {w : World} (ht : P.underlying t = some (.map kt et)) (hk : P.underlying kt = some .string) (hz : (zeroValue et).run P w = .ok (.string ⟨#[]⟩) w) (hb : w.heap[b]? = some (smap m)) :
    (Instr.lookup t (.map (some b)) (.string k) true).run P w = .ok (.tuple #[.string ((lkS k m).getD ⟨#[]⟩), .bool (lkS k m).isSome]) w := by
  obtain ⟨q, hq⟩ := run_findStr (P := P) hk k m w
  have hb' : w.heap[b]? = some (.map (smE 0 m).toArray m.length) := hb
  cases h : lkS k m <;> rw [h] at hq <;> simp [Instr.lookup, run_underlying ht, MapKept.run_getObj_map hb', run_checkStr hk, hq, hz]
/-- What a map holds at a key. -/
theorem WL.mapGet {d : Tmp} {t kt et : TypeId} {x y : Operand} {b : Nat} {m : List (ByteArray × ByteArray)} {k : ByteArray} (ho : o.op = .lookup t x y true) (hx : evo env x = some (.map (some b))) (hy : evo env y = some (.string k))
    (ht : P.underlying t = some (.map kt et)) (hk : P.underlying kt = some .string) (hz : ∀ w, (zeroValue et).run P w = .ok (.string ⟨#[]⟩) w) (hm : Mem b (smap m) hs)
    (hg : guardE ops env o = some true) (hdd : o.dst = some d) (hd : Nat.blt d N = true) (kk : WL P w0 N ops Q rest ((d, .tuple #[.string ((lkS k m).getD ⟨#[]⟩), .bool (lkS k m).isSome]) :: env) hs) : WL P w0 N ops Q (o :: rest) env hs := by
  refine WL.val hg (dst_ok hdd hd) (fun a H n ha hf => ⟨H, n, ?_, hf⟩) (by rw [hdd]; exact kk)
  have := run_mapGet (P := P) (k := k) (w := wd w0 H n) ht hk (hz _) (hm.at_ hf)
  simp [execOp, ho, ha.eval hx, ha.eval hy, this]
/-- Two operations may come up now. -/
theorem WA.two (i j : Nat) {oi oj : Oper} (hi : ops[i]? = some oi) (hj : ops[j]? = some oj) (hr : Region.ready .any ops listed = [i, j])
    (h : WL P w0 N ops (Exit.then (WAK P w0 N ops Q hq fuel (listed.setIfInBounds i true)) Q) [oi] env hs) (h' : WL P w0 N ops (Exit.then (WAK P w0 N ops Q hq fuel (listed.setIfInBounds j true)) Q) [oj] env hs) : WA P w0 N ops Q hq (fuel + 1) listed env hs := by
  intro a H n ha hf hfq
  refine wpAnyH_all hr (by simp) fun q hq' => ?_
  have hq2 : q = i ∨ q = j := by simpa using hq'
  have go : ∀ (e : Nat) (oe : Oper), ops[e]? = some oe → WL P w0 N ops (Exit.then (WAK P w0 N ops Q hq fuel (listed.setIfInBounds e true)) Q) [oe] env hs →
      wpOp P ops Q e (fun a' w' => CQ w0 hq w' ∧ wpAnyH P .any ops Q (CQ w0 hq) fuel (listed.setIfInBounds e true) a' w') a (wd w0 H n) := by
    intro e oe he h
    have h1 := h a H n ha hf
    have hlo : LetsOut (Exit.then (WAK P w0 N ops Q hq fuel (listed.setIfInBounds e true)) Q) → LetsOut Q := fun ⟨a₀, w₀, hq₀⟩ => ⟨a₀, w₀, hq₀⟩
    have conv : ∀ a' w', wpList P ops (Exit.then (WAK P w0 N ops Q hq fuel (listed.setIfInBounds e true)) Q) [] a' w' → CQ w0 hq w' ∧ wpAnyH P .any ops Q (CQ w0 hq) fuel (listed.setIfInBounds e true) a' w' := by
      intro a' w' hn
      obtain ⟨env', hs', H', n', ha', hf', hsub, rfl, hk⟩ := hn
      exact ⟨⟨H', n', hsub H' hf', rfl⟩, hk a' H' n' ha' hf' (hsub H' hf')⟩
    unfold wpOp
    simp only [he]
    unfold wpList at h1
    split
    · rename_i hw
      rw [if_pos (by simpa using hw)] at h1
      rcases h1 with h1 | ⟨hasks, hlet⟩
      · refine .inl ?_
        unfold Oper.wp at h1 ⊢
        generalize (execOp a.eval oe).run P (wd w0 H n) = r at h1 ⊢
        cases r with
        | ok x w' =>
          cases x <;> simp only [Oper.upon] at h1 ⊢
          case value v => exact conv _ _ h1
          case skip => exact conv _ _ h1
          case defer d => exact conv _ _ h1
          case enter f args =>
            refine Calls.mono h1 fun e w'' he => ?_
            cases e with
            | returned u => exact conv _ _ he
            | panicked c => exact he
            | outgrown => exact hlo he
          case row row args => exact Rows.mono h1 fun u w'' he => conv _ _ he
        | halt x w' =>
          cases x <;> simp only [Oper.upon] at h1 ⊢
          case panic v => exact h1
      · exact .inr ⟨hasks, hlo hlet⟩
    · rename_i hw
      rw [if_neg (by simpa using hw)] at h1
      exact conv _ _ h1
  rcases hq2 with rfl | rfl
  · exact go _ _ hi h
  · exact go _ _ hj h'
end
end Go.Pan
