/- The law that unlike entries have unlike headers: the function. -/
import Derived.Test.YtdapbkdfanlkkaaDoorWalkM
import Derived.Test.YtdapbkdfanlkkaaDoorPureD
import Derived.Laws.StructEq
set_option maxRecDepth 10000
set_option linter.unusedVariables false
set_option linter.unusedSimpArgs false
namespace Go.Proofs.YtdapbkdfanlkkaaDoor
open Go Go.Pan Go.RowKit

theorem part_at {t : TypeId} {sz : Nat} (h : lk (Tab.T Tryd.prog).lay t = some (false, sz)) {xs : Array Value} {i : Nat} {v : Value} (hv : xs[i]? = some v) (w : World) : (part t xs i).run Tryd.prog w = .ok v w := by
  obtain ⟨h1, h2⟩ := lay_inf (tab_lay h)
  unfold part
  simp only [Sem.run_bind, h1, Result.andThen_ok]
  simp [hv]
theorem run_eqF {P : Program} {d : Nat} {xs ys : Array Value} {q : TypeId × Nat → Bool} (w : World) : ∀ fs : List Field, (fs.all fun f => f.name != "_") = true →
    (∀ p ∈ fs.map (fun f => (f.type, f.offset)), ∃ u v, (∀ w, (part p.1 xs p.2).run P w = .ok u w) ∧ (∀ w, (part p.1 ys p.2).run P w = .ok v w) ∧ ∀ w, (Op.equalIn d p.1 u v).run P w = .ok (q p) w) →
    (Op.eqFields d xs ys fs).run P w = .ok ((fs.map (fun f => (f.type, f.offset))).all q) w
  | [], _, _ => by simp [Op.eqFields]
  | f :: fs, hn, h => by
    simp only [List.all_cons, Bool.and_eq_true, bne_iff_ne] at hn
    obtain ⟨u, v, h1, h2, h3⟩ := h (f.type, f.offset) (by simp)
    have ih := run_eqF w fs hn.2 (fun p hp => h p (by simp only [List.map_cons, List.mem_cons]; exact .inr hp))
    simp only at h1 h2 h3
    simp only [Op.eqFields, if_pos hn.1, Sem.run_bind, h1, h2, h3, Result.andThen_ok, List.map_cons, List.all_cons]
    cases q (f.type, f.offset) with
    | true => simpa using ih
    | false => simp
def entFs : List (TypeId × Nat) := [(9, 0), (9, 1), (3, 2), (3, 3), (2, 4), (2, 5), (2, 6), (2, 7), (9, 8), (9, 9)]
def eqc : Option Value → Option Value → Bool
  | some (.string a), some (.string b) => decide (a = b)
  | some (.int _ a), some (.int _ b) => decide (a = b)
  | _, _ => false
theorem ent_eql (a b : Ent) : ∃ r : Bool, (r = true ↔ a = b) ∧ ∀ w, (binOp .eql 23 a.val b.val).run Tryd.prog w = .ok (.bool r) w := by
  have hfs : (Tryd.prog.fieldsOf 23).toList.map (fun f => (f.type, f.offset)) = entFs := by kernel_rfl
  have hnm : ((Tryd.prog.fieldsOf 23).toList.all fun f => f.name != "_") = true := by kernel_rfl
  have hund : Tryd.prog.underlying 23 = some (.struct (Tryd.prog.fieldsOf 23)) := by kernel_rfl
  have hst : Tryd.prog.stoodInHeld 23 = false := by kernel_rfl
  have S : ∀ (x y : ByteArray) w, (Op.equalIn 9999 9 (.string x) (.string y)).run Tryd.prog w = .ok (decide (x = y)) w := fun x y w => by
    rw [run_equalIn_string w 9998 _ x y (by kernel_rfl)]
    congr 1
    rw [Bool.eq_iff_iff, beq_iff_eq, decide_eq_true_eq, ByteArray.toList_eq, ByteArray.toList_eq]
    exact ⟨bytes_ext, fun h => by rw [h]⟩
  have I : ∀ (x y : Int) w, (Op.equalIn 9999 3 (.int .i64 x) (.int .i64 y)).run Tryd.prog w = .ok (decide (x = y)) w := fun x y w => by
    rw [run_equalIn_int w 9998 _ .i64 .i64 x y (by kernel_rfl)]
    congr 1
  have J : ∀ (x y : Int) w, (Op.equalIn 9999 2 (.int .i64 x) (.int .i64 y)).run Tryd.prog w = .ok (decide (x = y)) w := fun x y w => by
    rw [run_equalIn_int w 9998 _ .i64 .i64 x y (by kernel_rfl)]
    congr 1
  have PS : ∀ {xs : Array Value} {i : Nat} {v : Value}, xs[i]? = some v → ∀ w, (part 9 xs i).run Tryd.prog w = .ok v w := fun h w => part_at rfl h w
  have PI : ∀ {xs : Array Value} {i : Nat} {v : Value}, xs[i]? = some v → ∀ w, (part 3 xs i).run Tryd.prog w = .ok v w := fun h w => part_at rfl h w
  have PJ : ∀ {xs : Array Value} {i : Nat} {v : Value}, xs[i]? = some v → ∀ w, (part 2 xs i).run Tryd.prog w = .ok v w := fun h w => part_at rfl h w
  refine ⟨entFs.all fun p => eqc a.cells[p.2]? b.cells[p.2]?, ?_, fun w => ?_⟩
  · have e : (entFs.all fun p => eqc a.cells[p.2]? b.cells[p.2]?) = (decide (a.path = b.path) && (decide (a.link = b.link) && (decide (a.kind = b.kind) && (decide (a.mode = b.mode) && (decide (a.uid = b.uid) && (decide (a.gid = b.gid) && (decide (a.mtime = b.mtime) && (decide (a.size = b.size) && (decide (a.user = b.user) && (decide (a.group = b.group) && true)))))))))) := rfl
    rw [e]
    simp only [Bool.and_eq_true, decide_eq_true_eq, and_true]
    obtain ⟨x1, x2, x3, x4, x5, x6, x7, x8, x9, x10⟩ := a
    obtain ⟨y1, y2, y3, y4, y5, y6, y7, y8, y9, y10⟩ := b
    simp only [Ent.mk.injEq]
  · show (binOp .eql 23 (.agg a.cells) (.agg b.cells)).run Tryd.prog w = _
    rw [run_eql_struct, run_equalIn_agg w 9999 _ _ _ hund hst, run_eqF (q := fun p => eqc a.cells[p.2]? b.cells[p.2]?) w _ hnm, hfs]
    · rfl
    · rw [hfs]
      intro p hp
      simp only [entFs, List.mem_cons, List.not_mem_nil, or_false] at hp
      rcases hp with rfl | rfl | rfl | rfl | rfl | rfl | rfl | rfl | rfl | rfl
      · exact ⟨_, _, PS rfl, PS rfl, S a.path b.path⟩
      · exact ⟨_, _, PS rfl, PS rfl, S a.link b.link⟩
      · exact ⟨_, _, PI rfl, PI rfl, I a.kind b.kind⟩
      · exact ⟨_, _, PI rfl, PI rfl, I a.mode b.mode⟩
      · exact ⟨_, _, PJ rfl, PJ rfl, J a.uid b.uid⟩
      · exact ⟨_, _, PJ rfl, PJ rfl, J a.gid b.gid⟩
      · exact ⟨_, _, PJ rfl, PJ rfl, J a.mtime b.mtime⟩
      · exact ⟨_, _, PJ rfl, PJ rfl, J a.size b.size⟩
      · exact ⟨_, _, PS rfl, PS rfl, S a.user b.user⟩
      · exact ⟨_, _, PS rfl, PS rfl, S a.group b.group⟩
/-- What an entry's header is, or an error. -/
theorem EntR.cases {e : Ent} {hs hs' : Hs} {v : Value} (h : EntR e hs v hs') : ∃ A n cap err o, v = .tuple #[.slice A n cap, .int .i64 err] ∧ hs' = o ++ hs ∧ (err = 0 → e.ok ∧ ¬ toolong e.recs ∧ n = e.bytes.length ∧ Own 5 1 (.slice A n cap) (enc8 e.bytes) o) := by
  rcases h with ⟨h1, h2, r, o, ho, rfl, rfl⟩ | ⟨_, _, rfl, rfl⟩ | ⟨_, rfl, rfl⟩
  · obtain ⟨A, n, cap, rfl, hn, _⟩ := ho.form
    rw [enc8_length, Nat.mul_one] at hn
    exact ⟨A, n, cap, 0, o, rfl, rfl, fun _ => ⟨h1, h2, hn, ho⟩⟩
  · exact ⟨none, 0, 0, 2, [], rfl, rfl, fun h => by cases h⟩
  · exact ⟨none, 0, 0, 90, [], rfl, rfl, fun h => by cases h⟩
theorem smallb_of {e : Ent} (h : e.smallb = true) : e.small := by
  simp only [Ent.smallb, Bool.and_eq_true, decide_eq_true_eq] at h
  exact h
/-- Two entries are held against each other. -/
theorem WQ.entEq {w0 : World} {N : Nat} {ops : Array Oper} {K : Act → Prop} {env : Env} {hs : Hs} {o : Oper} {rest : List Oper} {d : Tmp} {t' : TypeId} {x y : Operand} {a b : Ent} {r : Bool} (ho : o.op = .binOp .eql 23 x y t') (hx : evo env x = some a.val) (hy : evo env y = some b.val) (hrun : ∀ w, (binOp .eql 23 a.val b.val).run Tryd.prog w = .ok (.bool r) w)
    (hg : guardE ops env o = some true) (hdd : o.dst = some d) (hd : Nat.blt d N = true) (k : WQ Tryd.prog w0 N ops K rest ((d, .bool r) :: env) hs) : WQ Tryd.prog w0 N ops K (o :: rest) env hs := by
  refine WQ.val (v := .bool r) hg (dst_ok hdd hd) (fun a' H n ha _ => ?_) (by rw [hdd]; exact k)
  have hge := run_eqGuard_agg (P := Tryd.prog) (wd w0 H n) .eql 23 x y a.cells b.cells (by kernel_rfl)
  have hge' : (eqGuard .eql 23 x y a.val b.val).run Tryd.prog (wd w0 H n) = .ok () (wd w0 H n) := hge
  simp only [execOp, ho, ha.eval hx, ha.eval hy, Sem.run_bind, hge', hrun, Result.andThen_ok, Sem.run_pure]
set_option maxHeartbeats 2000000 in
theorem law_EmitOne (a b : Ent) (ha : a.inr) (hb : b.inr) (w0 : World) (hs : Hs) (ht : HasT hs) : CallsF Tryd.prog 4 [a.val, b.val] w0 hs (Same (.bool true) hs) := by
  refine CallsF.enter [(0, _), (1, _)] rfl Tryd.func4 rfl rfl rfl rfl ?_
  (repeat refine WC.seq ?_); refine WC.region ?_
  refine WL.box' rfl rfl rfl (fun b2 => ?_)
  refine WL.box' rfl rfl rfl (fun b3 => ?_)
  refine WL.pures rfl rfl rfl rfl rfl ?_
  refine WL.goes (fun _ _ => rfl) ?_
  (repeat refine WC.seq ?_); refine WC.region ?_
  refine WL.callS' rfl rfl cf6 (law_writes _ _ ((ht.cons _).cons _)) rfl rfl ?_
  refine WL.pures rfl rfl rfl rfl rfl ?_
  refine WL.goes (fun _ _ => rfl) ?_
  (repeat refine WC.seq ?_); refine WC.no rfl ?_
  refine WC.goes (fun _ _ => rfl) ?_
  cases hsa : a.smallb with
  | false =>
    (repeat refine WC.seq ?_); refine WC.region ?_
    refine WL.load' (v := a.val) rfl rfl (.tail (.head (by kernel_rfl))) rfl rfl ?_
    refine WL.callS' rfl rfl cf7 (law_fits a _ _) rfl rfl ?_; rw [hsa]
    refine WL.pure rfl rfl rfl rfl ?_
    refine WL.pure rfl rfl rfl rfl ?_
    refine WL.pass rfl rfl ?_
    refine WL.pass rfl rfl ?_
    refine WL.pass rfl rfl ?_
    refine WL.pures rfl rfl rfl rfl rfl ?_
    refine WL.goes (fun _ _ => rfl) ?_
    (repeat refine WC.seq ?_); refine WC.yes rfl ?_
    (repeat refine WC.seq ?_); refine WC.region ?_
    refine WL.pures rfl rfl rfl rfl rfl ?_
    refine WL.goes (fun _ _ => rfl) ?_
    exact WC.doneS (fun _ _ => rfl) rfl (.skip (.skip (.refl _))) ⟨rfl, rfl⟩
  | true =>
  have sa := smallb_of hsa
  cases hsb : b.smallb with
  | false =>
    (repeat refine WC.seq ?_); refine WC.region ?_
    refine WL.load' (v := a.val) rfl rfl (.tail (.head (by kernel_rfl))) rfl rfl ?_
    refine WL.callS' rfl rfl cf7 (law_fits a _ _) rfl rfl ?_; rw [hsa]
    refine WL.pures rfl rfl rfl rfl rfl ?_
    refine WL.load' (v := b.val) rfl rfl (.head (by kernel_rfl)) rfl rfl ?_
    refine WL.callS' rfl rfl cf7 (law_fits b _ _) rfl rfl ?_; rw [hsb]
    refine WL.pures rfl rfl rfl rfl rfl ?_
    refine WL.goes (fun _ _ => rfl) ?_
    (repeat refine WC.seq ?_); refine WC.yes rfl ?_
    (repeat refine WC.seq ?_); refine WC.region ?_
    refine WL.pures rfl rfl rfl rfl rfl ?_
    refine WL.goes (fun _ _ => rfl) ?_
    exact WC.doneS (fun _ _ => rfl) rfl (.skip (.skip (.refl _))) ⟨rfl, rfl⟩
  | true =>
  have sb := smallb_of hsb
  (repeat refine WC.seq ?_); refine WC.region ?_
  refine WL.load' (v := a.val) rfl rfl (.tail (.head (by kernel_rfl))) rfl rfl ?_
  refine WL.callS' rfl rfl cf7 (law_fits a _ _) rfl rfl ?_; rw [hsa]
  refine WL.pures rfl rfl rfl rfl rfl ?_
  refine WL.load' (v := b.val) rfl rfl (.head (by kernel_rfl)) rfl rfl ?_
  refine WL.callS' rfl rfl cf7 (law_fits b _ _) rfl rfl ?_; rw [hsb]
  refine WL.pures rfl rfl rfl rfl rfl ?_
  refine WL.goes (fun _ _ => rfl) ?_
  (repeat refine WC.seq ?_); refine WC.no rfl ?_
  refine WC.goes (fun _ _ => rfl) ?_
  (repeat refine WC.seq ?_); refine WC.region ?_
  refine WL.load' (v := a.val) rfl rfl (.tail (.head (by kernel_rfl))) rfl rfl ?_
  refine WL.call' rfl rfl cf8 (emit_Entry a sa ha _ _ ((ht.cons _).cons _)) rfl rfl (fun v hs' hv => ?_); obtain ⟨A1, n1, cap1, err1, o1, rfl, rfl, k1⟩ := hv.cases
  refine WL.pures rfl rfl rfl rfl rfl ?_
  refine WL.goes (fun _ _ => rfl) ?_
  (repeat refine WC.seq ?_); refine WC.region ?_
  refine WL.load' (v := b.val) rfl rfl (.right (.head (by kernel_rfl))) rfl rfl ?_
  refine WL.call' rfl rfl cf8 (emit_Entry b sb hb _ _ (((ht.cons _).cons _).right _)) rfl rfl (fun v hs' hv => ?_); obtain ⟨A2, n2, cap2, err2, o2, rfl, rfl, k2⟩ := hv.cases
  refine WL.pures rfl rfl rfl rfl rfl ?_
  refine WL.goes (fun _ _ => rfl) ?_
  by_cases e1 : err1 = 0
  · subst e1
    obtain ⟨ok1, nt1, hn1, own1⟩ := k1 rfl
    by_cases e2 : err2 = 0
    · subst e2
      obtain ⟨ok2, nt2, hn2, own2⟩ := k2 rfl
      (repeat refine WC.seq ?_); refine WC.region ?_
      refine WL.pures rfl rfl rfl rfl rfl ?_
      refine WL.goes (fun _ _ => rfl) ?_
      (repeat refine WC.seq ?_); refine WC.no rfl ?_
      refine WC.goes (fun _ _ => rfl) ?_
      obtain ⟨r, hr, hrun⟩ := ent_eql a b
      (repeat refine WC.seq ?_)
      refine WC.quiet mixed (by kernel_rfl) ?_
      refine WQ.pure rfl rfl rfl rfl ?_
      refine WQ.str' rfl rfl rfl rfl (((own1.rd _).app _)) rfl rfl ?_
      refine WQ.pure rfl rfl rfl rfl ?_
      refine WQ.str' rfl rfl rfl rfl (own2.rd _) rfl rfl ?_
      refine WQ.pure rfl rfl rfl rfl ?_
      refine WQ.load' (v := a.val) rfl rfl (.right (.right (.tail (.head (by kernel_rfl))))) rfl rfl ?_
      refine WQ.load' (v := b.val) rfl rfl (.right (.right (.head (by kernel_rfl)))) rfl rfl ?_
      refine WQ.entEq (a := a) (b := b) rfl rfl rfl hrun rfl rfl rfl ?_
      refine WQ.pures rfl rfl rfl rfl rfl ?_
      refine WQ.goes (fun _ _ => rfl) ?_
      refine WC.doneS (fun _ _ => rfl) rfl (.skipR (.skipR (.skip (.skip (.refl _))))) ⟨congrArg Value.bool (decide_eq_true ?_), rfl⟩
      rw [Bool.eq_iff_iff, decide_eq_true_eq, hr]
      constructor
      · intro h
        have h1 : a.bytes = b.bytes := by
          have := congrArg (fun x : ByteArray => x.data.toList) h
          simpa using this
        exact bytes_inj ok1 ok2 nt1 nt2 h1
      · intro h
        subst h
        rfl
    · (repeat refine WC.seq ?_); refine WC.region ?_
      refine WL.pures rfl rfl rfl rfl rfl ?_
      refine WL.goes (fun _ _ => rfl) ?_
      (repeat refine WC.seq ?_); refine WC.ite rfl (fun c => ?_) (fun c => absurd (Decidable.not_not.1 c) e2)
      (repeat refine WC.seq ?_); refine WC.region ?_
      refine WL.pures rfl rfl rfl rfl rfl ?_
      refine WL.goes (fun _ _ => rfl) ?_
      exact WC.doneS (fun _ _ => rfl) rfl (.skipR (.skipR (.skip (.skip (.refl _))))) ⟨rfl, rfl⟩
  · (repeat refine WC.seq ?_); refine WC.region ?_
    refine WL.pure rfl rfl rfl rfl ?_
    refine WL.pure rfl rfl rfl rfl ?_
    refine WL.pure rfl rfl rfl rfl ?_
    refine WL.splitP rfl rfl rfl (fun h => ?_) (fun h => absurd (Decidable.not_not.1 h) e1); refine WL.pass rfl rfl ?_
    refine WL.pass rfl rfl ?_
    refine WL.pures rfl rfl rfl rfl rfl ?_
    refine WL.goes (fun _ _ => rfl) ?_
    (repeat refine WC.seq ?_); refine WC.yes rfl ?_
    (repeat refine WC.seq ?_); refine WC.region ?_
    refine WL.pures rfl rfl rfl rfl rfl ?_
    refine WL.goes (fun _ _ => rfl) ?_
    exact WC.doneS (fun _ _ => rfl) rfl (.skipR (.skipR (.skip (.skip (.refl _))))) ⟨rfl, rfl⟩
end Go.Proofs.YtdapbkdfanlkkaaDoor
