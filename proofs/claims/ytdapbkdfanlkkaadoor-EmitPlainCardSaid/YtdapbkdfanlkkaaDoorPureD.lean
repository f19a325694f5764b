/- Unlike entries have unlike headers: an entry is known by its header. -/
import Derived.Test.YtdapbkdfanlkkaaDoorPureC
import Derived.Test.YtdapbkdfanlkkaaDoorWalkK
set_option maxRecDepth 10000
set_option linter.unusedVariables false
set_option linter.unusedSimpArgs false
namespace Go.Proofs.YtdapbkdfanlkkaaDoor
open Go Go.Pan Go.RowKit

theorem no0 {s : ByteArray} (h : nul s = false) : (0 : UInt8) ∉ s.data.toList := fun hm => by
  rw [nul_iff.2 hm] at h; cases h
theorem fitsb_nul {s : ByteArray} {n : Int} (h : fitsb s n = true) : nul s = false := by
  simp only [fitsb, Bool.and_eq_true, Bool.not_eq_true'] at h
  exact h.2
theorem text_inj {s u : ByteArray} {n m : Int} {j k : Nat} (hs : fitsb s n = true) (hu : fitsb u m = true) (h : s.data.toList ++ List.replicate j 0 = u.data.toList ++ List.replicate k 0) : s = u :=
  bytes_ext (strip0 (no0 (fitsb_nul hs)) (no0 (fitsb_nul hu)) h)
theorem ofits_pow {n : Nat} {w : Nat} (hw : 2 ≤ w) (h : ofits n w = true) : n < 8 ^ (w - 1) := by
  simp only [ofits, Bool.and_eq_true, decide_eq_true_eq, Int.toNat_natCast] at h
  exact odig_le (by omega)
theorem num_inj {n m : Int} {w k : Nat} (hw : 2 ≤ w) (hk : k = w - 1) (hn : ofits n w = true) (hm : ofits m w = true) (h : ofmt n.toNat k ++ [0] = ofmt m.toNat k ++ [0]) : n = m := by
  subst hk
  obtain ⟨n, rfl⟩ := Int.eq_ofNat_of_zero_le (ofits_nonneg hn)
  obtain ⟨m, rfl⟩ := Int.eq_ofNat_of_zero_le (ofits_nonneg hm)
  have := ofmt_inj (ofits_pow hw hn) (ofits_pow hw hm) (List.append_inj_left' h rfl)
  omega
theorem tyB_inj {k j : Int} (hk : typ k ≠ 0) (hj : typ j ≠ 0) (h : tyB k = tyB j) : k = j := by
  have h1 : typ k = typ j := by rw [tyB_typ, tyB_typ, h]
  unfold typ at h1 hk hj
  repeat' split at h1
  all_goals simp_all
theorem splitp_join {s p n : ByteArray} (h : splitp s = some (p, n)) : s = if p = ⟨#[]⟩ then n else p ++ ⟨#[47]⟩ ++ n := by
  unfold splitp at h
  split at h
  · cases h
  split at h
  · simp only [Option.some.injEq, Prod.mk.injEq] at h
    obtain ⟨rfl, rfl⟩ := h
    rw [if_pos rfl]
  split at h
  · cases h
  rename_i i hi
  split at h
  · simp only [Option.some.injEq, Prod.mk.injEq] at h
    obtain ⟨rfl, rfl⟩ := h
    have hg := List.find?_some hi
    have hr : i < s.size := by simpa using List.mem_of_find?_eq_some hi
    simp only [sgood, Bool.and_eq_true, decide_eq_true_eq, beq_iff_eq] at hg
    have hne : s.extract 0 i ≠ ⟨#[]⟩ := fun h => by
      have := congrArg ByteArray.size h
      rw [ByteArray.size_extract] at this
      have e : (⟨#[]⟩ : ByteArray).size = 0 := rfl
      omega
    rw [if_neg hne]
    apply bytes_ext
    have hsz : s.data.toList.length = s.size := size_list s
    have h47 : s.data.toList[i]? = some 47 := by rw [← hg.1]; simp [getElem?_def, ByteArray.getElem_eq_getElem_data]
    simp only [ByteArray.data_append, Array.toList_append, ByteArray.data_extract, Array.toList_extract, List.extract_eq_take_drop]
    obtain ⟨h1, h2⟩ := List.getElem?_eq_some_iff.1 h47
    have h3 : s.data.toList.drop (i + 1) = (s.data.toList.drop (i + 1)).take (s.size - (i + 1)) := by
      rw [List.take_of_length_le (by simp)]
    rw [← h3]
    have h4 : s.data.toList.drop i = 47 :: s.data.toList.drop (i + 1) := by
      rw [List.drop_eq_getElem_cons h1, h2]
    have h5 := List.take_append_drop i s.data.toList
    rw [h4] at h5
    simpa using h5.symm
  · cases h
theorem beq_bytes (k : ByteArray) : (k == k) = true := by
  obtain ⟨⟨l⟩⟩ := k
  show ((⟨l⟩ : Array UInt8) == ⟨l⟩) = true
  simp
/-- What an entry's map holds at each key. -/
theorem lk_all (e : Ent) : lkS kPath e.m7 = (if (splitp e.path).isSome then none else some e.path) ∧ lkS kLink e.m7 = (if fitsb e.link 100 then none else some e.link) ∧ lkS kUname e.m7 = (if fitsb e.user 31 then none else some e.user) ∧ lkS kGname e.m7 = (if fitsb e.group 31 then none else some e.group) ∧
    lkS kUid e.m7 = (if ofits e.uid 8 then none else some (itoa e.uid)) ∧ lkS kGid e.m7 = (if ofits e.gid 8 then none else some (itoa e.gid)) ∧ lkS kSize e.m7 = (if ofits e.size 12 then none else some (itoa e.size)) ∧ lkS kMtime e.m7 = (if ofits e.mtime 12 then none else some (itoa e.mtime)) := by
  have own : ∀ {b : Bool} {k v : ByteArray}, lkS k (opt b k v) = if b then none else some v := fun {b k v} => by
    cases b
    · simp [opt, lkS, beq_bytes]
    · rfl
  have oth : ∀ {b : Bool} {k k' v : ByteArray}, (k == k') = false → lkS k (opt b k' v) = none := fun h => lkS_opt h
  simp only [Ent.m7, Ent.m6, Ent.m5, Ent.m4, Ent.m3, Ent.m2, Ent.m1, Ent.m0, lkS_append]
  refine ⟨?_, ?_, ?_, ?_, ?_, ?_, ?_, ?_⟩
  · simp only [oth (k := kPath) (k' := kLink) rfl, oth (k := kPath) (k' := kUname) rfl, oth (k := kPath) (k' := kGname) rfl, oth (k := kPath) (k' := kUid) rfl, oth (k := kPath) (k' := kGid) rfl, oth (k := kPath) (k' := kSize) rfl, oth (k := kPath) (k' := kMtime) rfl, own] <;> cases (splitp e.path).isSome <;> rfl
  · simp only [oth (k := kLink) (k' := kPath) rfl, oth (k := kLink) (k' := kUname) rfl, oth (k := kLink) (k' := kGname) rfl, oth (k := kLink) (k' := kUid) rfl, oth (k := kLink) (k' := kGid) rfl, oth (k := kLink) (k' := kSize) rfl, oth (k := kLink) (k' := kMtime) rfl, own] <;> cases fitsb e.link 100 <;> rfl
  · simp only [oth (k := kUname) (k' := kPath) rfl, oth (k := kUname) (k' := kLink) rfl, oth (k := kUname) (k' := kGname) rfl, oth (k := kUname) (k' := kUid) rfl, oth (k := kUname) (k' := kGid) rfl, oth (k := kUname) (k' := kSize) rfl, oth (k := kUname) (k' := kMtime) rfl, own] <;> cases fitsb e.user 31 <;> rfl
  · simp only [oth (k := kGname) (k' := kPath) rfl, oth (k := kGname) (k' := kLink) rfl, oth (k := kGname) (k' := kUname) rfl, oth (k := kGname) (k' := kUid) rfl, oth (k := kGname) (k' := kGid) rfl, oth (k := kGname) (k' := kSize) rfl, oth (k := kGname) (k' := kMtime) rfl, own] <;> cases fitsb e.group 31 <;> rfl
  · simp only [oth (k := kUid) (k' := kPath) rfl, oth (k := kUid) (k' := kLink) rfl, oth (k := kUid) (k' := kUname) rfl, oth (k := kUid) (k' := kGname) rfl, oth (k := kUid) (k' := kGid) rfl, oth (k := kUid) (k' := kSize) rfl, oth (k := kUid) (k' := kMtime) rfl, own] <;> cases ofits e.uid 8 <;> rfl
  · simp only [oth (k := kGid) (k' := kPath) rfl, oth (k := kGid) (k' := kLink) rfl, oth (k := kGid) (k' := kUname) rfl, oth (k := kGid) (k' := kGname) rfl, oth (k := kGid) (k' := kUid) rfl, oth (k := kGid) (k' := kSize) rfl, oth (k := kGid) (k' := kMtime) rfl, own] <;> cases ofits e.gid 8 <;> rfl
  · simp only [oth (k := kSize) (k' := kPath) rfl, oth (k := kSize) (k' := kLink) rfl, oth (k := kSize) (k' := kUname) rfl, oth (k := kSize) (k' := kGname) rfl, oth (k := kSize) (k' := kUid) rfl, oth (k := kSize) (k' := kGid) rfl, oth (k := kSize) (k' := kMtime) rfl, own] <;> cases ofits e.size 12 <;> rfl
  · simp only [oth (k := kMtime) (k' := kPath) rfl, oth (k := kMtime) (k' := kLink) rfl, oth (k := kMtime) (k' := kUname) rfl, oth (k := kMtime) (k' := kGname) rfl, oth (k := kMtime) (k' := kUid) rfl, oth (k := kMtime) (k' := kGid) rfl, oth (k := kMtime) (k' := kSize) rfl, own] <;> cases ofits e.mtime 12 <;> rfl
theorem recs_lk {e d : Ent} (h : e.recs = d.recs) {k : ByteArray} (hk : k ∈ keysL) : lkS k e.m7 = lkS k d.m7 := by
  have key : ∀ {a b : Ent} {v : ByteArray}, a.recs = b.recs → lkS k a.m7 = some v → lkS k b.m7 = some v := fun {a b v} hab hv => by
    have hm : (k, v) ∈ a.recs := by
      simp only [Ent.recs, recsOf, List.mem_filterMap, Option.map_eq_some_iff]
      exact ⟨k, hk, v, hv, rfl⟩
    rw [hab] at hm
    exact (recs_mem hm).2
  apply Option.ext
  intro v
  exact ⟨key h, key h.symm⟩
/-- An entry is known by its records and the fields of its header. -/
theorem ent_ext {e d : Ent} (hrec : e.recs = d.recs) (h1 : e.sname = d.sname) (h2 : cutS e.link 100 = cutS d.link 100) (h3 : cutS e.user 31 = cutS d.user 31) (h4 : cutS e.group 31 = cutS d.group 31) (h5 : e.spre = d.spre)
    (h6 : e.mode = d.mode) (h7 : cutN e.uid 8 = cutN d.uid 8) (h8 : cutN e.gid 8 = cutN d.gid 8) (h9 : cutN e.size 12 = cutN d.size 12) (h10 : cutN e.mtime 12 = cutN d.mtime 12) (h11 : e.kind = d.kind) : e = d := by
  obtain ⟨a1, a2, a3, a4, a5, a6, a7, a8⟩ := lk_all e
  obtain ⟨b1, b2, b3, b4, b5, b6, b7, b8⟩ := lk_all d
  have S : ∀ {s u : ByteArray} {n : Int} {x y : Option ByteArray}, x = (if fitsb s n then none else some s) → y = (if fitsb u n then none else some u) → x = y → cutS s n = cutS u n → s = u := fun {s u n x y} hx hy hxy hc => by
    subst hx; subst hy
    unfold cutS at hc
    split at hxy
    · rename_i f
      split at hxy
      · rename_i g; rw [if_pos f, if_pos g] at hc; exact hc
      · cases hxy
    · split at hxy
      · cases hxy
      · exact Option.some.inj hxy
  have N : ∀ {s u n : Int} {x y : Option ByteArray}, x = (if ofits s n then none else some (itoa s)) → y = (if ofits u n then none else some (itoa u)) → x = y → cutN s n = cutN u n → s = u := fun {s u n x y} hx hy hxy hc => by
    subst hx; subst hy
    unfold cutN at hc
    split at hxy
    · rename_i f
      split at hxy
      · rename_i g; rw [if_pos f, if_pos g] at hc; exact hc
      · cases hxy
    · split at hxy
      · cases hxy
      · exact itoa_inj (Option.some.inj hxy)
  have hl : ∀ {k : ByteArray}, k ∈ keysL → lkS k e.m7 = lkS k d.m7 := fun hk => recs_lk hrec hk
  have p1 := S a2 b2 (hl (by simp [keysL])) h2
  have p2 := S a3 b3 (hl (by simp [keysL])) h3
  have p3 := S a4 b4 (hl (by simp [keysL])) h4
  have p4 := N a5 b5 (hl (by simp [keysL])) h7
  have p5 := N a6 b6 (hl (by simp [keysL])) h8
  have p6 := N a7 b7 (hl (by simp [keysL])) h9
  have p7 := N a8 b8 (hl (by simp [keysL])) h10
  have p8 : e.path = d.path := by
    have hp := hl (k := kPath) (by simp [keysL])
    rw [a1, b1] at hp
    cases he : splitp e.path with
    | none =>
      cases hd : splitp d.path with
      | none => rw [he, hd] at hp; exact Option.some.inj hp
      | some q => rw [he, hd] at hp; cases hp
    | some q =>
      obtain ⟨p, n⟩ := q
      cases hd : splitp d.path with
      | none => rw [he, hd] at hp; cases hp
      | some q' =>
        obtain ⟨p', n'⟩ := q'
        have e1 : p = p' := by simpa [Ent.spre, he, hd] using h5
        have e2 : n = n' := by simpa [Ent.sname, he, hd] using h1
        rw [splitp_join he, splitp_join hd, e1, e2]
  obtain ⟨x1, x2, x3, x4, x5, x6, x7, x8, x9, x10⟩ := e
  obtain ⟨y1, y2, y3, y4, y5, y6, y7, y8, y9, y10⟩ := d
  simp only at p1 p2 p3 p4 p5 p6 p7 p8 h6 h11
  subst p1 p2 p3 p4 p5 p6 p7 p8 h6 h11
  rfl
theorem mode_fits {e : Ent} (h : e.ok) : ofits e.mode 8 = true := by
  obtain ⟨m, hm⟩ := Int.eq_ofNat_of_zero_le h.1.2.1
  have := h.1.2.2.1
  rw [hm]
  exact ofits_lt (n := m) (w := 8) (by omega) (by omega)
theorem head_inj {e d : Ent} (he : e.ok) (hd : d.ok) (hrec : e.recs = d.recs) (h : e.head = d.head) : e = d := by
  have zS : ∀ (s : ByteArray) (n : Nat), (cutS s n).size ≤ n := fun s n => by
    have := fitsb_size (fitsb_cutS (s := s) (n := n) (by omega)); omega
  have zn : ∀ e : Ent, e.sname.size ≤ 100 := fun e => by have := fitsb_size (sname_fits e); omega
  have zp : ∀ e : Ent, e.spre.size ≤ 155 := fun e => by have := fitsb_size (spre_fits e); omega
  obtain ⟨a1, a2, a3, a4, a5, a6, a7, a8, a9, a10, a11⟩ := sealed_fields (zn e) (zS e.link 100) (zS e.user 31) (zS e.group 31) (zp e) (show e.head = _ from rfl)
  obtain ⟨b1, b2, b3, b4, b5, b6, b7, b8, b9, b10, b11⟩ := sealed_fields (zn d) (zS d.link 100) (zS d.user 31) (zS d.group 31) (zp d) (show d.head = _ from rfl)
  rw [h] at a1 a2 a3 a4 a5 a6 a7 a8 a9 a10 a11
  have F := fun (s : ByteArray) (n : Int) (hn : 0 ≤ n) => fitsb_cutS (s := s) (n := n) hn
  have O := fun (n w : Int) (hw : 2 ≤ w) => ofits_cutN (n := n) (w := w) hw
  exact ent_ext hrec (text_inj (sname_fits e) (sname_fits d) (a1.symm.trans b1)) (text_inj (F _ _ (by decide)) (F _ _ (by decide)) (a2.symm.trans b2)) (text_inj (F _ _ (by decide)) (F _ _ (by decide)) (a3.symm.trans b3)) (text_inj (F _ _ (by decide)) (F _ _ (by decide)) (a4.symm.trans b4))
    (text_inj (spre_fits e) (spre_fits d) (a5.symm.trans b5)) (num_inj (w := 8) (by decide) (by decide) (mode_fits he) (mode_fits hd) (a6.symm.trans b6)) (num_inj (w := 8) (by decide) (by decide) (O _ _ (by decide)) (O _ _ (by decide)) (a7.symm.trans b7)) (num_inj (w := 8) (by decide) (by decide) (O _ _ (by decide)) (O _ _ (by decide)) (a8.symm.trans b8))
    (num_inj (w := 12) (by decide) (by decide) (O _ _ (by decide)) (O _ _ (by decide)) (a9.symm.trans b9)) (num_inj (w := 12) (by decide) (by decide) (O _ _ (by decide)) (O _ _ (by decide)) (a10.symm.trans b10)) (tyB_inj he.1.1 hd.1.1 (List.cons.inj (a11.symm.trans b11)).1)
theorem keys61 : ∀ k ∈ keysL, (61 : UInt8) ∉ k.data.toList := fun k hk => by
  have := List.all_eq_true.1 (by kernel_rfl : (keysL.all fun k => !k.data.toList.contains 61) = true) k hk
  simpa using this
theorem paxAll_inj {l m : List (ByteArray × ByteArray)} (hl : ∀ r ∈ l, 61 ∉ r.1.data.toList) (hm : ∀ r ∈ m, 61 ∉ r.1.data.toList) (n1 : (paxs l).length ≤ 8192) (n2 : (paxs m).length ≤ 8192) (h : paxAll l = paxAll m) : l = m := by
  unfold paxAll at h
  rw [List.append_assoc, List.append_assoc] at h
  obtain ⟨h1, h2⟩ := List.append_inj h (by rw [paxHead_length, paxHead_length])
  have e : ∀ n, seg (paxHead n) 124 12 = ofmt n 11 ++ [0] := fun n =>
    (sealed_fields (name := kPax) (link := ⟨#[]⟩) (user := ⟨#[]⟩) (group := ⟨#[]⟩) (pre := ⟨#[]⟩) (mode := 420) (uid := 0) (gid := 0) (size := n) (mtime := 0) (ty := 120) (by decide) (by decide) (by decide) (by decide) (by decide) rfl).2.2.2.2.2.2.2.2.1
  have h3 := (e (paxs l).length).symm.trans ((congrArg (fun x => seg x 124 12) h1).trans (e (paxs m).length))
  have h4 := ofmt_inj (k := 11) (by omega) (by omega) (List.append_inj_left' h3 rfl)
  exact paxs_inj hl hm (List.append_inj_left h2 h4)
theorem bytes_inj {e d : Ent} (he : e.ok) (hd : d.ok) (te : ¬ toolong e.recs) (td : ¬ toolong d.recs) (h : e.bytes = d.bytes) : e = d := by
  have hb : e.ahead = d.ahead ∧ e.head = d.head := List.append_inj' h (by rw [e.head_length, d.head_length])
  obtain ⟨h1, h2⟩ := hb
  have k61 : ∀ (e : Ent), ∀ r ∈ e.recs, 61 ∉ r.1.data.toList := fun e r hr => keys61 _ (recs_mem hr).1
  have hne : ∀ {e : Ent}, e.recs ≠ [] → e.ahead ≠ [] := fun {e} hn h => by
    rw [Ent.ahead, if_neg hn] at h
    have := congrArg List.length h
    rw [paxAll_length] at this
    simp at this
  refine head_inj he hd ?_ h2
  by_cases r1 : e.recs = []
  · by_cases r2 : d.recs = []
    · rw [r1, r2]
    · exact absurd (by rw [← h1, Ent.ahead, if_pos r1]) (hne r2)
  · by_cases r2 : d.recs = []
    · exact absurd (by rw [h1, Ent.ahead, if_pos r2]) (hne r1)
    · rw [Ent.ahead, if_neg r1, Ent.ahead, if_neg r2] at h1
      have l1 : (paxs e.recs).length ≤ 8192 := by
        rcases Nat.lt_or_ge 8192 (paxs e.recs).length with h | h
        · exact absurd ⟨r1, .inr h⟩ te
        · exact h
      have l2 : (paxs d.recs).length ≤ 8192 := by
        rcases Nat.lt_or_ge 8192 (paxs d.recs).length with h | h
        · exact absurd ⟨r2, .inr h⟩ td
        · exact h
      exact paxAll_inj (k61 e) (k61 d) l1 l2 h1
end Go.Proofs.YtdapbkdfanlkkaaDoor
