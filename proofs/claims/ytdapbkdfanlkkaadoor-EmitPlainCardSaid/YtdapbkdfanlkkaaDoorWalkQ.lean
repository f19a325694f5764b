/- The document's sum of a header. -/
import Derived.Test.YtdapbkdfanlkkaaDoorWalkP
set_option maxRecDepth 10000
set_option linter.unusedVariables false
set_option linter.unusedSimpArgs false
namespace Go.Proofs.YtdapbkdfanlkkaaDoor
open Go Go.Pan Go.RowKit

theorem WL.arr0 {P : Program} [T : Tab P] {w0 : World} {N : Nat} {ops : Array Oper} {Q : Exit → Act → World → Prop} {env : Env} {hs : Hs} {o : Oper} {rest : List Oper} {d : Tmp} {t e : TypeId} {n sz : Nat} {z : Value} {q : Bool × Nat} (ho : o.op = .build t #[]) (ht : lk T.T.arr t = some (n, e, sz)) (hz : lk T.T.zro t = some z) (hl : lk T.T.lay e = some q)
    (hg : guardE ops env o = some true) (hdd : o.dst = some d) (hd : Nat.blt d N = true) (k : WL P w0 N ops Q rest ((d, .agg z.cells) :: env) hs) : WL P w0 N ops Q (o :: rest) env hs := by
  refine WL.valP hg (dst_ok hdd hd) (fun a w ha => ?_) (by rw [hdd]; exact k)
  obtain ⟨h1, _⟩ := arr_und (tab_arr ht)
  obtain ⟨_, h2⟩ := lay_inf (tab_lay hl)
  simp [execOp, ho, Instr.build, run_zero hz, run_underlying h1, h2, Instr.fill]
/-- What a byte counts in a header's sum. -/
def eb (i : Nat) (c : UInt8) : Nat := if 148 ≤ i ∧ i < 156 then 32 else c.toNat
theorem eb_lt (i : Nat) (c : UInt8) : eb i c < 256 := by
  unfold eb
  have := c.toNat_lt
  split <;> omega
def cnt : Nat → List UInt8 → Nat → Nat
  | _, [], _ => 0
  | i, c :: l, x => (if eb i c = x then 1 else 0) + cnt (i + 1) l x
theorem cnt_snoc (x : Nat) (c : UInt8) : ∀ (l : List UInt8) (i : Nat), cnt i (l ++ [c]) x = cnt i l x + if eb (i + l.length) c = x then 1 else 0
  | [], i => by simp [cnt]
  | d :: l, i => by
    simp only [List.cons_append, cnt, cnt_snoc x c l (i + 1), List.length_cons]
    rw [show i + 1 + l.length = i + (l.length + 1) by omega]; omega
theorem cnt_le (x : Nat) : ∀ (l : List UInt8) (i : Nat), cnt i l x ≤ l.length
  | [], i => Nat.le_refl _
  | c :: l, i => by
    have := cnt_le x l (i + 1)
    simp only [cnt, List.length_cons]
    split <;> omega
/-- 256 numbers. -/
def c256 (f : Nat → Nat) : Array Value := ((List.range 256).map fun x => Value.int .i64 (f x)).toArray
theorem c256_get (f : Nat → Nat) {i : Nat} (h : i < 256) : (c256 f)[i]? = some (.int .i64 (f i)) := by
  simp [c256, h]
theorem c256_size (f : Nat → Nat) : (c256 f).size = 256 := by simp [c256]
theorem c256_put (f : Nat → Nat) {j : Nat} (h : j < 256) {v : Int} (hv : v = f j + 1) : splice (c256 f) (0 + j * 1) [.int .i64 v] = c256 fun x => f x + if j = x then 1 else 0 := by
  subst hv
  apply Array.ext_getElem?
  intro i
  rw [splice_get _ _ _ (by rw [c256_size]; simp; omega)]
  rcases Nat.lt_or_ge i 256 with hi | hi
  · rw [c256_get _ hi]
    split
    · rename_i hc
      have : i = j := by simp at hc; omega
      subst this
      rw [c256_get _ hi, if_pos rfl]
      simp
    · rename_i hc
      have : ¬ j = i := by simp at hc; omega
      rw [c256_get _ hi, if_neg this]; rfl
  · rw [if_neg (by simp; omega)]
    simp [c256, hi]
theorem c256_one (f : Nat → Nat) : ∀ u ∈ (Value.agg (c256 f)).cells.toList, u.oneCell' = true := fun u hu => by
  have hu : u ∈ (List.range 256).map fun x => Value.int .i64 (f x) := hu
  obtain ⟨x, _, rfl⟩ := List.mem_map.1 hu
  rfl
theorem splice_all (c : Array Value) (l : List Value) (h : l.length = c.size) : splice c 0 l = l.toArray := by
  apply Array.ext_getElem?
  intro i
  rw [splice_get _ _ _ (by omega)]
  rcases Nat.lt_or_ge i l.length with hi | hi
  · rw [if_pos (by omega)]; simp
  · rw [if_neg (by omega)]; simp [hi, h ▸ hi]
theorem ref_counts (s : ByteArray) (hsz : s.size = 512) (w0 : World) (hs : Hs) : CallsF Tryd.prog 45 [.string s] w0 hs (Same (.agg (c256 (cnt 0 s.data.toList))) hs) := by
  have hlen : s.data.toList.length = 512 := by rw [size_list, hsz]
  refine CallsF.enter [(0, _)] rfl Tryd.func45 rfl rfl rfl rfl ?_
  (repeat refine WC.seq ?_); refine WC.region ?_
  refine WL.alloc' rfl rfl rfl (fun b2 => ?_)
  refine WL.goes (fun _ _ => rfl) ?_
  (repeat refine WC.seq ?_); refine WC.region ?_
  refine WL.arr0 rfl rfl rfl rfl rfl rfl rfl ?_
  refine WL.alloc' rfl rfl rfl (fun b3 => ?_)
  refine WL.store' rfl rfl rfl rfl (List.all_eq_true.1 (by kernel_rfl)) .head (Nat.le_of_ble_eq_true (by kernel_rfl)) rfl rfl ?_
  refine WL.goes (fun _ _ => rfl) ?_
  rw [show splice (Value.agg (List.replicate 256 (Value.int .i64 0)).toArray).cells 0 (Value.agg (Value.agg (List.replicate 256 (Value.int .i64 0)).toArray).cells).cells.toList = c256 (cnt 0 (s.data.toList.take 0)) by kernel_rfl]
  (repeat refine WC.seq ?_); refine WC.region ?_
  refine WL.pures rfl rfl rfl rfl rfl ?_
  refine WL.goes (fun _ _ => rfl) ?_
  (repeat refine WC.seq ?_); refine WC.block ?_
  refine WC.loopS (σ := Nat) (fun i => [(0, .string s), (2, .pointer (some ⟨b2, 0, none⟩)), (3, .pointer (some ⟨b3, 0, none⟩)), (4, .int .i64 i)]) (fun i => (b3, .cells (c256 (cnt 0 (s.data.toList.take i))) 95 (0, 0)) :: (b2, .cells (List.replicate 256 (Value.int .i64 0)).toArray 95 (0, 0)) :: hs) (fun i => i ≤ 512) (fun i => 512 - i) 0 ⟨rfl, rfl, rfl, rfl, trivial⟩ (HDrop.sub (.keep1 rfl (.keep1 (by kernel_rfl) (.refl _)))) (Nat.zero_le _) ?_
  intro i hi
  (repeat refine WC.seq ?_); refine WC.region ?_
  refine WL.pures rfl rfl rfl rfl rfl ?_
  refine WL.lens' rfl rfl rfl rfl rfl rfl ?_
  refine WL.pures rfl rfl rfl rfl rfl ?_
  refine WL.goes (fun _ _ => rfl) ?_
  (repeat refine WC.seq ?_); refine WC.ite rfl (fun c => ?_) (fun c => ?_)
  · have hil : i < s.size := by omega
    have hch : s[i]? = some (s[i]'hil) := by simp [hil]
    have hch' := list_at hch
    obtain ⟨hi', hc'⟩ := List.getElem?_eq_some_iff.1 hch'
    have hnext : ∀ x, cnt 0 (s.data.toList.take (i + 1)) x = cnt 0 (s.data.toList.take i) x + if eb i (s[i]'hil) = x then 1 else 0 := fun x => by
      rw [List.take_succ_eq_append_getElem hi', hc', cnt_snoc]
      rw [show 0 + (s.data.toList.take i).length = i by simp; omega]
    have hle := fun x => Nat.le_trans (cnt_le x (s.data.toList.take i) 0) (show (s.data.toList.take i).length ≤ 512 by simp; omega)
    generalize s[i]'hil = ch at hch hch' hc' hnext
    have hb := ch.toNat_lt
    refine WC.goes (fun _ _ => rfl) ?_
    (repeat refine WC.seq ?_); refine WC.block ?_
    by_cases h148 : 148 ≤ i
    · by_cases h156 : i < 156
      · have heb : eb i ch = 32 := by unfold eb; rw [if_pos ⟨h148, h156⟩]
        have hfin : (c256 fun x => cnt 0 (s.data.toList.take i) x + if 32 = x then 1 else 0) = c256 (cnt 0 (s.data.toList.take (i + 1))) := by
          congr 1; funext x; rw [hnext, heb]
        have h32 := hle 32
        (repeat refine WC.seq ?_); refine WC.region ?_
        refine WL.pure rfl rfl rfl rfl ?_
        refine WL.pure rfl rfl rfl rfl ?_
        refine WL.pure rfl rfl rfl rfl ?_
        refine WL.splitP rfl rfl rfl (fun h => ?_) (fun h => absurd h (by omega)); refine WL.pure rfl rfl rfl rfl ?_
        refine WL.pure rfl rfl rfl rfl ?_
        refine WL.pures rfl rfl rfl rfl rfl ?_
        refine WL.goes (fun _ _ => rfl) ?_
        (repeat refine WC.seq ?_); refine WC.ite rfl (fun c2 => ?_) (fun c2 => absurd c2 (by omega))
        (repeat refine WC.seq ?_); refine WC.region ?_
        refine WL.indexArr' rfl rfl rfl (by decide) (by decide) rfl rfl ?_
        refine WL.load' (v := .int .i64 (cnt 0 (s.data.toList.take i) 32)) rfl rfl (.head (c256_get _ (i := 32) (by decide))) rfl rfl ?_
        refine WL.arith' rfl rfl (binV_i64 rfl (by omega)) rfl rfl ?_
        refine WL.indexArr' rfl rfl rfl (by decide) (by decide) rfl rfl ?_
        refine WL.store' rfl rfl rfl rfl (List.all_eq_true.1 rfl) .head (by rw [c256_size]; decide) rfl rfl ?_; refine WL.hsub (hs' := (b3, .cells (c256 (cnt 0 (s.data.toList.take (i + 1)))) 95 (0, 0)) :: (b2, .cells (List.replicate 256 (Value.int .i64 0)).toArray 95 (0, 0)) :: hs) ?_ (HDrop.sub (.keep1 (congrArg (fun c => Obj.cells c 95 (0, 0)) ((c256_put (cnt 0 (s.data.toList.take i)) (j := 32) (by decide) rfl).trans hfin)) (.refl _)))
        refine WL.goes (fun _ _ => rfl) ?_
        (repeat refine WC.seq ?_); refine WC.region ?_
        refine WL.pures rfl rfl rfl rfl rfl ?_
        refine WL.arith' rfl rfl (binV_i64 rfl (by omega)) rfl rfl ?_
        refine WL.pures rfl rfl rfl rfl rfl ?_
        refine WL.again (i + 1) (fun _ _ => rfl) ⟨rfl, rfl, rfl, rfl, trivial⟩ (.refl _) (by omega) (by omega)
      · have heb : eb i ch = ch.toNat := by unfold eb; rw [if_neg (by omega)]
        have hfin : (c256 fun x => cnt 0 (s.data.toList.take i) x + if ch.toNat = x then 1 else 0) = c256 (cnt 0 (s.data.toList.take (i + 1))) := by
          congr 1; funext x; rw [hnext, heb]
        have hch0 := hle ch.toNat
        (repeat refine WC.seq ?_); refine WC.region ?_
        refine WL.pure rfl rfl rfl rfl ?_
        refine WL.pure rfl rfl rfl rfl ?_
        refine WL.pure rfl rfl rfl rfl ?_
        refine WL.splitP rfl rfl rfl (fun h => ?_) (fun h => absurd h (by omega)); refine WL.pure rfl rfl rfl rfl ?_
        refine WL.pure rfl rfl rfl rfl ?_
        refine WL.pures rfl rfl rfl rfl rfl ?_
        refine WL.goes (fun _ _ => rfl) ?_
        (repeat refine WC.seq ?_); refine WC.ite rfl (fun c2 => absurd c2 (by omega)) (fun c2 => ?_)
        (repeat refine WC.seq ?_); refine WC.region ?_
        refine WL.pures rfl rfl rfl rfl rfl ?_
        refine WL.char' rfl rfl rfl (by omega) hch rfl rfl ?_
        refine WL.conv' rfl rfl rfl (IntWalk.i64_in _ (by omega)) rfl rfl ?_
        refine WL.indexArr' rfl rfl rfl (by omega) (by omega) rfl rfl ?_; rw [Int.toNat_natCast]
        refine WL.load' (v := .int .i64 (cnt 0 (s.data.toList.take i) ch.toNat)) rfl rfl (.head (by rw [show 0 + ch.toNat * 1 = ch.toNat by omega]; exact c256_get _ (by omega))) rfl rfl ?_
        refine WL.arith' rfl rfl (binV_i64 rfl (by omega)) rfl rfl ?_
        refine WL.indexArr' rfl rfl rfl (by omega) (by omega) rfl rfl ?_; rw [Int.toNat_natCast]
        refine WL.store' rfl rfl rfl rfl (List.all_eq_true.1 rfl) .head (by rw [c256_size]; omega) rfl rfl ?_; refine WL.hsub (hs' := (b3, .cells (c256 (cnt 0 (s.data.toList.take (i + 1)))) 95 (0, 0)) :: (b2, .cells (List.replicate 256 (Value.int .i64 0)).toArray 95 (0, 0)) :: hs) ?_ (HDrop.sub (.keep1 (congrArg (fun c => Obj.cells c 95 (0, 0)) ((c256_put (cnt 0 (s.data.toList.take i)) (j := ch.toNat) (by omega) rfl).trans hfin)) (.refl _)))
        refine WL.goes (fun _ _ => rfl) ?_
        (repeat refine WC.seq ?_); refine WC.region ?_
        refine WL.pures rfl rfl rfl rfl rfl ?_
        refine WL.arith' rfl rfl (binV_i64 rfl (by omega)) rfl rfl ?_
        refine WL.pures rfl rfl rfl rfl rfl ?_
        refine WL.again (i + 1) (fun _ _ => rfl) ⟨rfl, rfl, rfl, rfl, trivial⟩ (.refl _) (by omega) (by omega)
    · have heb : eb i ch = ch.toNat := by unfold eb; rw [if_neg (by omega)]
      have hfin : (c256 fun x => cnt 0 (s.data.toList.take i) x + if ch.toNat = x then 1 else 0) = c256 (cnt 0 (s.data.toList.take (i + 1))) := by
        congr 1; funext x; rw [hnext, heb]
      have hch0 := hle ch.toNat
      (repeat refine WC.seq ?_); refine WC.region ?_
      refine WL.pure rfl rfl rfl rfl ?_
      refine WL.pure rfl rfl rfl rfl ?_
      refine WL.pure rfl rfl rfl rfl ?_
      refine WL.splitP rfl rfl rfl (fun h => absurd h (by omega)) (fun h => ?_); refine WL.pass rfl rfl ?_
      refine WL.pass rfl rfl ?_
      refine WL.pures rfl rfl rfl rfl rfl ?_
      refine WL.goes (fun _ _ => rfl) ?_
      (repeat refine WC.seq ?_); refine WC.no rfl ?_
      (repeat refine WC.seq ?_); refine WC.region ?_
      refine WL.pures rfl rfl rfl rfl rfl ?_
      refine WL.char' rfl rfl rfl (by omega) hch rfl rfl ?_
      refine WL.conv' rfl rfl rfl (IntWalk.i64_in _ (by omega)) rfl rfl ?_
      refine WL.indexArr' rfl rfl rfl (by omega) (by omega) rfl rfl ?_; rw [Int.toNat_natCast]
      refine WL.load' (v := .int .i64 (cnt 0 (s.data.toList.take i) ch.toNat)) rfl rfl (.head (by rw [show 0 + ch.toNat * 1 = ch.toNat by omega]; exact c256_get _ (by omega))) rfl rfl ?_
      refine WL.arith' rfl rfl (binV_i64 rfl (by omega)) rfl rfl ?_
      refine WL.indexArr' rfl rfl rfl (by omega) (by omega) rfl rfl ?_; rw [Int.toNat_natCast]
      refine WL.store' rfl rfl rfl rfl (List.all_eq_true.1 rfl) .head (by rw [c256_size]; omega) rfl rfl ?_; refine WL.hsub (hs' := (b3, .cells (c256 (cnt 0 (s.data.toList.take (i + 1)))) 95 (0, 0)) :: (b2, .cells (List.replicate 256 (Value.int .i64 0)).toArray 95 (0, 0)) :: hs) ?_ (HDrop.sub (.keep1 (congrArg (fun c => Obj.cells c 95 (0, 0)) ((c256_put (cnt 0 (s.data.toList.take i)) (j := ch.toNat) (by omega) rfl).trans hfin)) (.refl _)))
      refine WL.goes (fun _ _ => rfl) ?_
      (repeat refine WC.seq ?_); refine WC.region ?_
      refine WL.pures rfl rfl rfl rfl rfl ?_
      refine WL.arith' rfl rfl (binV_i64 rfl (by omega)) rfl rfl ?_
      refine WL.pures rfl rfl rfl rfl rfl ?_
      refine WL.again (i + 1) (fun _ _ => rfl) ⟨rfl, rfl, rfl, rfl, trivial⟩ (.refl _) (by omega) (by omega)
  · obtain rfl : i = 512 := by omega
    refine WC.exits (fun _ _ => rfl) ?_
    rw [show s.data.toList.take 512 = s.data.toList from List.take_of_length_le (by omega)]
    (repeat refine WC.seq ?_); refine WC.region ?_
    refine WL.loadAll' rfl rfl (.head (c256_size _)) rfl rfl ?_
    refine WL.store' rfl rfl rfl (c256_size _) (c256_one _) (.tail .head) (Nat.le_of_ble_eq_true (by kernel_rfl)) rfl rfl ?_
    refine WL.goes (fun _ _ => rfl) ?_
    refine WC.hsub (hs' := (b3, .cells (c256 (cnt 0 s.data.toList)) 95 (0, 0)) :: (b2, .cells (c256 (cnt 0 s.data.toList)) 95 (0, 0)) :: hs) ?_ (HDrop.sub (.keep (.keep1 (congrArg (fun c => Obj.cells c 95 (0, 0)) (splice_all _ (c256 (cnt 0 s.data.toList)).toList (by simp [c256]))) (.refl _))))
    exact WC.doneC (fun _ _ => rfl) (.cell rfl rfl (AllAt.tail (AllAt.head (c256_size _))).ld .nil) (.skip (.skip (.refl _))) ⟨rfl, rfl⟩
/-- The sum of so many numbers, each as often as it comes. -/
def wsum (f : Nat → Nat) : Nat → Nat
  | 0 => 0
  | n + 1 => wsum f n + n * f n
theorem wsum_add (g : Nat → Nat) (e : Nat) : ∀ n, wsum (fun x => (if e = x then 1 else 0) + g x) n = (if e < n then e else 0) + wsum g n
  | 0 => rfl
  | n + 1 => by
    simp only [wsum, wsum_add g e n, Nat.mul_add]
    rcases Nat.lt_trichotomy e n with h | h | h
    · rw [if_pos h, if_neg (by omega), if_pos (by omega)]; omega
    · subst h; rw [if_neg (by omega), if_pos rfl, if_pos (by omega)]; omega
    · rw [if_neg (by omega), if_neg (by omega), if_neg (by omega)]; omega
theorem wsum_cnt : ∀ (l : List UInt8) (i : Nat), wsum (cnt i l) 256 = sum8 i l
  | [], i => by
    have : ∀ n, wsum (cnt i []) n = 0 := fun n => by
      induction n with
      | zero => rfl
      | succ n ih => show wsum (cnt i []) n + n * 0 = 0; rw [ih]; rfl
    rw [this]; rfl
  | c :: l, i => by
    show wsum (fun x => (if eb i c = x then 1 else 0) + cnt (i + 1) l x) 256 = _
    rw [wsum_add, if_pos (eb_lt i c), wsum_cnt l (i + 1)]
    rfl
theorem wsum_le {f : Nat → Nat} (h : ∀ x, f x ≤ 512) : ∀ n, n ≤ 256 → wsum f n ≤ 131072 * n
  | 0, _ => Nat.le_refl _
  | n + 1, hn => by
    have h1 := wsum_le h n (by omega)
    have h2 : n * f n ≤ 256 * 512 := Nat.mul_le_mul (by omega) (h n)
    simp only [wsum]
    omega
theorem ref_Plain (s : ByteArray) (hsz : s.size = 512) (w0 : World) (hs : Hs) : CallsF Tryd.prog 35 [.string s] w0 hs (Same (.int .i64 (sum8 0 s.data.toList)) hs) := by
  have hlen : s.data.toList.length = 512 := by rw [size_list, hsz]
  have hle : ∀ x, cnt 0 s.data.toList x ≤ 512 := fun x => hlen ▸ cnt_le x s.data.toList 0
  have hsum := wsum_cnt s.data.toList 0
  have hcall := ref_counts s hsz w0
  generalize cnt 0 s.data.toList = f at hle hsum hcall
  refine CallsF.enter [(0, _)] rfl Tryd.func35 rfl rfl rfl rfl ?_
  (repeat refine WC.seq ?_); refine WC.region ?_
  refine WL.pures rfl rfl rfl rfl rfl ?_
  refine WL.goes (fun _ _ => rfl) ?_
  (repeat refine WC.seq ?_); refine WC.region ?_
  refine WL.pures rfl rfl rfl rfl rfl ?_
  refine WL.callS' rfl rfl cf45 (hcall _) rfl rfl ?_
  refine WL.alloc' rfl rfl rfl (fun b3 => ?_)
  refine WL.store' rfl rfl rfl (c256_size _) (c256_one _) .head (Nat.le_of_ble_eq_true (by kernel_rfl)) rfl rfl ?_
  refine WL.goes (fun _ _ => rfl) ?_
  refine WC.hsub (hs' := (b3, .cells (c256 f) 95 (0, 0)) :: hs) ?_ (HDrop.sub (.keep1 (congrArg (fun c => Obj.cells c 95 (0, 0)) (splice_all _ (c256 f).toList (by rw [Array.length_toList, c256_size]; kernel_rfl))) (.refl _)))
  (repeat refine WC.seq ?_); refine WC.region ?_
  refine WL.pures rfl rfl rfl rfl rfl ?_
  refine WL.goes (fun _ _ => rfl) ?_
  (repeat refine WC.seq ?_); refine WC.region ?_
  refine WL.pures rfl rfl rfl rfl rfl ?_
  refine WL.goes (fun _ _ => rfl) ?_
  (repeat refine WC.seq ?_); refine WC.block ?_
  refine WC.loopS (σ := Nat) (fun x => [(3, .pointer (some ⟨b3, 0, none⟩)), (4, .int .i64 (wsum f x)), (5, .int .i64 x)]) (fun _ => (b3, .cells (c256 f) 95 (0, 0)) :: hs) (fun x => x ≤ 256) (fun x => 256 - x) 0 ⟨rfl, rfl, rfl, trivial⟩ (.refl _) (by decide) ?_
  intro x hx
  have hw := wsum_le hle x hx
  (repeat refine WC.seq ?_); refine WC.region ?_
  refine WL.pures rfl rfl rfl rfl rfl ?_
  refine WL.goes (fun _ _ => rfl) ?_
  (repeat refine WC.seq ?_); refine WC.ite rfl (fun c => ?_) (fun c => ?_)
  · have hlt : x < 256 := by omega
    have hm : x * f x ≤ 131072 := Nat.le_trans (Nat.mul_le_mul (show x ≤ 256 by omega) (hle x)) (by decide)
    refine WC.goes (fun _ _ => rfl) ?_
    (repeat refine WC.seq ?_); refine WC.block ?_
    (repeat refine WC.seq ?_); refine WC.region ?_
    refine WL.pures rfl rfl rfl rfl rfl ?_
    refine WL.indexArr' rfl rfl rfl (by omega) (by omega) rfl rfl ?_; rw [Int.toNat_natCast]
    refine WL.load' (v := .int .i64 (f x)) rfl rfl (.head (by rw [show 0 + x * 1 = x by omega]; exact c256_get _ hlt)) rfl rfl ?_
    refine WL.arith' (r := ((x * f x : Nat) : Int)) rfl rfl (by show some (IntKind.i64.wrap ((x : Int) * (f x : Int))) = _; rw [← Int.natCast_mul, IntWalk.i64_in _ (by omega)]) rfl rfl ?_
    refine WL.arith' (r := ((wsum f (x + 1) : Nat) : Int)) rfl rfl (by show some (IntKind.i64.wrap ((wsum f x : Int) + ((x * f x : Nat) : Int))) = _; rw [← Int.natCast_add, IntWalk.i64_in _ (by omega)]; rfl) rfl rfl ?_
    refine WL.pures rfl rfl rfl rfl rfl ?_
    refine WL.goes (fun _ _ => rfl) ?_
    (repeat refine WC.seq ?_); refine WC.region ?_
    refine WL.pures rfl rfl rfl rfl rfl ?_
    refine WL.arith' rfl rfl (binV_i64 rfl (by omega)) rfl rfl ?_
    refine WL.pures rfl rfl rfl rfl rfl ?_
    refine WL.again (x + 1) (fun _ _ => rfl) ⟨rfl, rfl, rfl, trivial⟩ (.refl _) hlt (by omega)
  · obtain rfl : x = 256 := by omega
    refine WC.exits (fun _ _ => rfl) ?_
    (repeat refine WC.seq ?_); refine WC.region ?_
    refine WL.pures rfl rfl rfl rfl rfl ?_
    refine WL.goes (fun _ _ => rfl) ?_
    refine WC.doneS (fun _ _ => rfl) rfl (.skip (.refl _)) ⟨?_, rfl⟩
    rw [hsum]; rfl
theorem ref_Right (s : ByteArray) (hsz : s.size = 512) (hp : numf (s.extract 148 156) (sum8 0 s.data.toList) 6) (w0 : World) (hs : Hs) : CallsF Tryd.prog 19 [.string s] w0 hs (Same (.bool true) hs) := by
  refine CallsF.enter [(0, _)] rfl Tryd.func19 rfl rfl rfl rfl ?_
  (repeat refine WC.seq ?_); refine WC.region ?_
  refine WL.pures rfl rfl rfl rfl rfl ?_
  refine WL.goes (fun _ _ => rfl) ?_
  (repeat refine WC.seq ?_); refine WC.region ?_
  refine WL.pures rfl rfl rfl rfl rfl ?_
  refine WL.lens' rfl rfl rfl rfl rfl rfl ?_
  refine WL.pures rfl rfl rfl rfl rfl ?_
  refine WL.goes (fun _ _ => rfl) ?_
  (repeat refine WC.seq ?_); refine WC.ite rfl (fun c => ?_) (fun c => ?_)
  · exfalso; omega
  refine WC.goes (fun _ _ => rfl) ?_
  (repeat refine WC.seq ?_); refine WC.region ?_
  refine WL.pures rfl rfl rfl rfl rfl ?_
  refine WL.cutS' (l := 148) (h := 156) rfl rfl rfl rfl (by decide) (by decide) (by omega) rfl rfl ?_
  refine WL.callS' rfl rfl cf20 (ref_Parse _ _ _ hp _ _) rfl rfl ?_
  refine WL.pures rfl rfl rfl rfl rfl ?_
  refine WL.goes (fun _ _ => rfl) ?_
  (repeat refine WC.seq ?_); refine WC.region ?_
  refine WL.pures rfl rfl rfl rfl rfl ?_
  refine WL.callS' rfl rfl cf35 (ref_Plain s hsz _ _) rfl rfl ?_
  refine WL.pure rfl rfl rfl rfl ?_; rw [show decide ((sum8 0 s.data.toList : Int) = (sum8 0 s.data.toList : Int)) = true from decide_eq_true rfl]
  refine WL.pure rfl rfl rfl rfl ?_
  refine WL.pass rfl rfl ?_
  refine WL.pass rfl rfl ?_
  refine WL.pass rfl rfl ?_
  refine WL.pass rfl rfl ?_
  refine WL.pures rfl rfl rfl rfl rfl ?_
  refine WL.goes (fun _ _ => rfl) ?_
  exact WC.doneS (fun _ _ => rfl) rfl (.refl _) ⟨rfl, rfl⟩
end Go.Proofs.YtdapbkdfanlkkaaDoor
