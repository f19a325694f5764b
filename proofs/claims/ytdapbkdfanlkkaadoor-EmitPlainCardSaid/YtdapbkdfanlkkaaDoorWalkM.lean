/- The law of checks. -/
import Derived.Test.YtdapbkdfanlkkaaDoorWalkL
set_option maxRecDepth 10000
set_option linter.unusedVariables false
set_option linter.unusedSimpArgs false
namespace Go.Proofs.YtdapbkdfanlkkaaDoor
open Go Go.Pan Go.RowKit

theorem emit_EntryOk (e : Ent) (hok : e.ok) (hnt : ¬ toolong e.recs) (hsm : e.small) (hr : e.inr) (w0 : World) (hs : Hs) (ht : HasT hs) :
    CallsF Tryd.prog 8 [e.val] w0 hs (NewS (fun r => .tuple #[r, .int .i64 0]) 5 1 (enc8 e.bytes) hs) :=
  (emit_Entry e hsm hr w0 hs ht).mono fun v hs' h => by
    rcases h with ⟨_, _, h⟩ | ⟨_, h, _⟩ | ⟨h, _⟩
    · exact h
    · exact absurd h hnt
    · exact absurd hok h
theorem ent1_ok : ent1.ok := of_decide_eq_true (by kernel_rfl)
theorem ent2_ok : ent2.ok := of_decide_eq_true (by kernel_rfl)
theorem ent1_nt : ¬ toolong ent1.recs := by rw [ent1_recs]; exact fun h => h.1 rfl
theorem ent2_nt : ¬ toolong ent2.recs := by
  have h1 := ent2_paxs
  rintro ⟨_, h⟩
  rcases h with h | h
  · rw [ent2_recs] at h
    have : [(kPath, longp)].all rshort = true := by kernel_rfl
    rw [this] at h; cases h
  · omega
theorem law_writes (w0 : World) (hs : Hs) (ht : HasT hs) : CallsF Tryd.prog 6 [] w0 hs (Same (.bool true) hs) := by
  have b1 := ent1_bytes
  have b2 := ent2_bytes
  refine CallsF.enter [] rfl Tryd.func6 rfl rfl rfl rfl ?_
  (repeat refine WC.seq ?_); refine WC.region ?_
  refine WL.pures rfl rfl rfl rfl rfl ?_
  refine WL.goes (fun _ _ => rfl) ?_
  (repeat refine WC.seq ?_); refine WC.region ?_
  refine WL.build' (cells := ent1.cells) rfl rfl rfl (by kernel_rfl) rfl rfl ?_
  refine WL.callNS' rfl rfl cf8 (emit_EntryOk ent1 ent1_ok ent1_nt (by unfold Ent.small; decide) (by unfold Ent.inr; decide) _ _ ht) rfl rfl (fun A n cap o hown hn hcap => ?_); rw [enc8_length, b1, Nat.mul_one] at hn; subst hn
  refine WL.pures rfl rfl rfl rfl rfl ?_
  refine WL.goes (fun _ _ => rfl) ?_
  (repeat refine WC.seq ?_); refine WC.region ?_
  refine WL.callS' rfl rfl cf12 (law_long _ _) rfl rfl ?_
  refine WL.build' (cells := ent2.cells) rfl rfl rfl (by kernel_rfl) rfl rfl ?_
  refine WL.callNS' rfl rfl cf8 (emit_EntryOk ent2 ent2_ok ent2_nt ⟨Nat.le_of_ble_eq_true (by kernel_rfl), by decide, by decide, by decide⟩ (by unfold Ent.inr; decide) _ _ (ht.right _)) rfl rfl (fun A2 n2 cap2 o2 hown2 hn2 hcap2 => ?_); rw [enc8_length, b2, Nat.mul_one] at hn2; subst hn2
  refine WL.pures rfl rfl rfl rfl rfl ?_
  refine WL.goes (fun _ _ => rfl) ?_
  (repeat refine WC.seq ?_); refine WC.region ?_
  refine WL.pures rfl rfl rfl rfl rfl ?_
  refine WL.arith' rfl rfl (binV_i64 rfl (by decide)) rfl rfl ?_
  refine WL.pures rfl rfl rfl rfl rfl ?_
  refine WL.lenl' rfl rfl rfl rfl rfl rfl ?_
  refine WL.pures rfl rfl rfl rfl rfl ?_
  refine WL.lenl' rfl rfl rfl rfl rfl rfl ?_
  refine WL.pures rfl rfl rfl rfl rfl ?_
  refine WL.callN' rfl rfl cf13 (emit_Fill 5 (by decide) _ _) rfl rfl (fun bf => ?_)
  refine WL.lenl' rfl rfl rfl rfl rfl rfl ?_
  refine WL.pures rfl rfl rfl rfl rfl ?_
  refine WL.callN' rfl rfl cf14 (emit_End _ _) rfl rfl (fun be => ?_)
  refine WL.lenl' rfl rfl rfl rfl rfl rfl ?_
  refine WL.pures rfl rfl rfl rfl rfl ?_
  refine WL.goes (fun _ _ => rfl) ?_
  exact WC.doneS (fun _ _ => rfl) rfl (.skip (.skip (.skipR (.skipR (.refl _))))) ⟨rfl, rfl⟩
/-- Is there a byte 0 among the first so many? -/
def nz0 (s : ByteArray) (n : Nat) : Bool := (s.data.toList.take n).any (· == 0)
theorem nz0_full (s : ByteArray) : nz0 s s.size = nul s := by
  have h : s.data.toList.take s.size = s.data.toList := List.take_of_length_le (by rw [Array.length_toList]; exact Nat.le_refl _)
  unfold nz0
  rw [h, Bool.eq_iff_iff, nul_iff, List.any_eq_true]
  exact ⟨fun ⟨x, hx, h0⟩ => by rw [beq_iff_eq] at h0; exact h0 ▸ hx, fun hx => ⟨0, hx, rfl⟩⟩
theorem nz0_succ {s : ByteArray} {i : Nat} {c : UInt8} (h : s[i]? = some c) : nz0 s (i + 1) = (nz0 s i || decide ((c.toNat : Int) = 0)) := by
  have h1 : s.data.toList[i]? = some c := by rw [← h]; simp [getElem?_def, ByteArray.getElem_eq_getElem_data]
  obtain ⟨hi, hc⟩ := List.getElem?_eq_some_iff.1 h1
  unfold nz0
  rw [List.take_succ_eq_append_getElem hi, List.any_append, hc]
  simp only [List.any_cons, List.any_nil, Bool.or_false]
  congr 1
  rw [Bool.eq_iff_iff]
  simp only [beq_iff_eq, decide_eq_true_eq]
  constructor
  · rintro rfl; rfl
  · intro h; exact UInt8.toNat_inj.1 (by simpa using h)
end Go.Proofs.YtdapbkdfanlkkaaDoor
