/- What CrcApart calls: the copy with room behind it, Forge and Burst, each answer new memory. -/
import Derived.Test.YtcfnpippmdijaaaPApartx1
import Derived.Test.YtcfnpippmdijaaaForge
import Derived.Test.YtcfnpippmdijaaaBurst
import Derived.Test.YtcfnpippmdijaaaDig
import Derived.Test.YtcfnpippmdijaaaAssoc
namespace Go.Proofs.Ytcfnpippmdijaaa.Apart
open Go.RowKit Go.Proofs.YtcfnpippmdijaaaW.PrintWords Go.Proofs.YtcfnpippmdijaaaW.PrintLast Go.Proofs.YtcfnpippmdijaaaW.PrintMore Go.Proofs.Ytcfnpippmdijaaa.Bridge Go.Proofs.Ytcfnpippmdijaaa.Mem Go.Proofs.Ytcfnpippmdijaaa.Dig Go.Proofs.Ytcfnpippmdijaaa.PApart Go.Proofs.Ytcfnpippmdijaaa.PAll Go.Proofs.Ytcfnpippmdijaaa.PMore CrcM
set_option linter.unusedVariables false
set_option linter.unusedSimpArgs false
def room : List UInt8 := List.replicate 8 165
theorem room_step (a : List UInt8) (b c : UInt8) (m i : Nat) (h : a.length = i) : (a ++ List.replicate (m + 1) b).set i c = (a ++ [c]) ++ List.replicate m b := by
  subst h
  simp [List.replicate_succ, List.set_append]
theorem roomy_tail (a : List UInt8) (hl : a.length ≤ 140737488351240) : ∀ (m j : Nat), j + m = 8 →
    Ev (fun k => amberlaw01_roomy.l1 k (bl ((a ++ List.replicate j 165) ++ List.replicate m 0)) ((a.length + j : Nat) : Int)) (bl (a ++ room)) := by
  intro m
  induction m with
  | zero =>
    intro j hj
    have : j = 8 := by omega
    subst this
    refine Ev.step (f := fun _ => some _) (fun k => ?_) (Ev.now _)
    simp only [amberlaw01_roomy.l1]
    rw [if_neg (by rw [bl_length]; simp)]
    simp [room]
  | succ m ih =>
    intro j hj
    refine Ev.step (fun k => ?_) (ih (j + 1) (by omega))
    simp only [amberlaw01_roomy.l1]
    have e : wrap64 (((a.length + j : Nat) : Int) + 1) = ((a.length + (j + 1) : Nat) : Int) := by unfold wrap64; omega
    rw [if_pos (by rw [bl_length]; simp; omega), if_pos (by omega), e, Int.toNat_natCast]
    have e2 := set_bl ((a ++ List.replicate j 165) ++ List.replicate (m + 1) 0) (a.length + j) 165
    rw [room_step _ 0 165 m (a.length + j) (by simp)] at e2
    have e3 : ((165 : UInt8).toNat : Int) = 165 := by decide
    rw [e3] at e2
    rw [e2]
    congr 2
    rw [List.replicate_succ', List.append_assoc a]
theorem roomy_body (l : List UInt8) (hl : l.length ≤ 140737488351232) : ∀ (m i : Nat), i + m = l.length →
    Ev (fun k => amberlaw01_roomy.l0 k (bl l) (bl (l.take i ++ List.replicate (m + 8) 0)) (i : Int)) (bl (l ++ room)) := by
  intro m
  induction m with
  | zero =>
    intro i hi
    have : i = l.length := by omega
    subst this
    refine Ev.step (fun k => ?_) (roomy_tail l (by omega) 8 0 rfl)
    simp only [amberlaw01_roomy.l0]
    rw [if_neg (by rw [bl_length]; omega)]
    simp [bl_length]
  | succ m ih =>
    intro i hi
    refine Ev.step (fun k => ?_) (ih (i + 1) (by omega))
    simp only [amberlaw01_roomy.l0]
    have e : wrap64 ((i : Int) + 1) = ((i + 1 : Nat) : Int) := by unfold wrap64; omega
    rw [if_pos (by rw [bl_length]; omega), if_pos (by omega), if_pos (by rw [bl_length]; simp; omega), e, Int.toNat_natCast, rd_bl l i (by omega), set_bl, show m + 1 + 8 = (m + 8) + 1 by omega,
      room_step _ 0 _ (m + 8) i (by simp; omega), List.take_succ_eq_append_getElem (by omega)]
theorem roomy_ev (l : List UInt8) (hl : l.length ≤ 140737488351232) : Ev (fun k => amberlaw01_roomy.f k (bl l)) (bl (l ++ room)) := by
  refine Ev.congr (fun k => ?_) (roomy_body l hl l.length 0 (by omega))
  unfold amberlaw01_roomy.f
  have e : wrap64 (((bl l).length : Int) + 8) = ((l.length + 8 : Nat) : Int) := by rw [bl_length]; unfold wrap64; omega
  rw [e, if_pos (by omega), if_pos (by omega), Int.toNat_natCast, List.take_zero, List.nil_append]
  congr 1
  simp [bl]
theorem roomy_calls (A : Option Addr) (c : Nat) (l : List UInt8) (w : World) (hr : Kd.C (Kd.int .u8) w A (bl l).length (bl l)) (hc : (bl l).length ≤ c) (hl : l.length ≤ 140737488351232) :
    Calls Try.prog 34 #[.slice A (bl l).length c] w fun e w' => ∃ v, e = .returned v ∧ Rw w' 5 .u8 v (bl (l ++ room)) ∧ (∀ b, v.ownBlock = some b → w.heap.size ≤ b) ∧ Below w.heap.size w w' := by
  obtain ⟨k, hk⟩ := Ev.rounds (roomy_ev l hl)
  refine (amberlaw01_roomy.calls k A c (bl l) _ w hr hc hk).mono ?_
  rintro e w' ⟨v, rfl, hR, hb⟩
  exact ⟨v, rfl, Rw.of hR, fun b hv => ((Kd.R_bound hR).1 b hv).2.1, hb⟩
theorem forge_calls (A : Option Addr) (c : Nat) (l : List UInt8) (p : Nat) (want : W) (w : World) (hr : Kd.C (Kd.int .u8) w A (bl l).length (bl l)) (hc : (bl l).length ≤ c) (hl : l.length ≤ 140737488351232) (hp : p + 4 ≤ l.length) :
    Calls Try.prog 31 #[.slice A (bl l).length c, .int .i64 p, .int .u32 (ui want)] w fun e w' => ∃ v x, e = .returned (.tuple #[v, .int .i64 0]) ∧ x.length = l.length ∧ Rw w' 5 .u8 v (bl x) ∧ (∀ b, v.ownBlock = some b → w.heap.size ≤ b) ∧ Below w.heap.size w w' := by
  obtain ⟨k, hk⟩ := Ev.rounds (forge_ev l p want hp hl)
  refine (crc_Forge.calls k A c (bl l) _ _ _ _ w hr hc hk).mono ?_
  rintro e w' ⟨v, rfl, hR, hb⟩
  exact ⟨v, _, rfl, by simp [forged, four]; omega, Rw.of hR, fun b hv => ((Kd.R_bound hR).1 b hv).2.1, hb⟩
theorem burst_calls (A : Option Addr) (c : Nat) (l : List UInt8) (p : Nat) (want : W) (w : World) (hr : Kd.C (Kd.int .u8) w A (bl l).length (bl l)) (hc : (bl l).length ≤ c) (hl : l.length ≤ 140737488351232) (hp : p + 4 ≤ l.length) :
    Calls Try.prog 28 #[.slice A (bl l).length c, .int .i64 ((8 * p : Nat) : Int), .int .u32 (ui want)] w fun e w' => ∃ v x, e = .returned (.tuple #[v, .int .i64 0]) ∧ x.length = l.length ∧ Rw w' 5 .u8 v (bl x) ∧ (∀ b, v.ownBlock = some b → w.heap.size ≤ b) ∧ Below w.heap.size w w' := by
  obtain ⟨k, hk⟩ := Ev.rounds (burst_ev l (8 * p) want hl (by omega) (fun j hj => by
    have : j < 32 := by
      by_cases h : j < 32
      · exact h
      · rw [BitVec.getLsbD_of_ge _ _ (by omega)] at hj; cases hj
    omega))
  refine (crc_Burst.calls k A c (bl l) _ _ _ _ w hr hc hk).mono ?_
  rintro e w' ⟨v, rfl, hR, hb⟩
  exact ⟨v, _, rfl, by simp [turn], Rw.of hR, fun b hv => ((Kd.R_bound hR).1 b hv).2.1, hb⟩
end Go.Proofs.Ytcfnpippmdijaaa.Apart
