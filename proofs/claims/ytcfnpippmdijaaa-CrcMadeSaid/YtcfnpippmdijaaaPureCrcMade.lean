/- For every list of bytes, every place and every number: Forge changes its four bytes alone, the sum is the one that was asked, and forging the old sum back gives the bytes back. No condition beside the reach of a slice. -/
import Derived.Test.YtcfnpippmdijaaaPMorex3
import Derived.Test.YtcfnpippmdijaaaForge
namespace Go.Proofs.Ytcfnpippmdijaaa.Pure
open Go.RowKit Go.Proofs.Ytcfnpippmdijaaa.PAll Go.Proofs.Ytcfnpippmdijaaa.PMore Go.Proofs.Ytcfnpippmdijaaa.PGiven Go.Proofs.YtcfnpippmdijaaaW.PrintWords Go.Proofs.YtcfnpippmdijaaaW.PrintLast Go.Proofs.YtcfnpippmdijaaaW.PrintMore Go.Proofs.Ytcfnpippmdijaaa.Bridge CrcM

theorem forged_length (l : List UInt8) (p : Nat) (want : W) (h : p + 4 ≤ l.length) : (forged l p want).length = l.length := by
  unfold forged four; simp; omega
theorem forged_at (l : List UInt8) (p : Nat) (want : W) (h : p + 4 ≤ l.length) (i : Nat) (hi : i < l.length) (ho : i < p ∨ p + 4 ≤ i) : (forged l p want)[i]'(by rw [forged_length l p want h]; exact hi) = l[i] := by
  unfold forged
  have hp : (l.take p).length = p := by rw [List.length_take]; omega
  rcases ho with ho | ho
  · rw [List.getElem_append_left (by simp; omega), List.getElem_append_left (by omega), List.getElem_take]
  · rw [List.getElem_append_right (by simp [four]; omega), List.getElem_drop]
    congr 1
    simp [four]; omega
theorem forged_sum (l : List UInt8) (p : Nat) (want : W) : CrcM.sum (forged l p want) = want := CrcM.made _ _ _
theorem low_of4 (a b c d : UInt8) : ∃ v : W, four v = [a, b, c, d] := by
  refine ⟨bw a ^^^ ((bw b ^^^ ((bw c ^^^ (bw d <<< 8)) <<< 8)) <<< 8), ?_⟩
  have step (x : UInt8) (y : W) (hy : y.toNat < 2 ^ 24) : low (bw x ^^^ (y <<< 8)) = x ∧ (bw x ^^^ (y <<< 8)) >>> 8 = y := by
    have h1 : low (y <<< 8) = 0 := by
      apply UInt8.toNat_inj.1; rw [low_toNat, BitVec.toNat_shiftLeft, Nat.shiftLeft_eq]; show _ = 0; omega
    refine ⟨by rw [low_xor, low_bw, h1]; simp, ?_⟩
    rw [BitVec.ushiftRight_xor_distrib, bw_shr, BitVec.zero_xor]
    apply BitVec.eq_of_toNat_eq
    rw [BitVec.toNat_ushiftRight, BitVec.toNat_shiftLeft, Nat.shiftRight_eq_div_pow, Nat.shiftLeft_eq]
    omega
  have lt (x : UInt8) (y : W) (n : Nat) (h8 : 8 ≤ n) (hn : n ≤ 24) (hy : y.toNat < 2 ^ n) : (bw x ^^^ (y <<< 8)).toNat < 2 ^ (n + 8) := by
    rw [BitVec.toNat_xor]
    refine Nat.xor_lt_two_pow (Nat.lt_of_lt_of_le (bw_lt x) (show 2 ^ 8 ≤ 2 ^ (n + 8) from Nat.pow_le_pow_right (by decide) (by omega))) ?_
    rw [BitVec.toNat_shiftLeft, Nat.shiftLeft_eq, Nat.pow_add]
    exact Nat.lt_of_le_of_lt (Nat.mod_le _ _) (Nat.mul_lt_mul_of_pos_right hy (by decide))
  have hd : (bw d).toNat < 2 ^ 8 := bw_lt d
  have hcd := lt c (bw d) 8 (by omega) (by omega) hd
  have hbcd := lt b _ 16 (by omega) (by omega) hcd
  have e1 := step a _ hbcd
  have e2 := step b _ (Nat.lt_trans hcd (by decide))
  have e3 := step c _ (Nat.lt_trans hd (by decide))
  unfold four
  have s2 (v : W) : v >>> 16 = (v >>> 8) >>> 8 := by rw [← BitVec.shiftRight_add]
  have s3 (v : W) : v >>> 24 = ((v >>> 8) >>> 8) >>> 8 := by rw [← BitVec.shiftRight_add, ← BitVec.shiftRight_add]
  rw [s2, s3, e1.1, e1.2, e2.1, e2.2, e3.1, e3.2, low_bw]
theorem four_there (l : List UInt8) (p : Nat) (h : p + 4 ≤ l.length) : ∃ v : W, l = l.take p ++ four v ++ l.drop (p + 4) := by
  obtain ⟨v, hv⟩ := low_of4 (l[p]'(by omega)) (l[p + 1]'(by omega)) (l[p + 2]'(by omega)) (l[p + 3]'(by omega))
  refine ⟨v, ?_⟩
  rw [hv, List.append_assoc]
  conv => lhs; rw [← List.take_append_drop p l]
  congr 1
  rw [List.drop_eq_getElem_cons (show p < l.length by omega), List.drop_eq_getElem_cons (show p + 1 < l.length by omega), List.drop_eq_getElem_cons (show p + 1 + 1 < l.length by omega), List.drop_eq_getElem_cons (show p + 1 + 1 + 1 < l.length by omega)]
  rfl
theorem forged_back (l : List UInt8) (p : Nat) (want : W) (h : p + 4 ≤ l.length) : forged (forged l p want) p (CrcM.sum l) = l := by
  obtain ⟨v, hv⟩ := four_there l p h
  have hp : (l.take p).length = p := by rw [List.length_take]; omega
  have h4 : (four (chosen (l.take p) (l.drop (p + 4)) want)).length = 4 := rfl
  have e1 : (forged l p want).take p = l.take p := by
    unfold forged
    rw [List.append_assoc, List.take_append_of_le_length (by omega), List.take_of_length_le (by omega)]
  have e2 : (forged l p want).drop (p + 4) = l.drop (p + 4) := by
    unfold forged
    rw [List.drop_append_of_le_length (by rw [List.length_append]; omega), List.drop_eq_nil_of_le (by rw [List.length_append]; omega), List.nil_append]
  have hone := CrcM.made_one (l.take p) (l.drop (p + 4)) v
  rw [← hv] at hone
  show (forged l p want).take p ++ four (chosen ((forged l p want).take p) ((forged l p want).drop (p + 4)) (CrcM.sum l)) ++ (forged l p want).drop (p + 4) = l
  rw [e1, e2, hone]
  exact hv.symm
theorem made_end (l : List UInt8) (p : Nat) (want : W) (h : p + 4 ≤ l.length) (hl : l.length ≤ 140737488351232) (m : Nat) : ∀ i, i + m = l.length →
    Ev (fun k => amberlaw01_CrcMade.l0 k (bl l) (p : Int) (ui want) (bl (forged l p want)) (i : Int)) true := by
  have hfl := forged_length l p want h
  have ep : wrap64 ((p : Int) + 4) = ((p + 4 : Nat) : Int) := by unfold wrap64; omega
  induction m with
  | zero =>
    intro i hi
    refine Ev.step (f := fun k => (crc_Sum.f k (bl (forged l p want))).bind fun t => if t = ui want then ((crc_Sum.f k (bl l)).bind fun s => (crc_Forge.f k (bl (forged l p want)) (p : Int) s).bind fun q => if q.2 = 0 then ((amberlaw01_same.f q.1 (bl l)).bind fun z => some z) else some false) else some false) (fun k => ?_) ?_
    · simp only [amberlaw01_CrcMade.l0]
      rw [if_neg (by rw [bl_length]; omega), copied_eq _ (by rw [bl_length]; omega), copied_eq _ (by rw [bl_length]; omega)]
      simp only [Option.bind_some]
    · refine Ev.bind (sum_ev _ (by rw [hfl]; unfold maxLen; omega)) ?_
      rw [forged_sum]
      simp only [if_true]
      refine Ev.bind (sum_ev l (by unfold maxLen; omega)) ?_
      refine Ev.bind (f := fun _ q => if q.2 = 0 then ((amberlaw01_same.f q.1 (bl l)).bind fun z => some z) else some false) (forge_ev (forged l p want) p _ (by omega) (by omega)) ?_
      rw [forged_back l p want h]
      simp only [if_true, same_self, Option.bind_some]
      exact Ev.now _
  | succ m ih =>
    intro i hi
    refine Ev.step (fun k => ?_) (ih (i + 1) (by omega))
    have e (ho : i < p ∨ p + 4 ≤ i) : rd (bl (forged l p want)) (i : Int) = rd (bl l) (i : Int) := by
      rw [rd_bl _ i (by omega), rd_bl _ i (by omega), forged_at l p want h i (by omega) ho]
    simp only [amberlaw01_CrcMade.l0]
    rw [if_pos (by rw [bl_length]; omega), ep, wrapS i (by omega)]
    by_cases h1 : i < p
    · rw [if_pos (by omega), if_pos (by omega), if_pos (by rw [bl_length]; omega), if_pos (e (.inl h1))]
    · rw [if_neg (by omega)]
      by_cases h2 : p + 4 ≤ i
      · rw [if_pos (by omega), if_pos (by omega), if_pos (by rw [bl_length]; omega), if_pos (e (.inr h2))]
      · rw [if_neg (by omega)]
theorem CrcMade : amberlaw01_CrcMade.Pure := by
  intro l a x hl hs hw ha hx
  obtain ⟨L, rfl⟩ := of_bytes hw
  obtain ⟨M, rfl⟩ := of_u32 hx
  rw [bl_length] at hl hs
  have hl' : L.length ≤ 140737488351232 := by omega
  have ew : wrap64 (((bl L).length : Int) - 4) = (L.length : Int) - 4 := by rw [bl_length]; unfold wrap64; omega
  refine Ev.rounds (g := fun k => amberlaw01_CrcMade.f k (bl L) a (ui M)) ?_
  unfold amberlaw01_CrcMade.f
  refine Ev.bind known_ev ?_
  simp only [if_true]
  by_cases h : a < 0 ∨ a > (L.length : Int) - 4
  · have out : Ev (fun k => amberlaw01_CrcMade.j0 k (bl L) a (ui M) true) true := by
      refine Ev.step (f := fun k => (crc_Forge.f k (bl L) a (ui M)).bind fun q => if (q.1.length : Int) = 0 then some (q.2 == 1) else some false) (fun k => ?_) ?_
      · simp only [amberlaw01_CrcMade.j0]
        rw [if_pos trivial, copied_eq _ (by rw [bl_length]; exact hl'), Option.bind_some]
      · refine Ev.bind (f := fun _ q => if (q.1.length : Int) = 0 then some (q.2 == 1) else some false) (forge_out (bl L) a (ui M) (by rw [bl_length]; exact hl') (by rw [bl_length]; exact h)) ?_
        exact Ev.now _
    by_cases h0 : a < 0
    · exact Ev.congr (fun k => by rw [if_pos h0]) out
    · exact Ev.congr (fun k => by rw [if_neg h0, ew, decide_eq_true (by omega)]) out
  · obtain ⟨p, rfl⟩ := Int.eq_ofNat_of_zero_le (show 0 ≤ a by omega)
    refine Ev.congr (f := fun k => amberlaw01_CrcMade.j0 k (bl L) (p : Int) (ui M) false) (fun k => by rw [if_neg (by omega), ew, decide_eq_false (by omega)]) ?_
    refine Ev.step (f := fun k => (crc_Forge.f k (bl L) (p : Int) (ui M)).bind fun q => if q.2 = 0 then amberlaw01_CrcMade.j1 k (bl L) (p : Int) (ui M) q.1 ((q.1.length : Int) != ((bl L).length : Int)) else amberlaw01_CrcMade.j1 k (bl L) (p : Int) (ui M) q.1 true) (fun k => ?_) ?_
    · simp only [amberlaw01_CrcMade.j0]
      rw [if_neg (by decide), copied_eq _ (by rw [bl_length]; exact hl'), Option.bind_some]
    · refine Ev.bind (forge_ev L p M (by omega) hl') ?_
      simp only [if_true]
      have e : (((bl (forged L p M)).length : Int) != ((bl L).length : Int)) = false := by rw [bl_length, bl_length, forged_length L p M (by omega)]; simp
      rw [e]
      refine Ev.step (fun k => ?_) (made_end L p M (by omega) hl' L.length 0 (by omega))
      simp only [amberlaw01_CrcMade.j1]
      rw [if_neg (by decide)]
      rfl

end Go.Proofs.Ytcfnpippmdijaaa.Pure
