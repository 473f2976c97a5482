/- For every list of bytes: the sum of the bytes with their own sum behind them, lowest byte first, is one number. No condition beside the reach of a slice. -/
import Derived.Test.YtcfnpippmdijaaaPAllx2
import Derived.Test.YtcfnpippmdijaaaBridge
namespace Go.Proofs.Ytcfnpippmdijaaa.Pure
open Go.RowKit Go.Proofs.Ytcfnpippmdijaaa.PAll Go.Proofs.YtcfnpippmdijaaaW.PrintWords Go.Proofs.YtcfnpippmdijaaaW.PrintLast Go.Proofs.Ytcfnpippmdijaaa.Bridge

theorem four_eq (s : CrcM.W) : ([ui s % 256, ui s / 256 % 256, ui s / 65536 % 256, ui s / 16777216 % 256] : List Int) = bl (CrcM.four s) := by
  have e (k n : Nat) (h : n = 2 ^ k) : ui s / (n : Int) % 256 = ((CrcM.low (s >>> k)).toNat : Int) := by
    rw [CrcM.low_toNat, BitVec.toNat_ushiftRight, Nat.shiftRight_eq_div_pow, ← h]; unfold ui; omega
  unfold CrcM.four bl
  simp only [List.map_cons, List.map_nil]
  rw [← low_ui, ← e 8 256 rfl, ← e 16 65536 rfl, ← e 24 16777216 rfl]
  rfl
theorem CrcSealed : amberlaw01_CrcSealed.Pure := by
  intro l hl hs hw
  obtain ⟨L, rfl⟩ := of_bytes hw
  rw [bl_length] at hl hs
  have hc : amberlaw01_copied.f (bl L) = some (bl L) := copied_eq _ (by rw [bl_length]; omega)
  refine Ev.rounds (g := fun k => amberlaw01_CrcSealed.f k (bl L)) ?_
  unfold amberlaw01_CrcSealed.f
  refine Ev.bind known_ev ?_
  simp only [hc, Option.bind_some, if_true]
  refine Ev.bind (sum_ev L hl) ?_
  rw [four_eq]
  have hj : amberlaw01_joined.f (bl L) (bl (CrcM.four (CrcM.sum L))) = some (bl (L ++ CrcM.four (CrcM.sum L))) := by
    rw [joined_eq _ _ (by rw [bl_length]; omega) (by rw [bl_length, bl_length]; simp [CrcM.four]; omega)]
    simp [bl]
  rw [hj]
  simp only [Option.bind_some]
  refine Ev.bind (f := fun _ t => some (t == 558161692)) (sum_ev _ (by unfold maxLen; simp [CrcM.four]; omega)) ?_
  rw [CrcM.sealed]
  exact Ev.now _

end Go.Proofs.Ytcfnpippmdijaaa.Pure
