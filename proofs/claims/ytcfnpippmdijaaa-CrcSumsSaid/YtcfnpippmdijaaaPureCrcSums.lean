/- For every number and every list of bytes: Sum and Update of package crc answer what the reference answers. No condition beside the reach of a slice. -/
import Derived.Test.YtcfnpippmdijaaaPAllx1
import Derived.Test.YtcfnpippmdijaaaBridge
namespace Go.Proofs.Ytcfnpippmdijaaa.Pure
open Go.RowKit Go.Proofs.Ytcfnpippmdijaaa.PAll Go.Proofs.YtcfnpippmdijaaaW.PrintWords Go.Proofs.YtcfnpippmdijaaaW.PrintLast Go.Proofs.Ytcfnpippmdijaaa.Bridge

theorem CrcSums : amberlaw01_CrcSums.Pure := by
  intro a l ha hl hs hw
  obtain ⟨A, rfl⟩ := of_u32 ha
  obtain ⟨L, rfl⟩ := of_bytes hw
  rw [bl_length] at hl hs
  have hc : amberlaw01_copied.f (bl L) = some (bl L) := copied_eq _ (by rw [bl_length]; omega)
  refine Ev.rounds (g := fun k => amberlaw01_CrcSums.f k (ui A) (bl L)) ?_
  unfold amberlaw01_CrcSums.f
  simp only [hc, Option.bind_some]
  refine Ev.bind (sum_ev L hl) ?_
  refine Ev.bind (update_ev A L hl) ?_
  refine Ev.bind (rsum_ev L hl) ?_
  simp only [if_true]
  refine Ev.bind (f := fun _ t => some (ui (CrcM.upd A L) == t)) (rupdate_ev A L hl) ?_
  simp only [beq_self_eq_true]
  exact Ev.now _

end Go.Proofs.Ytcfnpippmdijaaa.Pure
