/- For every number and every two lists of bytes that are together no longer than the bound: the sum goes on over the cut, by Update and by Join. -/
import Derived.Test.YtcfnpippmdijaaaPMorex3
import Derived.Test.YtcfnpippmdijaaaBridge
import Derived.Test.YtcfnpippmdijaaaBack
namespace Go.Proofs.Ytcfnpippmdijaaa.Pure
open Go.RowKit Go.Proofs.Ytcfnpippmdijaaa.PAll Go.Proofs.Ytcfnpippmdijaaa.PMore Go.Proofs.Ytcfnpippmdijaaa.PGiven Go.Proofs.YtcfnpippmdijaaaW.PrintWords Go.Proofs.YtcfnpippmdijaaaW.PrintLast Go.Proofs.YtcfnpippmdijaaaW.PrintMore Go.Proofs.Ytcfnpippmdijaaa.Bridge

theorem CrcGoesOnUpto (a : Int) (l m : List Int) (ha : (Lit.int .u32 a).wf = true) (hl : l.length ≤ 1048576) (hm : m.length ≤ 1048576) (hwl : ∀ x ∈ l, (Lit.int .u8 x).wf = true) (hwm : ∀ x ∈ m, (Lit.int .u8 x).wf = true) :
    ∃ k, amberlaw01_CrcGoesOn.f k a l m = some true := by
  obtain ⟨A, rfl⟩ := of_u32 ha
  obtain ⟨L, rfl⟩ := of_bytes hwl
  obtain ⟨M, rfl⟩ := of_bytes hwm
  rw [bl_length] at hl hm
  refine Ev.rounds (g := fun k => amberlaw01_CrcGoesOn.f k (ui A) (bl L) (bl M)) ?_
  unfold amberlaw01_CrcGoesOn.f
  refine Ev.bind known_ev ?_
  have hj : amberlaw01_joined.f (bl L) (bl M) = some (bl (L ++ M)) := by
    rw [joined_eq _ _ (by rw [bl_length]; omega) (by rw [bl_length, bl_length]; omega)]
    simp [bl]
  rw [hj, copied_eq _ (by rw [bl_length]; omega), copied_eq _ (by rw [bl_length]; omega)]
  simp only [Option.bind_some, if_true]
  refine Ev.bind (update_ev A L (by unfold maxLen; omega)) ?_
  refine Ev.bind (update_ev _ M (by unfold maxLen; omega)) ?_
  refine Ev.bind (update_ev A (L ++ M) (by unfold maxLen; rw [List.length_append]; omega)) ?_
  rw [CrcM.upd_append]
  simp only [if_true]
  refine Ev.bind (sum_ev L (by unfold maxLen; omega)) ?_
  refine Ev.bind (sum_ev M (by unfold maxLen; omega)) ?_
  rw [bl_length, crc_Join.f_ui _ _ _ (by omega)]
  simp only [Option.bind_some, if_true]
  refine Ev.bind (f := fun _ t => some (ui (CrcM.join (CrcM.sum L) (CrcM.sum M) M.length) == t)) (sum_ev (L ++ M) (by unfold maxLen; rw [List.length_append]; omega)) ?_
  rw [← CrcM.sum_join, beq_self_eq_true]
  exact Ev.now _

end Go.Proofs.Ytcfnpippmdijaaa.Pure
