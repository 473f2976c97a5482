/- For every list of bytes, every place and every number: Forge of package crc answers what the reference answers, bytes and error. No condition beside the reach of a slice. -/
import Derived.Test.YtcfnpippmdijaaaPMorex2
import Derived.Test.YtcfnpippmdijaaaForge
namespace Go.Proofs.Ytcfnpippmdijaaa.Pure
open Go.RowKit Go.Proofs.Ytcfnpippmdijaaa.PAll Go.Proofs.Ytcfnpippmdijaaa.PMore Go.Proofs.Ytcfnpippmdijaaa.PGiven Go.Proofs.YtcfnpippmdijaaaW.PrintWords Go.Proofs.YtcfnpippmdijaaaW.PrintLast Go.Proofs.YtcfnpippmdijaaaW.PrintMore Go.Proofs.Ytcfnpippmdijaaa.Bridge

theorem CrcForges : amberlaw01_CrcForges.Pure := by
  intro l a x hl hs hw ha hx
  obtain ⟨L, rfl⟩ := of_bytes hw
  obtain ⟨M, rfl⟩ := of_u32 hx
  rw [bl_length] at hl hs
  have hl' : L.length ≤ 140737488351232 := by omega
  refine Ev.rounds (g := fun k => amberlaw01_CrcForges.f k (bl L) a (ui M)) ?_
  unfold amberlaw01_CrcForges.f
  rw [copied_eq _ (by rw [bl_length]; exact hl')]
  simp only [Option.bind_some]
  by_cases h : a < 0 ∨ a > ((bl L).length : Int) - 4
  · refine Ev.bind (forge_out (bl L) a (ui M) (by rw [bl_length]; exact hl') h) ?_
    refine Ev.bind (f := fun _ q => (amberlaw01_same.f ([], 1).1 q.1).bind fun t => if t = true then (if ([], 1).2 = q.2 then (if q.2 = 0 then some true else some (((([], 1) : List Int × Int).1.length : Int) == 0)) else some false) else some false) (rforge_out (bl L) a (ui M) (by rw [bl_length]; exact hl') h) ?_
    simp only [same_self, Option.bind_some, if_true]
    exact Ev.now _
  · rw [bl_length] at h
    obtain ⟨p, rfl⟩ := Int.eq_ofNat_of_zero_le (show 0 ≤ a by omega)
    refine Ev.bind (forge_ev L p M (by omega) hl') ?_
    refine Ev.bind (f := fun _ q => (amberlaw01_same.f (bl (forged L p M)) q.1).bind fun t => if t = true then (if (0 : Int) = q.2 then (if q.2 = 0 then some true else some (((bl (forged L p M)).length : Int) == 0)) else some false) else some false) (rforge_ev L p M (by omega) hl') ?_
    simp only [same_self, Option.bind_some, if_true]
    exact Ev.now _

end Go.Proofs.Ytcfnpippmdijaaa.Pure
