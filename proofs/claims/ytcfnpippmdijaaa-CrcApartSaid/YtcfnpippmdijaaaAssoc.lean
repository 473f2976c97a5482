/- The walk of CrcAssociates: for every three numbers and every two lengths it returns true. -/
import Derived.Test.YtcfnpippmdijaaaBridge
import Derived.Test.YtcfnpippmdijaaaJoin
import Derived.Test.YtcfnpippmdijaaaBack
import Derived.Laws.Bits128
namespace Go.Proofs.Ytcfnpippmdijaaa.Assoc
open Go.RowKit Go.Proofs.YtcfnpippmdijaaaW.PrintWords Go.Proofs.YtcfnpippmdijaaaW.PrintLast Go.Proofs.YtcfnpippmdijaaaW.PrintMore Go.Proofs.Ytcfnpippmdijaaa.Bridge Go.Proofs.Ytcfnpippmdijaaa.Join
theorem known_calls (w : World) : Calls Try.prog 20 #[] w fun e w' => e = .returned (.bool true) ∧ Below w.heap.size w w' := by
  obtain ⟨k, hk⟩ := Ev.rounds known_ev
  exact Go.Proofs.Ytcfnpippmdijaaa.PAll.amberlaw01_known.calls k true w hk
theorem i64_and39 (n : Int) : Go.bits .and .i64 n 549755813887 = n % 549755813888 := by
  show IntKind.i64.wrap ((BitVec.ofInt 64 n &&& BitVec.ofInt 64 549755813887).toNat : Int) = _
  have e : (BitVec.ofInt 64 549755813887 : BitVec 64).toNat = 2 ^ 39 - 1 := by decide
  rw [BitVec.toNat_and, e, Nat.and_two_pow_sub_one_eq_mod]
  have h : ((BitVec.ofInt 64 n).toNat % 2 ^ 39 : Nat) < 2 ^ 39 := Nat.mod_lt _ (by decide)
  have h2 : (((BitVec.ofInt 64 n).toNat % 2 ^ 39 : Nat) : Int) = n % 549755813888 := by
    rw [BitVec.toNat_ofInt]; omega
  rw [h2]
  simp only [IntKind.wrap, IntKind.bits, IntKind.signed]
  simp
  split <;> omega
def three (w : World) (B : Nat) (a b c : CrcM.W) : Prop :=
  B < w.heap.size ∧ w.cell? ⟨B, 0, none⟩ = some (.int .u32 (ui a)) ∧ w.cell? ⟨B, 1, none⟩ = some (.int .u32 (ui b)) ∧ w.cell? ⟨B, 2, none⟩ = some (.int .u32 (ui c))
theorem three.later {w w' : World} {B : Nat} {a b c : CrcM.W} (h : three w B a b c) (hb : Below w.heap.size w w') : three w' B a b c := by
  obtain ⟨h0, h1, h2, h3⟩ := h
  refine ⟨Nat.lt_of_lt_of_le h0 hb.size, ?_, ?_, ?_⟩
  · rw [hb.cell (p := ⟨B, 0, none⟩) h0]; exact h1
  · rw [hb.cell (p := ⟨B, 1, none⟩) h0]; exact h2
  · rw [hb.cell (p := ⟨B, 2, none⟩) h0]; exact h3
theorem three.made (w : World) (a b c : CrcM.W) : three (w.alloc (.cells #[.int .u32 (ui a), .int .u32 (ui b), .int .u32 (ui c)] 56)) w.heap.size a b c := by
  refine ⟨by simp, ?_, ?_, ?_⟩ <;> (rw [World.cell?_alloc_mark]; rfl)
theorem joined_walk (A B : CrcM.W) (n : Nat) (hn : n ≤ 1099511627776) (w : World) {Q : Ending → World → Prop} (h : ∀ w', Below w.heap.size w w' → Q (.returned (.tuple #[.int .u32 (ui (CrcM.join A B n)), .int .i64 0])) w') :
    Calls Try.prog 29 #[.int .u32 (ui A), .int .u32 (ui B), .int .i64 n] w Q :=
  (join_any A B n hn w).mono fun e w' ⟨he, hb⟩ => by subst he; exact h w' hb
set_option maxHeartbeats 2000000 in
theorem walk (a b c : CrcM.W) (m n : Int) (w : World) :
    Calls Try.prog 12 #[.agg #[.int .u32 (ui a), .int .u32 (ui b), .int .u32 (ui c)], .int .i64 m, .int .i64 n] w fun e w' => e = .returned (.bool true) ∧ Below w.heap.size w w' := by
  obtain ⟨M, hM⟩ := Int.eq_ofNat_of_zero_le (show 0 ≤ m % 549755813888 by omega)
  obtain ⟨N, hN⟩ := Int.eq_ofNat_of_zero_le (show 0 ≤ n % 549755813888 by omega)
  have hM2 : M < 549755813888 := by omega
  have hN2 : N < 549755813888 := by omega
  have am := i64_and39 m
  have an := i64_and39 n
  rw [hM] at am
  rw [hN] at an
  clear hM hN
  have hfin : CrcM.join (CrcM.join a b M) c N = CrcM.join a (CrcM.join b c N) (M + N) := CrcM.join_assoc a b c M N
  have HF := Lib.hid hfin
  clear hfin
  have HT := Lib.hid (three.made w a b c)
  have HB := Lib.hid ((Below.refl w.heap.size w).alloc (Nat.le_refl _) (.cells #[.int .u32 (ui a), .int .u32 (ui b), .int .u32 (ui c)] 56))
  go_enter Try.func12, Try.ntmps12
  go_wp2_with fail
  refine (known_calls _).mono ?_
  rintro e w1 ⟨rfl, hb1⟩
  have T1 := Lib.hid (HT.out.later hb1)
  have B1 := Lib.hid (HB.out.trans (hb1.mono (by simp)))
  clear hb1
  obtain ⟨_, c0, c1, c2⟩ := T1.out
  go_wp2_with fail
  refine joined_walk a b M (by omega) _ fun w2 hb2 => ?_
  have T2 := Lib.hid (T1.out.later hb2)
  have B2 := Lib.hid (B1.out.trans (hb2.mono B1.out.size))
  clear hb2 c0 c1 c2
  obtain ⟨_, c0, c1, c2⟩ := T2.out
  go_wp2_with fail
  refine joined_walk _ c N (by omega) _ fun w3 hb3 => ?_
  have T3 := Lib.hid (T2.out.later hb3)
  have B3 := Lib.hid (B2.out.trans (hb3.mono B2.out.size))
  clear hb3 c0 c1 c2
  obtain ⟨_, c0, c1, c2⟩ := T3.out
  go_wp2_with fail
  refine joined_walk b c N (by omega) _ fun w4 hb4 => ?_
  have T4 := Lib.hid (T3.out.later hb4)
  have B4 := Lib.hid (B3.out.trans (hb4.mono B3.out.size))
  clear hb4 c0 c1 c2
  obtain ⟨_, c0, c1, c2⟩ := T4.out
  go_wp2_with fail
  have es : ((M : Int) + (N : Int)) = ((M + N : Nat) : Int) := by omega
  rw [es]
  clear es
  refine joined_walk a _ (M + N) (by omega) _ fun w5 hb5 => ?_
  have B5 := Lib.hid (B4.out.trans (hb5.mono B4.out.size))
  rw [HF.out]
  clear hb5 c0 c1 c2
  go_wp2_with fail
  go_ret
  exact ⟨rfl, B5.out⟩
end Go.Proofs.Ytcfnpippmdijaaa.Assoc
