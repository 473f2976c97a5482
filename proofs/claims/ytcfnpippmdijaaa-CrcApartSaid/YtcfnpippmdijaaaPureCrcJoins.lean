/- For every two numbers and every length: Join of package crc answers what the reference answers, number and error. No condition. -/
import Derived.Test.YtcfnpippmdijaaaPMorex1
import Derived.Test.YtcfnpippmdijaaaBridge
import Derived.Test.YtcfnpippmdijaaaJoin
import Derived.Test.YtcfnpippmdijaaaBack
namespace Go.Proofs.Ytcfnpippmdijaaa.Pure
open Go.RowKit Go.Proofs.Ytcfnpippmdijaaa.PAll Go.Proofs.Ytcfnpippmdijaaa.PMore Go.Proofs.Ytcfnpippmdijaaa.PGiven Go.Proofs.YtcfnpippmdijaaaW.PrintWords Go.Proofs.YtcfnpippmdijaaaW.PrintLast Go.Proofs.YtcfnpippmdijaaaW.PrintMore Go.Proofs.Ytcfnpippmdijaaa.Bridge CrcM

theorem top_bit (a : W) : (ui a / (2147483648 : Int) = 1) ↔ a.getLsbD 31 = true := by
  have h : a.getLsbD 31 = (a >>> 31).getLsbD 0 := by rw [BitVec.getLsbD_ushiftRight]
  rw [h]
  have h2 := and1_ui (a >>> 31)
  have h3 : (a >>> 31).toNat < 2 := by rw [BitVec.toNat_ushiftRight, Nat.shiftRight_eq_div_pow]; have := a.isLt; omega
  have h4 : ui a / (2147483648 : Int) = ((a >>> 31).toNat : Int) := by
    unfold ui; rw [BitVec.toNat_ushiftRight, Nat.shiftRight_eq_div_pow]; omega
  rw [h4]
  show _ ↔ (a >>> 31).toNat.testBit 0 = true
  rw [Nat.testBit_zero]
  constructor
  · intro e; exact decide_eq_true (by omega)
  · intro e; have := of_decide_eq_true e; omega
theorem dbl_ui (a : W) : ui a * (2 : Int) % (4294967296 : Int) = ui (a <<< 1) := by
  unfold ui; rw [BitVec.toNat_shiftLeft, Nat.shiftLeft_eq]; omega
theorem times_loop (n : Nat) : ∀ (a b p : W) (i : Nat), i + n = 32 → Ev (fun k => amberref01_times.l0 k (ui a) (ui b) (ui p) (i : Int)) (ui (tms n p a b)) := by
  induction n with
  | zero => intro a b p i hi; exact Ev.step (f := fun _ => some (ui p)) (fun k => by simp only [amberref01_times.l0]; rw [if_neg (by omega)]) (Ev.now _)
  | succ n ih =>
    intro a b p i hi
    rw [tms]
    refine Ev.step (fun k => ?_) (ih (a <<< 1) (X b) (if a.getLsbD 31 = true then p ^^^ b else p) (i + 1) (by omega))
    simp only [amberref01_times.l0]
    rw [if_pos (by omega), and1_ui, wrapS i (by omega), dbl_ui]
    by_cases h1 : a.getLsbD 31 = true
    · rw [if_pos ((top_bit a).2 h1), if_pos h1, xor_ui]
      by_cases h : b.getLsbD 0 = true
      · rw [if_pos h, if_pos rfl, X_pos h]
      · rw [if_neg h, if_neg (by decide), X_neg h]
    · rw [if_neg (fun e => h1 ((top_bit a).1 e)), if_neg h1]
      by_cases h : b.getLsbD 0 = true
      · rw [if_pos h, if_pos rfl, X_pos h]
      · rw [if_neg h, if_neg (by decide), X_neg h]
theorem times_ev (a b : W) : Ev (fun k => amberref01_times.f k (ui a) (ui b)) (ui (times a b)) := times_loop 32 a b (BitVec.ofNat 32 0) 0 rfl
theorem power_loop (n : Nat) : ∀ (m u v : Nat), m < 2 ^ n → m ≤ 9223372036854775807 → Ev (fun k => amberref01_power.l0 k (m : Int) (ui (xs (8 * u) one)) (ui (xs (8 * v) one))) (ui (xs (8 * (u + m * v)) one)) := by
  induction n with
  | zero =>
    intro m u v hm _
    obtain rfl : m = 0 := by simpa using hm
    refine Ev.step (f := fun _ => some _) (fun k => by simp only [amberref01_power.l0]; rw [if_neg (by omega)]) ?_
    rw [Nat.zero_mul, Nat.add_zero]; exact Ev.now _
  | succ n ih =>
    intro m u v hm hm2
    by_cases h0 : m = 0
    · subst h0
      refine Ev.step (f := fun _ => some _) (fun k => by simp only [amberref01_power.l0]; rw [if_neg (by omega)]) ?_
      rw [Nat.zero_mul, Nat.add_zero]; exact Ev.now _
    · have hx : times (xs (8 * v) one) (xs (8 * v) one) = xs (8 * (2 * v)) one := by
        rw [times_pow, ← xs_add]; congr 1; omega
      have hd : wrap64 (Int.tdiv (m : Int) 2) = ((m / 2 : Nat) : Int) := by
        rw [Int.tdiv_eq_ediv_of_nonneg (by omega)]; unfold wrap64; omega
      have ht : Int.tmod (m : Int) 2 = ((m % 2 : Nat) : Int) := by rw [Int.tmod_eq_emod_of_nonneg (by omega)]; omega
      by_cases h1 : m % 2 = 1
      · have hrec := ih (m / 2) (u + v) (2 * v) (by rw [Nat.pow_succ] at hm; omega) (by omega)
        have e : u + v + m / 2 * (2 * v) = u + m * v := by
          have h2 : m = m / 2 * 2 + 1 := by omega
          have h3 : m * v = (m / 2 * 2 + 1) * v := by rw [← h2]
          rw [h3, Nat.add_mul, Nat.mul_assoc]; omega
        rw [e] at hrec
        refine Ev.step (f := fun k => (amberref01_times.f k (ui (xs (8 * u) one)) (ui (xs (8 * v) one))).bind fun t => (amberref01_times.f k (ui (xs (8 * v) one)) (ui (xs (8 * v) one))).bind fun q => amberref01_power.l0 k ((m / 2 : Nat) : Int) t q) (fun k => ?_) ?_
        · simp only [amberref01_power.l0]
          rw [if_pos (by omega), ht, if_pos (by omega), hd]
        · refine Ev.bind (times_ev _ _) ?_
          refine Ev.bind (times_ev _ _) ?_
          rw [hx, times_pow, ← xs_add, show 8 * u + 8 * v = 8 * (u + v) by omega]
          exact hrec
      · have hrec := ih (m / 2) u (2 * v) (by rw [Nat.pow_succ] at hm; omega) (by omega)
        have e : u + m / 2 * (2 * v) = u + m * v := by
          have h2 : m = m / 2 * 2 := by omega
          have h3 : m * v = (m / 2 * 2) * v := by rw [← h2]
          rw [h3, Nat.mul_assoc]
        rw [e] at hrec
        refine Ev.step (f := fun k => (amberref01_times.f k (ui (xs (8 * v) one)) (ui (xs (8 * v) one))).bind fun q => amberref01_power.l0 k ((m / 2 : Nat) : Int) (ui (xs (8 * u) one)) q) (fun k => ?_) ?_
        · simp only [amberref01_power.l0]
          rw [if_pos (by omega), ht, if_neg (by omega), hd]
        · refine Ev.bind (times_ev _ _) ?_
          rw [hx]
          exact hrec
theorem power_ev (n : Nat) (hn : n ≤ 9223372036854775807) : Ev (fun k => amberref01_power.f k (n : Int)) (ui (xs (8 * n) one)) := by
  have h := power_loop 63 n 0 1 (by omega) hn
  rw [Nat.zero_add, Nat.mul_one, Nat.mul_one, one_8] at h
  exact h
theorem rjoin_ev (a b : W) (n : Nat) (hn : n ≤ 1099511627776) : Ev (fun k => amberref01_Join.f k (ui a) (ui b) (n : Int)) (ui (join a b n), 0) := by
  unfold amberref01_Join.f
  refine Ev.congr (f := fun k => amberref01_Join.j0 k (ui a) (ui b) (n : Int) false) (fun k => ?_) ?_
  · rw [if_neg (by omega), decide_eq_false (by omega)]
  · refine Ev.step (f := fun k => (amberref01_power.f k (n : Int)).bind fun t => (amberref01_times.f k (ui a) t).bind fun q => some (Go.bits .xor .u32 q (ui b), 0)) (fun k => by simp only [amberref01_Join.j0]; rw [if_neg (by decide)]) ?_
    refine Ev.bind (power_ev n (by omega)) ?_
    refine Ev.bind (f := fun _ q => some (Go.bits .xor .u32 q (ui b), 0)) (times_ev _ _) ?_
    rw [times_pow, xor_ui]
    exact Ev.now _
theorem rjoin_out (a b n : Int) (h : n < 0 ∨ n > 1099511627776) : Ev (fun k => amberref01_Join.f k a b n) (0, 1) := by
  have out : Ev (fun k => amberref01_Join.j0 k a b n true) (0, 1) := Ev.step (f := fun _ => some (0, 1)) (fun k => by simp only [amberref01_Join.j0]; rw [if_pos trivial]) (Ev.now _)
  unfold amberref01_Join.f
  by_cases h0 : n < 0
  · exact Ev.congr (fun k => by rw [if_pos h0]) out
  · exact Ev.congr (fun k => by rw [if_neg h0, decide_eq_true (by omega)]) out
theorem CrcJoins : amberlaw01_CrcJoins.Pure := by
  intro a b n ha hb hn
  obtain ⟨A, rfl⟩ := of_u32 ha
  obtain ⟨B, rfl⟩ := of_u32 hb
  refine Ev.rounds (g := fun k => amberlaw01_CrcJoins.f k (ui A) (ui B) n) ?_
  unfold amberlaw01_CrcJoins.f
  by_cases h : n < 0 ∨ n > 1099511627776
  · have e : crc_Join.f (ui A) (ui B) n = some (0, 1) := by
      unfold crc_Join.f
      by_cases h0 : n < 0
      · rw [if_pos h0]
      · rw [if_neg h0, if_pos (by omega)]
    rw [e]
    simp only [Option.bind_some]
    refine Ev.bind (f := fun _ q => if (0, 1).1 = q.1 then some ((0, 1).2 == q.2) else some false) (rjoin_out _ _ n h) ?_
    exact Ev.now _
  · obtain ⟨m, rfl⟩ := Int.eq_ofNat_of_zero_le (show 0 ≤ n by omega)
    rw [crc_Join.f_ui A B m (by omega)]
    simp only [Option.bind_some]
    refine Ev.bind (f := fun _ q => if ui (join A B m) = q.1 then some (0 == q.2) else some false) (rjoin_ev A B m (by omega)) ?_
    simp only [if_true]
    exact Ev.now _

end Go.Proofs.Ytcfnpippmdijaaa.Pure
