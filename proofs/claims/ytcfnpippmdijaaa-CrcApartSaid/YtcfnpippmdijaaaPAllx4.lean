-- Written by this session's own program (wip/px_patch.py over a scratch copy of the kit's print), not by the kit's print.sh
import Derived.Test.YtcfnpippmdijaaaPAllx0
import Derived.Test.YtcfnpippmdijaaaPAllx1
import Derived.Test.YtcfnpippmdijaaaPAllx3
namespace Go.Proofs.Ytcfnpippmdijaaa.PAll
open Go.RowKit Go.Proofs.YtcfnpippmdijaaaW.PrintWords Go.Proofs.YtcfnpippmdijaaaW.PrintLast Go.Proofs.YtcfnpippmdijaaaW.PrintMore
attribute [local go_sem] max2_int min2_int max_two min_two max_three min_three max_four min_four   -- for this text's walks alone
set_option linter.unusedVariables false
set_option linter.unusedSimpArgs false

/-! ### amberlaw01_CrcTold: function 8 -/
mutual
def amberlaw01_CrcTold.j0 : Nat → List Int → Int → Int → Bool → Option (Bool)
  | 0, _, _, _, _ => none
  | k + 1, x0, x1, x2, x26 => if x26 = true then (some true) else (amberlaw01_CrcTold.l0 k x0 x1 x2 0)
def amberlaw01_CrcTold.l0 : Nat → List Int → Int → Int → Int → Option (Bool)
  | 0, _, _, _, _ => none
  | k + 1, x0, x1, x2, x7 => if x7 < 32 then (if 0 ≤ x7 then (if (Go.bits .and .u32 (shr .u32 x2 x7) 1) = 1 then (if (wrap64 (x1 + x7)) ≥ (wrap64 (8 * (x0.length : Int))) then (some true) else (amberlaw01_CrcTold.l0 k x0 x1 x2 (wrap64 (x7 + 1)))) else (amberlaw01_CrcTold.l0 k x0 x1 x2 (wrap64 (x7 + 1)))) else (none)) else ((amberlaw01_copied.f x0).bind fun t167 => ((crc_Burst.f k t167 x1 x2).bind fun bt170 => (if bt170.2 = 0 then (amberlaw01_CrcTold.j2 k x0 x1 x2 bt170.1 ((bt170.1.length : Int) != (x0.length : Int))) else (amberlaw01_CrcTold.j2 k x0 x1 x2 bt170.1 true))))
def amberlaw01_CrcTold.j2 : Nat → List Int → Int → Int → List Int → Bool → Option (Bool)
  | 0, _, _, _, _, _ => none
  | k + 1, x0, x1, x2, x8, x61 => if x61 = true then (some false) else (amberlaw01_CrcTold.l1 k x0 x1 x2 x8 0)
def amberlaw01_CrcTold.l1 : Nat → List Int → Int → Int → List Int → Int → Option (Bool)
  | 0, _, _, _, _, _ => none
  | k + 1, x0, x1, x2, x8, x10 => if x10 < (x0.length : Int) then (amberlaw01_CrcTold.l2 k x0 x1 x2 x8 x10 0 0) else ((amberlaw01_copied.f x0).bind fun t174 => ((crc_Sum.f k t174).bind fun t177 => ((crc_Sum.f k x8).bind fun t178 => (some ((t177 == t178) == (x2 == 0))))))
def amberlaw01_CrcTold.l2 : Nat → List Int → Int → Int → List Int → Int → Int → Int → Option (Bool)
  | 0, _, _, _, _, _, _, _ => none
  | k + 1, x0, x1, x2, x8, x10, x11, x12 => if x12 < 8 then (if (wrap64 ((wrap64 ((wrap64 (8 * x10)) + x12)) - x1)) ≥ 0 then (if (wrap64 ((wrap64 ((wrap64 (8 * x10)) + x12)) - x1)) < 32 then (if 0 ≤ (wrap64 ((wrap64 ((wrap64 (8 * x10)) + x12)) - x1)) then (if (Go.bits .and .u32 (shr .u32 x2 (wrap64 ((wrap64 ((wrap64 (8 * x10)) + x12)) - x1))) 1) = 1 then (if 0 ≤ x12 then (amberlaw01_CrcTold.l2 k x0 x1 x2 x8 x10 (Go.bits .or .u8 x11 (shl .u8 1 x12)) (wrap64 (x12 + 1))) else (none)) else (amberlaw01_CrcTold.l2 k x0 x1 x2 x8 x10 x11 (wrap64 (x12 + 1)))) else (none)) else (amberlaw01_CrcTold.l2 k x0 x1 x2 x8 x10 x11 (wrap64 (x12 + 1)))) else (amberlaw01_CrcTold.l2 k x0 x1 x2 x8 x10 x11 (wrap64 (x12 + 1)))) else (if 0 ≤ x10 then (if x10 < (x8.length : Int) then (if x10 < (x0.length : Int) then (if (rd x8 x10) = (Go.bits .xor .u8 (rd x0 x10) x11) then (amberlaw01_CrcTold.l1 k x0 x1 x2 x8 (wrap64 (x10 + 1))) else (some false)) else (none)) else (none)) else (none))
end
def amberlaw01_CrcTold.f (k : Nat) (l0 : List Int) (a1 : Int) (a2 : Int) : Option (Bool) := (amberlaw01_known.f k).bind fun t166 => (if t166 = true then (if a1 < 0 then (amberlaw01_CrcTold.j0 k l0 a1 a2 true) else (amberlaw01_CrcTold.j0 k l0 a1 a2 (decide (a1 > (wrap64 (8 * (l0.length : Int))))))) else (some false))
theorem amberlaw01_CrcTold.mono_l : ∀ k, (∀ y0 y1 y2 y3, LeO (amberlaw01_CrcTold.j0 k y0 y1 y2 y3) (amberlaw01_CrcTold.j0 (k + 1) y0 y1 y2 y3)) ∧ (∀ y0 y1 y2 y3, LeO (amberlaw01_CrcTold.l0 k y0 y1 y2 y3) (amberlaw01_CrcTold.l0 (k + 1) y0 y1 y2 y3)) ∧ (∀ y0 y1 y2 y3 y4, LeO (amberlaw01_CrcTold.j2 k y0 y1 y2 y3 y4) (amberlaw01_CrcTold.j2 (k + 1) y0 y1 y2 y3 y4)) ∧ (∀ y0 y1 y2 y3 y4, LeO (amberlaw01_CrcTold.l1 k y0 y1 y2 y3 y4) (amberlaw01_CrcTold.l1 (k + 1) y0 y1 y2 y3 y4)) ∧ (∀ y0 y1 y2 y3 y4 y5 y6, LeO (amberlaw01_CrcTold.l2 k y0 y1 y2 y3 y4 y5 y6) (amberlaw01_CrcTold.l2 (k + 1) y0 y1 y2 y3 y4 y5 y6))
  | 0 => ⟨fun _ _ _ _ r h => by simp [amberlaw01_CrcTold.j0] at h, fun _ _ _ _ r h => by simp [amberlaw01_CrcTold.l0] at h, fun _ _ _ _ _ r h => by simp [amberlaw01_CrcTold.j2] at h, fun _ _ _ _ _ r h => by simp [amberlaw01_CrcTold.l1] at h, fun _ _ _ _ _ _ _ r h => by simp [amberlaw01_CrcTold.l2] at h⟩
  | k + 1 => by
    obtain ⟨ih0, ih1, ih2, ih3, ih4⟩ := amberlaw01_CrcTold.mono_l k
    refine ⟨?_, ?_, ?_, ?_, ?_⟩
    · intro y0 y1 y2 y3
      unfold amberlaw01_CrcTold.j0
      repeat' first
      | (with_reducible exact ih0 _ _ _ _)
      | (with_reducible exact ih1 _ _ _ _)
      | (with_reducible exact ih2 _ _ _ _ _)
      | (with_reducible exact ih3 _ _ _ _ _)
      | (with_reducible exact ih4 _ _ _ _ _ _ _)
      | (with_reducible exact amberlaw01_known.mono _)
      | (with_reducible exact crc_Burst.mono _ _ _ _)
      | (with_reducible exact crc_Sum.mono _ _)
      | (with_reducible exact LeO.refl _)
      | (with_reducible exact LeO.none _)
      | (with_reducible refine LeO.ite ?_ ?_)
      | (with_reducible refine LeO.bind ?_ (fun _ => ?_))
      | exact ih0 _ _ _ _
      | exact ih1 _ _ _ _
      | exact ih2 _ _ _ _ _
      | exact ih3 _ _ _ _ _
      | exact ih4 _ _ _ _ _ _ _
      | exact amberlaw01_known.mono _
      | exact crc_Burst.mono _ _ _ _
      | exact crc_Sum.mono _ _
      | exact LeO.none _
      | refine LeO.ite ?_ ?_
      | refine LeO.bind ?_ (fun _ => ?_)
    · intro y0 y1 y2 y3
      unfold amberlaw01_CrcTold.l0
      repeat' first
      | (with_reducible exact ih0 _ _ _ _)
      | (with_reducible exact ih1 _ _ _ _)
      | (with_reducible exact ih2 _ _ _ _ _)
      | (with_reducible exact ih3 _ _ _ _ _)
      | (with_reducible exact ih4 _ _ _ _ _ _ _)
      | (with_reducible exact amberlaw01_known.mono _)
      | (with_reducible exact crc_Burst.mono _ _ _ _)
      | (with_reducible exact crc_Sum.mono _ _)
      | (with_reducible exact LeO.refl _)
      | (with_reducible exact LeO.none _)
      | (with_reducible refine LeO.ite ?_ ?_)
      | (with_reducible refine LeO.bind ?_ (fun _ => ?_))
      | exact ih0 _ _ _ _
      | exact ih1 _ _ _ _
      | exact ih2 _ _ _ _ _
      | exact ih3 _ _ _ _ _
      | exact ih4 _ _ _ _ _ _ _
      | exact amberlaw01_known.mono _
      | exact crc_Burst.mono _ _ _ _
      | exact crc_Sum.mono _ _
      | exact LeO.none _
      | refine LeO.ite ?_ ?_
      | refine LeO.bind ?_ (fun _ => ?_)
    · intro y0 y1 y2 y3 y4
      unfold amberlaw01_CrcTold.j2
      repeat' first
      | (with_reducible exact ih0 _ _ _ _)
      | (with_reducible exact ih1 _ _ _ _)
      | (with_reducible exact ih2 _ _ _ _ _)
      | (with_reducible exact ih3 _ _ _ _ _)
      | (with_reducible exact ih4 _ _ _ _ _ _ _)
      | (with_reducible exact amberlaw01_known.mono _)
      | (with_reducible exact crc_Burst.mono _ _ _ _)
      | (with_reducible exact crc_Sum.mono _ _)
      | (with_reducible exact LeO.refl _)
      | (with_reducible exact LeO.none _)
      | (with_reducible refine LeO.ite ?_ ?_)
      | (with_reducible refine LeO.bind ?_ (fun _ => ?_))
      | exact ih0 _ _ _ _
      | exact ih1 _ _ _ _
      | exact ih2 _ _ _ _ _
      | exact ih3 _ _ _ _ _
      | exact ih4 _ _ _ _ _ _ _
      | exact amberlaw01_known.mono _
      | exact crc_Burst.mono _ _ _ _
      | exact crc_Sum.mono _ _
      | exact LeO.none _
      | refine LeO.ite ?_ ?_
      | refine LeO.bind ?_ (fun _ => ?_)
    · intro y0 y1 y2 y3 y4
      unfold amberlaw01_CrcTold.l1
      repeat' first
      | (with_reducible exact ih0 _ _ _ _)
      | (with_reducible exact ih1 _ _ _ _)
      | (with_reducible exact ih2 _ _ _ _ _)
      | (with_reducible exact ih3 _ _ _ _ _)
      | (with_reducible exact ih4 _ _ _ _ _ _ _)
      | (with_reducible exact amberlaw01_known.mono _)
      | (with_reducible exact crc_Burst.mono _ _ _ _)
      | (with_reducible exact crc_Sum.mono _ _)
      | (with_reducible exact LeO.refl _)
      | (with_reducible exact LeO.none _)
      | (with_reducible refine LeO.ite ?_ ?_)
      | (with_reducible refine LeO.bind ?_ (fun _ => ?_))
      | exact ih0 _ _ _ _
      | exact ih1 _ _ _ _
      | exact ih2 _ _ _ _ _
      | exact ih3 _ _ _ _ _
      | exact ih4 _ _ _ _ _ _ _
      | exact amberlaw01_known.mono _
      | exact crc_Burst.mono _ _ _ _
      | exact crc_Sum.mono _ _
      | exact LeO.none _
      | refine LeO.ite ?_ ?_
      | refine LeO.bind ?_ (fun _ => ?_)
    · intro y0 y1 y2 y3 y4 y5 y6
      unfold amberlaw01_CrcTold.l2
      repeat' first
      | (with_reducible exact ih0 _ _ _ _)
      | (with_reducible exact ih1 _ _ _ _)
      | (with_reducible exact ih2 _ _ _ _ _)
      | (with_reducible exact ih3 _ _ _ _ _)
      | (with_reducible exact ih4 _ _ _ _ _ _ _)
      | (with_reducible exact amberlaw01_known.mono _)
      | (with_reducible exact crc_Burst.mono _ _ _ _)
      | (with_reducible exact crc_Sum.mono _ _)
      | (with_reducible exact LeO.refl _)
      | (with_reducible exact LeO.none _)
      | (with_reducible refine LeO.ite ?_ ?_)
      | (with_reducible refine LeO.bind ?_ (fun _ => ?_))
      | exact ih0 _ _ _ _
      | exact ih1 _ _ _ _
      | exact ih2 _ _ _ _ _
      | exact ih3 _ _ _ _ _
      | exact ih4 _ _ _ _ _ _ _
      | exact amberlaw01_known.mono _
      | exact crc_Burst.mono _ _ _ _
      | exact crc_Sum.mono _ _
      | exact LeO.none _
      | refine LeO.ite ?_ ?_
      | refine LeO.bind ?_ (fun _ => ?_)
theorem amberlaw01_CrcTold.mono : ∀ a0 a1 a2 k, LeO (amberlaw01_CrcTold.f k a0 a1 a2) (amberlaw01_CrcTold.f (k + 1) a0 a1 a2) := by
  intro a0 a1 a2 k
  obtain ⟨ih0, ih1, ih2, ih3, ih4⟩ := amberlaw01_CrcTold.mono_l k
  unfold amberlaw01_CrcTold.f
  repeat' first
      | (with_reducible exact ih0 _ _ _ _)
      | (with_reducible exact ih1 _ _ _ _)
      | (with_reducible exact ih2 _ _ _ _ _)
      | (with_reducible exact ih3 _ _ _ _ _)
      | (with_reducible exact ih4 _ _ _ _ _ _ _)
      | (with_reducible exact amberlaw01_known.mono _)
      | (with_reducible exact crc_Burst.mono _ _ _ _)
      | (with_reducible exact crc_Sum.mono _ _)
      | (with_reducible exact LeO.refl _)
      | (with_reducible exact LeO.none _)
      | (with_reducible refine LeO.ite ?_ ?_)
      | (with_reducible refine LeO.bind ?_ (fun _ => ?_))
      | exact ih0 _ _ _ _
      | exact ih1 _ _ _ _
      | exact ih2 _ _ _ _ _
      | exact ih3 _ _ _ _ _
      | exact ih4 _ _ _ _ _ _ _
      | exact amberlaw01_known.mono _
      | exact crc_Burst.mono _ _ _ _
      | exact crc_Sum.mono _ _
      | exact LeO.none _
      | refine LeO.ite ?_ ?_
      | refine LeO.bind ?_ (fun _ => ?_)
set_option maxHeartbeats 8000000 in
set_option maxRecDepth 100000 in
theorem amberlaw01_CrcTold.calls (k : Nat) (A0 : Option Addr) (c0 : Nat) (l0 : List Int) (a1 : Int) (a2 : Int) (r : Bool) (w : World) (hr0 : Kd.C (Kd.int .u8) w A0 l0.length l0) (hc0 : l0.length ≤ c0) (h : amberlaw01_CrcTold.f k l0 a1 a2 = some r) :
    Calls Try.prog 8 #[.slice A0 l0.length c0, .int .i64 a1, .int .u32 a2] w fun e w' => e = .returned (.bool r) ∧ Below w.heap.size w w' := by
  have HR0 := Aside0.mk hr0
  have HC0 := Aside0.mk hc0
  clear hr0 hc0
  have HB := Aside0.mk (Below.refl w.heap.size w)
  have H : ((amberlaw01_known.f k).bind fun t166 => (if t166 = true then (if a1 < 0 then (amberlaw01_CrcTold.j0 k l0 a1 a2 true) else (amberlaw01_CrcTold.j0 k l0 a1 a2 (decide (a1 > (wrap64 (8 * (l0.length : Int))))))) else (some false))) = some r := h
  clear h
  replace H := Option.bind_eq_some_iff.mp H
  obtain ⟨t166, A40, H⟩ := H
  replace H : (if t166 = true then (if a1 < 0 then (amberlaw01_CrcTold.j0 k l0 a1 a2 true) else (amberlaw01_CrcTold.j0 k l0 a1 a2 (decide (a1 > (wrap64 (8 * (l0.length : Int))))))) else (some false)) = some r := H
  have A4 := Aside0.mk A40
  clear A40
  by_cases c5 : t166 = true
  · subst c5
    have H1 : (if a1 < 0 then (amberlaw01_CrcTold.j0 k l0 a1 a2 true) else (amberlaw01_CrcTold.j0 k l0 a1 a2 (decide (a1 > (wrap64 (8 * (l0.length : Int))))))) = some r := by rw [if_pos rfl] at H; exact H
    clear H
    have H := H1
    clear H1
    have HC6 := Aside0.mk H
    clear H
    go_enter Try.func8, Try.ntmps8
    go_upto_region 3 with (first | (go_at_call 20; (with_reducible refine (amberlaw01_known.calls k  true _ A4.out).mono ?_); rintro e w7 ⟨rfl, hb⟩; have n0_ := Aside0.mk (below_step (by repeat (first | (with_reducible first | exact HB.out | apply below_alloc | apply pw_below_drewN | apply below_drew1) | exact HB.out)) hb); clear HB; have HB := n0_; clear n0_; (try clear hb); (try clear hb2); (try clear hk); (try clear hi)))
    repeat (go_quiet (first | (go_at_call 20; (with_reducible refine (amberlaw01_known.calls k  true _ A4.out).mono ?_); rintro e w7 ⟨rfl, hb⟩; have n0_ := Aside0.mk (below_step (by repeat (first | (with_reducible first | exact HB.out | apply below_alloc | apply pw_below_drewN | apply below_drew1) | exact HB.out)) hb); clear HB; have HB := n0_; clear n0_; (try clear hb); (try clear hb2); (try clear hk); (try clear hi))); go_upto_region 3 with (first | (go_at_call 20; (with_reducible refine (amberlaw01_known.calls k  true _ A4.out).mono ?_); rintro e w7 ⟨rfl, hb⟩; have n0_ := Aside0.mk (below_step (by repeat (first | (with_reducible first | exact HB.out | apply below_alloc | apply pw_below_drewN | apply below_drew1) | exact HB.out)) hb); clear HB; have HB := n0_; clear n0_; (try clear hb); (try clear hb2); (try clear hk); (try clear hi))))
    (try simp only [Act.put, List.setIfInBounds_toArray, List.set_cons_zero, List.set_cons_succ])
    go_cut [26] (fun v26 wc => ∃ (kq : Nat) (x26_5 : Bool), v26 = .bool x26_5 ∧ Aside0 (amberlaw01_CrcTold.j0 kq l0 a1 a2 x26_5 = some r) ∧ Aside0 (kq ≤ k) ∧ Aside0 (Below w.heap.size w wc))
    case first =>
      have H := HC6.out
      clear HC6
      by_cases c8 : a1 < 0
      · rw [if_pos c8] at H
        have c8b0 : decide (a1 < 0) = true := decide_eq_true c8
        clear c8
        (first | rw [c8b0] | (simp only [i64_w, i32_w]; rw [c8b0]) | skip)
        have H' := Aside0.mk H
        clear H
        go_wp2
        repeat (go_quiet (fail); try go_wp2)
        go_meet
        case rel => exact ⟨_, (true), (by first | rfl | (simp; done) | (simp [*]; done)), H', ⟨by first | omega | exact Nat.le_refl _⟩, ⟨by repeat (first | (with_reducible first | exact HB.out | apply below_alloc | apply pw_below_drewN | apply below_drew1) | exact HB.out)⟩⟩
      · rw [if_neg c8] at H
        have c8b0 : decide (a1 < 0) = false := decide_eq_false c8
        clear c8
        (first | rw [c8b0] | (simp only [i64_w, i32_w]; rw [c8b0]) | skip)
        have H' := Aside0.mk H
        clear H
        go_wp2
        repeat (go_quiet (fail); try go_wp2)
        go_meet
        case rel => exact ⟨_, (decide (a1 > (wrap64 (8 * (l0.length : Int))))), (by first | rfl | (simp; done) | (simp [*]; done)), H', ⟨by first | omega | exact Nat.le_refl _⟩, ⟨by repeat (first | (with_reducible first | exact HB.out | apply below_alloc | apply pw_below_drewN | apply below_drew1) | exact HB.out)⟩⟩
    case rest =>
      clear HC6
      try clear p2
      try clear c5
      try clear p6
      try clear c8
      try clear c8b0
      obtain ⟨kq, x26_5, rfl, HA, HJ5, HB⟩ := hcut
      cases kq with
      | zero => exact absurd HA.out (by simp [amberlaw01_CrcTold.j0])
      | succ kj5 =>
        have H := HA.out
        clear HA
        simp only [amberlaw01_CrcTold.j0] at H
        by_cases c9 : x26_5 = true
        · subst c9
          have H1 : (some true) = some r := by rw [if_pos rfl] at H; exact H
          clear H
          have H := H1
          clear H1
          obtain rfl := Option.some.inj H
          go_wp2
          repeat (go_quiet (fail); try go_wp2)
          go_ret
          exact ⟨by first | rfl | (simp [errW_none, errW_some] <;> rfl) | (simp [*, errW_none, errW_some] <;> rfl), by repeat (first | (with_reducible first | exact HB.out | apply below_alloc | apply pw_below_drewN | apply below_drew1) | exact HB.out)⟩
        · replace c9 := Bool.eq_false_iff.mpr c9
          subst c9
          have H1 : (amberlaw01_CrcTold.l0 kj5 l0 a1 a2 0) = some r := by rw [if_neg (show ¬ (false = true) by decide)] at H; exact H
          clear H
          have H := H1
          clear H1
          have H' := Aside0.mk H
          clear H
          go_wp2
          repeat (go_quiet (fail); try go_wp2)
          go_loopg [7] kj5 (fun kq v7 w' => ∃ (x7_2 : Int), v7 = .int .i64 x7_2 ∧ Aside0 (amberlaw01_CrcTold.l0 kq l0 a1 a2 x7_2 = some r) ∧ Aside0 (kq ≤ kj5) ∧ Aside0 (Below w.heap.size w w'))
          case atStart => exact ⟨(0), (by first | rfl | (simp; done) | (simp [*]; done)), H', ⟨Nat.le_refl _⟩, ⟨by repeat (first | (with_reducible first | exact HB.out | apply below_alloc | apply pw_below_drewN | apply below_drew1) | exact HB.out)⟩⟩
          case round =>
            clear H'
            try clear p2
            try clear c5
            try clear p6
            try clear c8
            try clear c8b0
            try clear c9
            try clear p2
            try clear p6
            obtain ⟨x7_2, rfl, HA, HK2, HB⟩ := hrel
            cases gk with
            | zero => exact absurd HA.out (by simp [amberlaw01_CrcTold.l0])
            | succ k2 =>
              have H := HA.out
              clear HA
              simp only [amberlaw01_CrcTold.l0] at H
              by_cases c10 : x7_2 < 32
              · rw [if_pos c10] at H
                have c10b0 : decide (x7_2 < 32) = true := decide_eq_true c10
                clear c10
                by_cases c11 : 0 ≤ x7_2
                · rw [if_pos c11] at H
                  have c11b0 := eq_true c11
                  have c11b1 : decide (0 ≤ x7_2) = true := decide_eq_true c11
                  clear c11
                  obtain ⟨ji12, hji12⟩ : ∃ j_ : Int, (shr .u32 a2 x7_2) = j_ := ⟨_, rfl⟩
                  replace H : (if (Go.bits .and .u32 (ji12) 1) = 1 then (if (wrap64 (a1 + x7_2)) ≥ (wrap64 (8 * (l0.length : Int))) then (some true) else (amberlaw01_CrcTold.l0 k2 l0 a1 a2 (wrap64 (x7_2 + 1)))) else (amberlaw01_CrcTold.l0 k2 l0 a1 a2 (wrap64 (x7_2 + 1)))) = some r := by first | (rw [hji12] at H; exact H) | (simp only [hji12] at H ⊢; exact H)
                  have hji12_ : (a2 / 2 ^ min x7_2.toNat 32) = ji12 := hji12
                  have hji12z : x7_2 ≤ 32 → (a2 / 2 ^ x7_2.toNat) = ji12 := shr_small hji12
                  by_cases c13 : (Go.bits .and .u32 (ji12) 1) = 1
                  · rw [if_pos c13] at H
                    have c13b0 : ((Go.bits .and .u32 (ji12) 1) == 1) = true := beq_iff_eq.mpr c13
                    have c13b1 : ((Go.bits .and .u32 (ji12) 1) != 1) = false := bne_eq_false_iff_eq.mpr c13
                    clear c13
                    by_cases c14 : (wrap64 (a1 + x7_2)) ≥ (wrap64 (8 * (l0.length : Int)))
                    · rw [if_pos c14] at H
                      have c14b0 : decide ((wrap64 (8 * (l0.length : Int))) ≤ (wrap64 (a1 + x7_2))) = true := decide_eq_true c14
                      clear c14
                      obtain rfl := Option.some.inj H
                      go_wp2
                      repeat (go_quiet (fail); try go_wp2)
                      go_ret
                      exact ⟨by first | rfl | (simp [errW_none, errW_some] <;> rfl) | (simp only [← hji12]; first | rfl | (simp [errW_none, errW_some] <;> rfl)) | (simp [*, errW_none, errW_some] <;> rfl), by repeat (first | (with_reducible first | exact HB.out | apply below_alloc | apply pw_below_drewN | apply below_drew1) | exact HB.out)⟩
                    · rw [if_neg c14] at H
                      have c14b0 : decide ((wrap64 (8 * (l0.length : Int))) ≤ (wrap64 (a1 + x7_2))) = false := decide_eq_false c14
                      clear c14
                      have H' := Aside0.mk H
                      clear H
                      go_wp2
                      repeat (go_quiet (fail); try go_wp2)
                      go_roundg k2
                      case measure => have := HJ5.out; have := HK2.out; omega
                      case rel => exact ⟨(wrap64 (x7_2 + 1)), (by first | rfl | (simp; done) | (simp [*]; done)), H', ⟨by have := HJ5.out; have := HK2.out; omega⟩, ⟨by repeat (first | (with_reducible first | exact HB.out | apply below_alloc | apply pw_below_drewN | apply below_drew1) | exact HB.out)⟩⟩
                  · rw [if_neg c13] at H
                    have c13b0 : ((Go.bits .and .u32 (ji12) 1) == 1) = false := beq_eq_false_iff_ne.mpr c13
                    have c13b1 : ((Go.bits .and .u32 (ji12) 1) != 1) = true := bne_iff_ne.mpr c13
                    have H' := Aside0.mk H
                    clear H
                    go_wp2
                    repeat (go_quiet (fail); try go_wp2)
                    go_roundg k2
                    case measure => have := HJ5.out; have := HK2.out; omega
                    case rel => exact ⟨(wrap64 (x7_2 + 1)), (by first | rfl | (simp; done) | (simp [*]; done)), H', ⟨by have := HJ5.out; have := HK2.out; omega⟩, ⟨by repeat (first | (with_reducible first | exact HB.out | apply below_alloc | apply pw_below_drewN | apply below_drew1) | exact HB.out)⟩⟩
                · rw [if_neg c11] at H
                  exact absurd H (by simp)
              · rw [if_neg c10] at H
                have c10b0 : decide (x7_2 < 32) = false := decide_eq_false c10
                clear c10
                replace H := Option.bind_eq_some_iff.mp H
                obtain ⟨t167, A150, H⟩ := H
                replace H : ((crc_Burst.f k2 t167 a1 a2).bind fun bt170 => (if bt170.2 = 0 then (amberlaw01_CrcTold.j2 k2 l0 a1 a2 bt170.1 ((bt170.1.length : Int) != (l0.length : Int))) else (amberlaw01_CrcTold.j2 k2 l0 a1 a2 bt170.1 true))) = some r := H
                have A15 := Aside0.mk A150
                clear A150
                replace H := Option.bind_eq_some_iff.mp H
                obtain ⟨⟨t170, t171⟩, A160, H⟩ := H
                replace H : (if t171 = 0 then (amberlaw01_CrcTold.j2 k2 l0 a1 a2 t170 ((t170.length : Int) != (l0.length : Int))) else (amberlaw01_CrcTold.j2 k2 l0 a1 a2 t170 true)) = some r := H
                have A16 := Aside0.mk A160
                clear A160
                have HC17 := Aside0.mk H
                clear H
                go_upto_region 11 with (first | (go_at_call 16; (with_reducible refine (amberlaw01_copied.calls _ _ l0 t167 _ ?side1 ?side2 A15.out).mono ?_); (case side1 => repeat (first | exact (Kd.C_below HR0.out HB.out) | (with_reducible refine Kd.C_alloc ?_ _) | (with_reducible refine Kd.C_drewN ?_ _) | (with_reducible refine Kd.C_drew ?_))); (case side2 => exact HC0.out); rintro e w18 ⟨v168, rfl, ho0, hb⟩; have n0_ := Aside0.mk (Kd.R_lower ho0 (below_size (by repeat (first | (with_reducible first | exact HB.out | apply below_alloc | apply pw_below_drewN | apply below_drew1) | exact HB.out)))); have n1_ := Aside0.mk (below_step (by repeat (first | (with_reducible first | exact HB.out | apply below_alloc | apply pw_below_drewN | apply below_drew1) | exact HB.out)) hb); clear HB; have HO169 := n0_; have HB := n1_; clear n0_ n1_; (try clear hb); (try clear hb2); (try clear hk); (try clear hi); (try clear ho0); obtain ⟨Ao19, co19, eo19⟩ := Kd.R_slice HO169.out; subst eo19) | (go_at_call 28; (with_reducible refine (crc_Burst.calls k2 _ _ t167 a1 a2 t170 t171 _ ?side1 ?side2 A16.out).mono ?_); (case side1 => repeat (first | exact (Kd.R_reads' HO169.out).2.2 | (with_reducible refine Kd.C_alloc ?_ _) | (with_reducible refine Kd.C_drewN ?_ _) | (with_reducible refine Kd.C_drew ?_))); (case side2 => exact (Kd.R_reads' HO169.out).2.1); rintro e w20 ⟨v172, rfl, ho0, hb⟩; have n0_ := Aside0.mk (Kd.R_elder' (by (with_reducible repeat (first | apply Kd.R_alloc | apply Kd.R_drewN | apply Kd.R_drew)); exact HO169.out) (Kd.R_base ho0) hb); have n1_ := Aside0.mk (Kd.R_lower (Kd.R_new' ho0 (Kd.R_lt (by (with_reducible repeat (first | apply Kd.R_alloc | apply Kd.R_drewN | apply Kd.R_drew)); exact HO169.out))) (below_size (by repeat (first | (with_reducible first | exact HB.out | apply below_alloc | apply pw_below_drewN | apply below_drew1) | exact HB.out)))); have n2_ := Aside0.mk (below_step (by repeat (first | (with_reducible first | exact HB.out | apply below_alloc | apply pw_below_drewN | apply below_drew1) | exact HB.out)) hb); clear HO169; clear HB; have HO169 := n0_; have HO173 := n1_; have HB := n2_; clear n0_ n1_ n2_; (try clear hb); (try clear hb2); (try clear hk); (try clear hi); (try clear ho0)))
                repeat (go_quiet (first | (go_at_call 16; (with_reducible refine (amberlaw01_copied.calls _ _ l0 t167 _ ?side1 ?side2 A15.out).mono ?_); (case side1 => repeat (first | exact (Kd.C_below HR0.out HB.out) | (with_reducible refine Kd.C_alloc ?_ _) | (with_reducible refine Kd.C_drewN ?_ _) | (with_reducible refine Kd.C_drew ?_))); (case side2 => exact HC0.out); rintro e w18 ⟨v168, rfl, ho0, hb⟩; have n0_ := Aside0.mk (Kd.R_lower ho0 (below_size (by repeat (first | (with_reducible first | exact HB.out | apply below_alloc | apply pw_below_drewN | apply below_drew1) | exact HB.out)))); have n1_ := Aside0.mk (below_step (by repeat (first | (with_reducible first | exact HB.out | apply below_alloc | apply pw_below_drewN | apply below_drew1) | exact HB.out)) hb); clear HB; have HO169 := n0_; have HB := n1_; clear n0_ n1_; (try clear hb); (try clear hb2); (try clear hk); (try clear hi); (try clear ho0); obtain ⟨Ao19, co19, eo19⟩ := Kd.R_slice HO169.out; subst eo19) | (go_at_call 28; (with_reducible refine (crc_Burst.calls k2 _ _ t167 a1 a2 t170 t171 _ ?side1 ?side2 A16.out).mono ?_); (case side1 => repeat (first | exact (Kd.R_reads' HO169.out).2.2 | (with_reducible refine Kd.C_alloc ?_ _) | (with_reducible refine Kd.C_drewN ?_ _) | (with_reducible refine Kd.C_drew ?_))); (case side2 => exact (Kd.R_reads' HO169.out).2.1); rintro e w20 ⟨v172, rfl, ho0, hb⟩; have n0_ := Aside0.mk (Kd.R_elder' (by (with_reducible repeat (first | apply Kd.R_alloc | apply Kd.R_drewN | apply Kd.R_drew)); exact HO169.out) (Kd.R_base ho0) hb); have n1_ := Aside0.mk (Kd.R_lower (Kd.R_new' ho0 (Kd.R_lt (by (with_reducible repeat (first | apply Kd.R_alloc | apply Kd.R_drewN | apply Kd.R_drew)); exact HO169.out))) (below_size (by repeat (first | (with_reducible first | exact HB.out | apply below_alloc | apply pw_below_drewN | apply below_drew1) | exact HB.out)))); have n2_ := Aside0.mk (below_step (by repeat (first | (with_reducible first | exact HB.out | apply below_alloc | apply pw_below_drewN | apply below_drew1) | exact HB.out)) hb); clear HO169; clear HB; have HO169 := n0_; have HO173 := n1_; have HB := n2_; clear n0_ n1_ n2_; (try clear hb); (try clear hb2); (try clear hk); (try clear hi); (try clear ho0))); go_upto_region 11 with (first | (go_at_call 16; (with_reducible refine (amberlaw01_copied.calls _ _ l0 t167 _ ?side1 ?side2 A15.out).mono ?_); (case side1 => repeat (first | exact (Kd.C_below HR0.out HB.out) | (with_reducible refine Kd.C_alloc ?_ _) | (with_reducible refine Kd.C_drewN ?_ _) | (with_reducible refine Kd.C_drew ?_))); (case side2 => exact HC0.out); rintro e w18 ⟨v168, rfl, ho0, hb⟩; have n0_ := Aside0.mk (Kd.R_lower ho0 (below_size (by repeat (first | (with_reducible first | exact HB.out | apply below_alloc | apply pw_below_drewN | apply below_drew1) | exact HB.out)))); have n1_ := Aside0.mk (below_step (by repeat (first | (with_reducible first | exact HB.out | apply below_alloc | apply pw_below_drewN | apply below_drew1) | exact HB.out)) hb); clear HB; have HO169 := n0_; have HB := n1_; clear n0_ n1_; (try clear hb); (try clear hb2); (try clear hk); (try clear hi); (try clear ho0); obtain ⟨Ao19, co19, eo19⟩ := Kd.R_slice HO169.out; subst eo19) | (go_at_call 28; (with_reducible refine (crc_Burst.calls k2 _ _ t167 a1 a2 t170 t171 _ ?side1 ?side2 A16.out).mono ?_); (case side1 => repeat (first | exact (Kd.R_reads' HO169.out).2.2 | (with_reducible refine Kd.C_alloc ?_ _) | (with_reducible refine Kd.C_drewN ?_ _) | (with_reducible refine Kd.C_drew ?_))); (case side2 => exact (Kd.R_reads' HO169.out).2.1); rintro e w20 ⟨v172, rfl, ho0, hb⟩; have n0_ := Aside0.mk (Kd.R_elder' (by (with_reducible repeat (first | apply Kd.R_alloc | apply Kd.R_drewN | apply Kd.R_drew)); exact HO169.out) (Kd.R_base ho0) hb); have n1_ := Aside0.mk (Kd.R_lower (Kd.R_new' ho0 (Kd.R_lt (by (with_reducible repeat (first | apply Kd.R_alloc | apply Kd.R_drewN | apply Kd.R_drew)); exact HO169.out))) (below_size (by repeat (first | (with_reducible first | exact HB.out | apply below_alloc | apply pw_below_drewN | apply below_drew1) | exact HB.out)))); have n2_ := Aside0.mk (below_step (by repeat (first | (with_reducible first | exact HB.out | apply below_alloc | apply pw_below_drewN | apply below_drew1) | exact HB.out)) hb); clear HO169; clear HB; have HO169 := n0_; have HO173 := n1_; have HB := n2_; clear n0_ n1_ n2_; (try clear hb); (try clear hb2); (try clear hk); (try clear hi); (try clear ho0))))
                (try simp only [Act.put, List.setIfInBounds_toArray, List.set_cons_zero, List.set_cons_succ])
                go_cut [61] (fun v61 wc => ∃ (kq : Nat) (x61_16 : Bool), v61 = .bool x61_16 ∧ Aside0 (amberlaw01_CrcTold.j2 kq l0 a1 a2 t170 x61_16 = some r) ∧ Aside0 (kq ≤ k2) ∧ Aside0 (Kd.R (Kd.int .u8) 5 wc w.heap.size (fun _ => True) v172 t170) ∧ Aside0 (Below w.heap.size w wc))
                case first =>
                  have H := HC17.out
                  clear HC17
                  by_cases c21 : t171 = 0
                  · rw [if_pos c21] at H
                    have c21b0 : (t171 == 0) = true := beq_iff_eq.mpr c21
                    have c21b1 : (t171 != 0) = false := bne_eq_false_iff_eq.mpr c21
                    clear c21
                    (first | rw [c21b0] | (simp only [i64_w, i32_w]; rw [c21b0]) | skip)
                    have H' := Aside0.mk H
                    clear H
                    obtain ⟨Ao22, co22, eo22⟩ := Kd.R_slice HO173.out
                    subst eo22
                    go_wp2
                    repeat (go_quiet (fail); try go_wp2)
                    go_meet
                    case rel => exact ⟨_, (((t170.length : Int) != (l0.length : Int))), (by first | rfl | (simp; done) | (simp [*]; done)), H', ⟨by have := HJ5.out; have := HK2.out; first | omega | exact Nat.le_refl _⟩, ⟨by (with_reducible repeat (first | apply Kd.R_alloc | apply Kd.R_drewN | apply Kd.R_drew)); exact Kd.R_mono HO173.out (fun _ hk => trivial)⟩, ⟨by repeat (first | (with_reducible first | exact HB.out | apply below_alloc | apply pw_below_drewN | apply below_drew1) | exact HB.out)⟩⟩
                  · rw [if_neg c21] at H
                    have c21b0 : (t171 == 0) = false := beq_eq_false_iff_ne.mpr c21
                    have c21b1 : (t171 != 0) = true := bne_iff_ne.mpr c21
                    (first | rw [c21b0] | (simp only [i64_w, i32_w]; rw [c21b0]) | skip)
                    have H' := Aside0.mk H
                    clear H
                    go_wp2
                    repeat (go_quiet (fail); try go_wp2)
                    go_meet
                    case rel => exact ⟨_, (true), (by first | rfl | (simp; done) | (simp [*]; done)), H', ⟨by have := HJ5.out; have := HK2.out; first | omega | exact Nat.le_refl _⟩, ⟨by (with_reducible repeat (first | apply Kd.R_alloc | apply Kd.R_drewN | apply Kd.R_drew)); exact Kd.R_mono HO173.out (fun _ hk => trivial)⟩, ⟨by repeat (first | (with_reducible first | exact HB.out | apply below_alloc | apply pw_below_drewN | apply below_drew1) | exact HB.out)⟩⟩
                case rest =>
                  clear HC17
                  try clear c1
                  try clear c2
                  try clear p2
                  try clear c5
                  try clear p6
                  try clear c8
                  try clear c8b0
                  try clear c9
                  try clear c10
                  try clear c10b0
                  try clear c11
                  try clear c11b0
                  try clear c11b1
                  try clear c13
                  try clear c13b0
                  try clear c13b1
                  try clear c14
                  try clear c14b0
                  try clear c21
                  try clear c21b0
                  try clear c21b1
                  try clear p2
                  try clear p6
                  obtain ⟨kq, x61_16, rfl, HA, HJ16, HO_8, HB⟩ := hcut
                  cases kq with
                  | zero => exact absurd HA.out (by simp [amberlaw01_CrcTold.j2])
                  | succ kj16 =>
                    have H := HA.out
                    clear HA
                    simp only [amberlaw01_CrcTold.j2] at H
                    by_cases c23 : x61_16 = true
                    · subst c23
                      have H1 : (some false) = some r := by rw [if_pos rfl] at H; exact H
                      clear H
                      have H := H1
                      clear H1
                      obtain rfl := Option.some.inj H
                      go_wp2
                      repeat (go_quiet (fail); try go_wp2)
                      go_ret
                      exact ⟨by first | rfl | (simp [errW_none, errW_some] <;> rfl) | (simp [*, errW_none, errW_some] <;> rfl), by repeat (first | (with_reducible first | exact HB.out | apply below_alloc | apply pw_below_drewN | apply below_drew1) | exact HB.out)⟩
                    · replace c23 := Bool.eq_false_iff.mpr c23
                      subst c23
                      have H1 : (amberlaw01_CrcTold.l1 kj16 l0 a1 a2 t170 0) = some r := by rw [if_neg (show ¬ (false = true) by decide)] at H; exact H
                      clear H
                      have H := H1
                      clear H1
                      have H' := Aside0.mk H
                      clear H
                      go_wp2
                      repeat (go_quiet (fail); try go_wp2)
                      go_loopg [10] kj16 (fun kq v10 w' => ∃ (x10_4 : Int), v10 = .int .i64 x10_4 ∧ Aside0 (amberlaw01_CrcTold.l1 kq l0 a1 a2 t170 x10_4 = some r) ∧ Aside0 (kq ≤ kj16) ∧ Aside0 (Kd.R (Kd.int .u8) 5 w' w.heap.size (fun _ => True) v172 t170) ∧ Aside0 (Below w.heap.size w w'))
                      case atStart => exact ⟨(0), (by first | rfl | (simp; done) | (simp [*]; done)), H', ⟨Nat.le_refl _⟩, ⟨by (with_reducible repeat (first | apply Kd.R_alloc | apply Kd.R_drewN | apply Kd.R_drew)); exact HO_8.out⟩, ⟨by repeat (first | (with_reducible first | exact HB.out | apply below_alloc | apply pw_below_drewN | apply below_drew1) | exact HB.out)⟩⟩
                      case round =>
                        clear H'
                        try clear c1
                        try clear c2
                        try clear p2
                        try clear c5
                        try clear p6
                        try clear c8
                        try clear c8b0
                        try clear c9
                        try clear c10
                        try clear c10b0
                        try clear c11
                        try clear c11b0
                        try clear c11b1
                        try clear c13
                        try clear c13b0
                        try clear c13b1
                        try clear c14
                        try clear c14b0
                        try clear c21
                        try clear c21b0
                        try clear c21b1
                        try clear c23
                        try clear p2
                        try clear p6
                        obtain ⟨x10_4, rfl, HA, HK4, HO_8, HB⟩ := hrel
                        cases gk with
                        | zero => exact absurd HA.out (by simp [amberlaw01_CrcTold.l1])
                        | succ k4 =>
                          have H := HA.out
                          clear HA
                          simp only [amberlaw01_CrcTold.l1] at H
                          by_cases c24 : x10_4 < (l0.length : Int)
                          · rw [if_pos c24] at H
                            have c24b0 : decide (x10_4 < (l0.length : Int)) = true := decide_eq_true c24
                            clear c24
                            have H' := Aside0.mk H
                            clear H
                            go_wp2
                            repeat (go_quiet (fail); try go_wp2)
                            go_loopg [11, 12] k4 (fun kq v11 v12 w' => ∃ (x11_5 : Int) (x12_5 : Int), v11 = .int .u8 x11_5 ∧ v12 = .int .i64 x12_5 ∧ Aside0 (amberlaw01_CrcTold.l2 kq l0 a1 a2 t170 x10_4 x11_5 x12_5 = some r) ∧ Aside0 (kq ≤ k4) ∧ Aside0 (Kd.R (Kd.int .u8) 5 w' w.heap.size (fun _ => True) v172 t170) ∧ Aside0 (Below w.heap.size w w'))
                            case atStart => exact ⟨(0), (0), (by first | rfl | (simp; done) | (simp [*]; done)), (by first | rfl | (simp; done) | (simp [*]; done)), H', ⟨Nat.le_refl _⟩, ⟨by (with_reducible repeat (first | apply Kd.R_alloc | apply Kd.R_drewN | apply Kd.R_drew)); exact HO_8.out⟩, ⟨by repeat (first | (with_reducible first | exact HB.out | apply below_alloc | apply pw_below_drewN | apply below_drew1) | exact HB.out)⟩⟩
                            case round =>
                              clear H'
                              try clear c1
                              try clear c2
                              try clear p2
                              try clear c5
                              try clear p6
                              try clear c8
                              try clear c8b0
                              try clear c9
                              try clear c10
                              try clear c10b0
                              try clear c11
                              try clear c11b0
                              try clear c11b1
                              try clear c13
                              try clear c13b0
                              try clear c13b1
                              try clear c14
                              try clear c14b0
                              try clear c21
                              try clear c21b0
                              try clear c21b1
                              try clear c23
                              try clear c24
                              try clear c24b0
                              try clear p2
                              try clear p6
                              obtain ⟨x11_5, x12_5, rfl, rfl, HA, HK5, HO_8, HB⟩ := hrel
                              cases gk with
                              | zero => exact absurd HA.out (by simp [amberlaw01_CrcTold.l2])
                              | succ k5 =>
                                have H := HA.out
                                clear HA
                                simp only [amberlaw01_CrcTold.l2] at H
                                by_cases c25 : x12_5 < 8
                                · rw [if_pos c25] at H
                                  have c25b0 : decide (x12_5 < 8) = true := decide_eq_true c25
                                  clear c25
                                  by_cases c26 : (wrap64 ((wrap64 ((wrap64 (8 * x10_4)) + x12_5)) - a1)) ≥ 0
                                  · rw [if_pos c26] at H
                                    have c26b0 : decide (0 ≤ (wrap64 ((wrap64 ((wrap64 (8 * x10_4)) + x12_5)) - a1))) = true := decide_eq_true c26
                                    clear c26
                                    by_cases c27 : (wrap64 ((wrap64 ((wrap64 (8 * x10_4)) + x12_5)) - a1)) < 32
                                    · rw [if_pos c27] at H
                                      have c27b0 : decide ((wrap64 ((wrap64 ((wrap64 (8 * x10_4)) + x12_5)) - a1)) < 32) = true := decide_eq_true c27
                                      clear c27
                                      obtain ⟨ji28, hji28⟩ : ∃ j_ : Int, (wrap64 ((wrap64 ((wrap64 (8 * x10_4)) + x12_5)) - a1)) = j_ := ⟨_, rfl⟩
                                      replace H : (if 0 ≤ (ji28) then (if (Go.bits .and .u32 (shr .u32 a2 (ji28)) 1) = 1 then (if 0 ≤ x12_5 then (amberlaw01_CrcTold.l2 k5 l0 a1 a2 t170 x10_4 (Go.bits .or .u8 x11_5 (shl .u8 1 x12_5)) (wrap64 (x12_5 + 1))) else (none)) else (amberlaw01_CrcTold.l2 k5 l0 a1 a2 t170 x10_4 x11_5 (wrap64 (x12_5 + 1)))) else (none)) = some r := by first | (rw [hji28] at H; exact H) | (simp only [hji28] at H ⊢; exact H)
                                      (try rw [hji28] at c26b0)
                                      (try rw [hji28] at c27b0)
                                      have hji28w : (IntKind.i64.wrap ((wrap64 ((wrap64 (8 * x10_4)) + x12_5)) - a1)) = ji28 := (i64_w _).trans hji28
                                      by_cases c29 : 0 ≤ (ji28)
                                      · rw [if_pos c29] at H
                                        have c29b0 := eq_true c29
                                        have c29b1 : decide (0 ≤ (ji28)) = true := decide_eq_true c29
                                        clear c29
                                        obtain ⟨ji30, hji30⟩ : ∃ j_ : Int, (shr .u32 a2 (ji28)) = j_ := ⟨_, rfl⟩
                                        replace H : (if (Go.bits .and .u32 (ji30) 1) = 1 then (if 0 ≤ x12_5 then (amberlaw01_CrcTold.l2 k5 l0 a1 a2 t170 x10_4 (Go.bits .or .u8 x11_5 (shl .u8 1 x12_5)) (wrap64 (x12_5 + 1))) else (none)) else (amberlaw01_CrcTold.l2 k5 l0 a1 a2 t170 x10_4 x11_5 (wrap64 (x12_5 + 1)))) = some r := by first | (rw [hji30] at H; exact H) | (simp only [hji30] at H ⊢; exact H)
                                        have hji30_ : (a2 / 2 ^ min (ji28).toNat 32) = ji30 := hji30
                                        have hji30z : (ji28) ≤ 32 → (a2 / 2 ^ (ji28).toNat) = ji30 := shr_small hji30
                                        by_cases c31 : (Go.bits .and .u32 (ji30) 1) = 1
                                        · rw [if_pos c31] at H
                                          have c31b0 : ((Go.bits .and .u32 (ji30) 1) == 1) = true := beq_iff_eq.mpr c31
                                          have c31b1 : ((Go.bits .and .u32 (ji30) 1) != 1) = false := bne_eq_false_iff_eq.mpr c31
                                          clear c31
                                          by_cases c32 : 0 ≤ x12_5
                                          · rw [if_pos c32] at H
                                            have c32b0 := eq_true c32
                                            have c32b1 : decide (0 ≤ x12_5) = true := decide_eq_true c32
                                            clear c32
                                            obtain ⟨ji33, hji33⟩ : ∃ j_ : Int, (shl .u8 1 x12_5) = j_ := ⟨_, rfl⟩
                                            replace H : (amberlaw01_CrcTold.l2 k5 l0 a1 a2 t170 x10_4 (Go.bits .or .u8 x11_5 (ji33)) (wrap64 (x12_5 + 1))) = some r := by first | (rw [hji33] at H; exact H) | (simp only [hji33] at H ⊢; exact H)
                                            have hji33_ : (IntKind.u8.wrap (1 * 2 ^ min x12_5.toNat 8)) = ji33 := hji33
                                            have hji33z : x12_5 ≤ 8 → (IntKind.u8.wrap (1 * 2 ^ x12_5.toNat)) = ji33 := shl_small hji33
                                            have hji33u : (IntKind.u8.wrap (2 ^ min x12_5.toNat 8)) = ji33 := by have h_ := hji33_; rw [Int.one_mul] at h_; exact h_
                                            have hji33v : x12_5 ≤ 8 → (IntKind.u8.wrap (2 ^ x12_5.toNat)) = ji33 := fun hle_ => by have h_ := hji33z hle_; rw [Int.one_mul] at h_; exact h_
                                            have H' := Aside0.mk H
                                            clear H
                                            go_wp2
                                            repeat (go_quiet (fail); try go_wp2)
                                            go_roundg k5
                                            case measure => have := HJ5.out; have := HK2.out; have := HJ16.out; have := HK4.out; have := HK5.out; omega
                                            case rel => exact ⟨(Go.bits .or .u8 x11_5 (ji33)), (wrap64 (x12_5 + 1)), (by first | rfl | (simp; done) | (simp only [← hji33] <;> (first | rfl | simp)) | (simp [*]; done)), (by first | rfl | (simp; done) | (simp [*]; done)), H', ⟨by have := HJ5.out; have := HK2.out; have := HJ16.out; have := HK4.out; have := HK5.out; omega⟩, ⟨by (with_reducible repeat (first | apply Kd.R_alloc | apply Kd.R_drewN | apply Kd.R_drew)); exact HO_8.out⟩, ⟨by repeat (first | (with_reducible first | exact HB.out | apply below_alloc | apply pw_below_drewN | apply below_drew1) | exact HB.out)⟩⟩
                                          · rw [if_neg c32] at H
                                            exact absurd H (by simp)
                                        · rw [if_neg c31] at H
                                          have c31b0 : ((Go.bits .and .u32 (ji30) 1) == 1) = false := beq_eq_false_iff_ne.mpr c31
                                          have c31b1 : ((Go.bits .and .u32 (ji30) 1) != 1) = true := bne_iff_ne.mpr c31
                                          have H' := Aside0.mk H
                                          clear H
                                          go_wp2
                                          repeat (go_quiet (fail); try go_wp2)
                                          go_roundg k5
                                          case measure => have := HJ5.out; have := HK2.out; have := HJ16.out; have := HK4.out; have := HK5.out; omega
                                          case rel => exact ⟨(x11_5), (wrap64 (x12_5 + 1)), (by first | rfl | (simp; done) | (simp [*]; done)), (by first | rfl | (simp; done) | (simp [*]; done)), H', ⟨by have := HJ5.out; have := HK2.out; have := HJ16.out; have := HK4.out; have := HK5.out; omega⟩, ⟨by (with_reducible repeat (first | apply Kd.R_alloc | apply Kd.R_drewN | apply Kd.R_drew)); exact HO_8.out⟩, ⟨by repeat (first | (with_reducible first | exact HB.out | apply below_alloc | apply pw_below_drewN | apply below_drew1) | exact HB.out)⟩⟩
                                      · rw [if_neg c29] at H
                                        exact absurd H (by simp)
                                    · rw [if_neg c27] at H
                                      have c27b0 : decide ((wrap64 ((wrap64 ((wrap64 (8 * x10_4)) + x12_5)) - a1)) < 32) = false := decide_eq_false c27
                                      clear c27
                                      have H' := Aside0.mk H
                                      clear H
                                      go_wp2
                                      repeat (go_quiet (fail); try go_wp2)
                                      go_roundg k5
                                      case measure => have := HJ5.out; have := HK2.out; have := HJ16.out; have := HK4.out; have := HK5.out; omega
                                      case rel => exact ⟨(x11_5), (wrap64 (x12_5 + 1)), (by first | rfl | (simp; done) | (simp [*]; done)), (by first | rfl | (simp; done) | (simp [*]; done)), H', ⟨by have := HJ5.out; have := HK2.out; have := HJ16.out; have := HK4.out; have := HK5.out; omega⟩, ⟨by (with_reducible repeat (first | apply Kd.R_alloc | apply Kd.R_drewN | apply Kd.R_drew)); exact HO_8.out⟩, ⟨by repeat (first | (with_reducible first | exact HB.out | apply below_alloc | apply pw_below_drewN | apply below_drew1) | exact HB.out)⟩⟩
                                  · rw [if_neg c26] at H
                                    have c26b0 : decide (0 ≤ (wrap64 ((wrap64 ((wrap64 (8 * x10_4)) + x12_5)) - a1))) = false := decide_eq_false c26
                                    clear c26
                                    have H' := Aside0.mk H
                                    clear H
                                    go_wp2
                                    repeat (go_quiet (fail); try go_wp2)
                                    go_roundg k5
                                    case measure => have := HJ5.out; have := HK2.out; have := HJ16.out; have := HK4.out; have := HK5.out; omega
                                    case rel => exact ⟨(x11_5), (wrap64 (x12_5 + 1)), (by first | rfl | (simp; done) | (simp [*]; done)), (by first | rfl | (simp; done) | (simp [*]; done)), H', ⟨by have := HJ5.out; have := HK2.out; have := HJ16.out; have := HK4.out; have := HK5.out; omega⟩, ⟨by (with_reducible repeat (first | apply Kd.R_alloc | apply Kd.R_drewN | apply Kd.R_drew)); exact HO_8.out⟩, ⟨by repeat (first | (with_reducible first | exact HB.out | apply below_alloc | apply pw_below_drewN | apply below_drew1) | exact HB.out)⟩⟩
                                · rw [if_neg c25] at H
                                  have c25b0 : decide (x12_5 < 8) = false := decide_eq_false c25
                                  clear c25
                                  by_cases c34 : 0 ≤ x10_4
                                  · rw [if_pos c34] at H
                                    have c34b0 : decide (0 ≤ x10_4) = true := decide_eq_true c34
                                    clear c34
                                    by_cases c35 : x10_4 < (t170.length : Int)
                                    · rw [if_pos c35] at H
                                      have c35b0 : decide (x10_4 < (t170.length : Int)) = true := decide_eq_true c35
                                      clear c35
                                      by_cases c36 : x10_4 < (l0.length : Int)
                                      · rw [if_pos c36] at H
                                        have c36b0 : decide (x10_4 < (l0.length : Int)) = true := decide_eq_true c36
                                        clear c36
                                        by_cases c37 : (rd t170 x10_4) = (Go.bits .xor .u8 (rd l0 x10_4) x11_5)
                                        · rw [if_pos c37] at H
                                          have c37b0 : ((rd t170 x10_4) == (Go.bits .xor .u8 (rd l0 x10_4) x11_5)) = true := beq_iff_eq.mpr c37
                                          have c37b1 : ((rd t170 x10_4) != (Go.bits .xor .u8 (rd l0 x10_4) x11_5)) = false := bne_eq_false_iff_eq.mpr c37
                                          clear c37
                                          have H' := Aside0.mk H
                                          clear H
                                          obtain ⟨Ao38, co38, eo38⟩ := Kd.R_slice HO_8.out
                                          subst eo38
                                          have p179 : 0 ≤ (x10_4 : Int) := of_decide_eq_true (by first | (with_reducible assumption) | assumption)
                                          have q179 : x10_4 < (t170.length : Int) := of_decide_eq_true (by first | (with_reducible assumption) | assumption)
                                          obtain ⟨ad179, e179, hx179_0⟩ := Kd.at_int (Kd.R_reads' HO_8.out).2.2 x10_4 p179 q179
                                          cases e179
                                          replace p179 := eq_true p179
                                          replace q179 := eq_true q179
                                          have p180 : 0 ≤ (x10_4 : Int) := of_decide_eq_true (by first | (with_reducible assumption) | assumption)
                                          have q180 : x10_4 < (l0.length : Int) := of_decide_eq_true (by first | (with_reducible assumption) | assumption)
                                          obtain ⟨ad180, e180, hx180_0⟩ := Kd.at_int HR0.out x10_4 p180 q180
                                          cases e180
                                          replace hx180_0 := (HB.out.cell (World.block_lt_of_cell? w _ hx180_0)).trans hx180_0
                                          replace p180 := eq_true p180
                                          replace q180 := eq_true q180
                                          go_wp2
                                          repeat (go_quiet (fail); try go_wp2)
                                          go_roundg k5
                                          case measure => have := HJ5.out; have := HK2.out; have := HJ16.out; have := HK4.out; have := HK5.out; omega
                                          case rel => exact ⟨(wrap64 (x10_4 + 1)), (by first | rfl | (simp; done) | (simp [*]; done)), H', ⟨by have := HJ5.out; have := HK2.out; have := HJ16.out; have := HK4.out; have := HK5.out; omega⟩, ⟨by (with_reducible repeat (first | apply Kd.R_alloc | apply Kd.R_drewN | apply Kd.R_drew)); exact HO_8.out⟩, ⟨by repeat (first | (with_reducible first | exact HB.out | apply below_alloc | apply pw_below_drewN | apply below_drew1) | exact HB.out)⟩⟩
                                        · rw [if_neg c37] at H
                                          have c37b0 : ((rd t170 x10_4) == (Go.bits .xor .u8 (rd l0 x10_4) x11_5)) = false := beq_eq_false_iff_ne.mpr c37
                                          have c37b1 : ((rd t170 x10_4) != (Go.bits .xor .u8 (rd l0 x10_4) x11_5)) = true := bne_iff_ne.mpr c37
                                          obtain rfl := Option.some.inj H
                                          obtain ⟨Ao39, co39, eo39⟩ := Kd.R_slice HO_8.out
                                          subst eo39
                                          have p179 : 0 ≤ (x10_4 : Int) := of_decide_eq_true (by first | (with_reducible assumption) | assumption)
                                          have q179 : x10_4 < (t170.length : Int) := of_decide_eq_true (by first | (with_reducible assumption) | assumption)
                                          obtain ⟨ad179, e179, hx179_0⟩ := Kd.at_int (Kd.R_reads' HO_8.out).2.2 x10_4 p179 q179
                                          cases e179
                                          replace p179 := eq_true p179
                                          replace q179 := eq_true q179
                                          have p180 : 0 ≤ (x10_4 : Int) := of_decide_eq_true (by first | (with_reducible assumption) | assumption)
                                          have q180 : x10_4 < (l0.length : Int) := of_decide_eq_true (by first | (with_reducible assumption) | assumption)
                                          obtain ⟨ad180, e180, hx180_0⟩ := Kd.at_int HR0.out x10_4 p180 q180
                                          cases e180
                                          replace hx180_0 := (HB.out.cell (World.block_lt_of_cell? w _ hx180_0)).trans hx180_0
                                          replace p180 := eq_true p180
                                          replace q180 := eq_true q180
                                          go_wp2
                                          repeat (go_quiet (fail); try go_wp2)
                                          go_ret
                                          exact ⟨by first | rfl | (simp [errW_none, errW_some] <;> rfl) | (simp [*, errW_none, errW_some] <;> rfl), by repeat (first | (with_reducible first | exact HB.out | apply below_alloc | apply pw_below_drewN | apply below_drew1) | exact HB.out)⟩
                                      · rw [if_neg c36] at H
                                        exact absurd H (by simp)
                                    · rw [if_neg c35] at H
                                      exact absurd H (by simp)
                                  · rw [if_neg c34] at H
                                    exact absurd H (by simp)
                          · rw [if_neg c24] at H
                            have c24b0 : decide (x10_4 < (l0.length : Int)) = false := decide_eq_false c24
                            clear c24
                            replace H := Option.bind_eq_some_iff.mp H
                            obtain ⟨t174, A400, H⟩ := H
                            replace H : ((crc_Sum.f k4 t174).bind fun t177 => ((crc_Sum.f k4 t170).bind fun t178 => (some ((t177 == t178) == (a2 == 0))))) = some r := H
                            have A40 := Aside0.mk A400
                            clear A400
                            replace H := Option.bind_eq_some_iff.mp H
                            obtain ⟨t177, A410, H⟩ := H
                            replace H : ((crc_Sum.f k4 t170).bind fun t178 => (some ((t177 == t178) == (a2 == 0)))) = some r := H
                            have A41 := Aside0.mk A410
                            clear A410
                            replace H := Option.bind_eq_some_iff.mp H
                            obtain ⟨t178, A420, H⟩ := H
                            replace H : (some ((t177 == t178) == (a2 == 0))) = some r := H
                            have A42 := Aside0.mk A420
                            clear A420
                            obtain rfl := Option.some.inj H
                            go_wp2_with (first | (go_at_call 16; (with_reducible refine (amberlaw01_copied.calls _ _ l0 t174 _ ?side1 ?side2 A40.out).mono ?_); (case side1 => repeat (first | exact (Kd.C_below HR0.out HB.out) | (with_reducible refine Kd.C_alloc ?_ _) | (with_reducible refine Kd.C_drewN ?_ _) | (with_reducible refine Kd.C_drew ?_))); (case side2 => exact HC0.out); rintro e w43 ⟨v175, rfl, ho0, hb⟩; have n0_ := Aside0.mk (Kd.R_elder' (by (with_reducible repeat (first | apply Kd.R_alloc | apply Kd.R_drewN | apply Kd.R_drew)); exact HO_8.out) (Kd.R_base ho0) hb); have n1_ := Aside0.mk (Kd.R_lower (Kd.R_new' ho0 (Kd.R_lt (by (with_reducible repeat (first | apply Kd.R_alloc | apply Kd.R_drewN | apply Kd.R_drew)); exact HO_8.out))) (below_size (by repeat (first | (with_reducible first | exact HB.out | apply below_alloc | apply pw_below_drewN | apply below_drew1) | exact HB.out)))); have n2_ := Aside0.mk (below_step (by repeat (first | (with_reducible first | exact HB.out | apply below_alloc | apply pw_below_drewN | apply below_drew1) | exact HB.out)) hb); clear HO_8; clear HB; have HO_8 := n0_; have HO176 := n1_; have HB := n2_; clear n0_ n1_ n2_; (try clear hb); (try clear hb2); (try clear hk); (try clear hi); (try clear ho0); obtain ⟨Ao44, co44, eo44⟩ := Kd.R_slice HO176.out; subst eo44) | (go_at_call 15; (with_reducible refine (crc_Sum.calls k4 _ _ t174 t177 _ ?side1 ?side2 A41.out).mono ?_); (case side1 => repeat (first | exact (Kd.R_reads' HO176.out).2.2 | (with_reducible refine Kd.C_alloc ?_ _) | (with_reducible refine Kd.C_drewN ?_ _) | (with_reducible refine Kd.C_drew ?_))); (case side2 => exact (Kd.R_reads' HO176.out).2.1); rintro e w' ⟨rfl, ⟨nd, rfl⟩⟩; (try first | exact ⟨rfl, _, World.drewN_drewN _ _ _⟩ | exact ⟨rfl, _, Eq.trans (World.drewN_drewN _ _ _) (congrArg (World.drewN _) (Nat.add_assoc _ _ _))⟩); obtain ⟨Ao45, co45, eo45⟩ := Kd.R_slice HO_8.out; subst eo45) | (go_at_call 15; (with_reducible refine (crc_Sum.calls k4 _ _ t170 t178 _ ?side1 ?side2 A42.out).mono ?_); (case side1 => repeat (first | exact (Kd.R_reads' HO_8.out).2.2 | (with_reducible refine Kd.C_alloc ?_ _) | (with_reducible refine Kd.C_drewN ?_ _) | (with_reducible refine Kd.C_drew ?_))); (case side2 => exact (Kd.R_reads' HO_8.out).2.1); rintro e w' ⟨rfl, ⟨nd, rfl⟩⟩; (try first | exact ⟨rfl, _, World.drewN_drewN _ _ _⟩ | exact ⟨rfl, _, Eq.trans (World.drewN_drewN _ _ _) (congrArg (World.drewN _) (Nat.add_assoc _ _ _))⟩)))
                            repeat (go_quiet (first | (go_at_call 16; (with_reducible refine (amberlaw01_copied.calls _ _ l0 t174 _ ?side1 ?side2 A40.out).mono ?_); (case side1 => repeat (first | exact (Kd.C_below HR0.out HB.out) | (with_reducible refine Kd.C_alloc ?_ _) | (with_reducible refine Kd.C_drewN ?_ _) | (with_reducible refine Kd.C_drew ?_))); (case side2 => exact HC0.out); rintro e w43 ⟨v175, rfl, ho0, hb⟩; have n0_ := Aside0.mk (Kd.R_elder' (by (with_reducible repeat (first | apply Kd.R_alloc | apply Kd.R_drewN | apply Kd.R_drew)); exact HO_8.out) (Kd.R_base ho0) hb); have n1_ := Aside0.mk (Kd.R_lower (Kd.R_new' ho0 (Kd.R_lt (by (with_reducible repeat (first | apply Kd.R_alloc | apply Kd.R_drewN | apply Kd.R_drew)); exact HO_8.out))) (below_size (by repeat (first | (with_reducible first | exact HB.out | apply below_alloc | apply pw_below_drewN | apply below_drew1) | exact HB.out)))); have n2_ := Aside0.mk (below_step (by repeat (first | (with_reducible first | exact HB.out | apply below_alloc | apply pw_below_drewN | apply below_drew1) | exact HB.out)) hb); clear HO_8; clear HB; have HO_8 := n0_; have HO176 := n1_; have HB := n2_; clear n0_ n1_ n2_; (try clear hb); (try clear hb2); (try clear hk); (try clear hi); (try clear ho0); obtain ⟨Ao44, co44, eo44⟩ := Kd.R_slice HO176.out; subst eo44) | (go_at_call 15; (with_reducible refine (crc_Sum.calls k4 _ _ t174 t177 _ ?side1 ?side2 A41.out).mono ?_); (case side1 => repeat (first | exact (Kd.R_reads' HO176.out).2.2 | (with_reducible refine Kd.C_alloc ?_ _) | (with_reducible refine Kd.C_drewN ?_ _) | (with_reducible refine Kd.C_drew ?_))); (case side2 => exact (Kd.R_reads' HO176.out).2.1); rintro e w' ⟨rfl, ⟨nd, rfl⟩⟩; (try first | exact ⟨rfl, _, World.drewN_drewN _ _ _⟩ | exact ⟨rfl, _, Eq.trans (World.drewN_drewN _ _ _) (congrArg (World.drewN _) (Nat.add_assoc _ _ _))⟩); obtain ⟨Ao45, co45, eo45⟩ := Kd.R_slice HO_8.out; subst eo45) | (go_at_call 15; (with_reducible refine (crc_Sum.calls k4 _ _ t170 t178 _ ?side1 ?side2 A42.out).mono ?_); (case side1 => repeat (first | exact (Kd.R_reads' HO_8.out).2.2 | (with_reducible refine Kd.C_alloc ?_ _) | (with_reducible refine Kd.C_drewN ?_ _) | (with_reducible refine Kd.C_drew ?_))); (case side2 => exact (Kd.R_reads' HO_8.out).2.1); rintro e w' ⟨rfl, ⟨nd, rfl⟩⟩; (try first | exact ⟨rfl, _, World.drewN_drewN _ _ _⟩ | exact ⟨rfl, _, Eq.trans (World.drewN_drewN _ _ _) (congrArg (World.drewN _) (Nat.add_assoc _ _ _))⟩))); try go_wp2_with (first | (go_at_call 16; (with_reducible refine (amberlaw01_copied.calls _ _ l0 t174 _ ?side1 ?side2 A40.out).mono ?_); (case side1 => repeat (first | exact (Kd.C_below HR0.out HB.out) | (with_reducible refine Kd.C_alloc ?_ _) | (with_reducible refine Kd.C_drewN ?_ _) | (with_reducible refine Kd.C_drew ?_))); (case side2 => exact HC0.out); rintro e w43 ⟨v175, rfl, ho0, hb⟩; have n0_ := Aside0.mk (Kd.R_elder' (by (with_reducible repeat (first | apply Kd.R_alloc | apply Kd.R_drewN | apply Kd.R_drew)); exact HO_8.out) (Kd.R_base ho0) hb); have n1_ := Aside0.mk (Kd.R_lower (Kd.R_new' ho0 (Kd.R_lt (by (with_reducible repeat (first | apply Kd.R_alloc | apply Kd.R_drewN | apply Kd.R_drew)); exact HO_8.out))) (below_size (by repeat (first | (with_reducible first | exact HB.out | apply below_alloc | apply pw_below_drewN | apply below_drew1) | exact HB.out)))); have n2_ := Aside0.mk (below_step (by repeat (first | (with_reducible first | exact HB.out | apply below_alloc | apply pw_below_drewN | apply below_drew1) | exact HB.out)) hb); clear HO_8; clear HB; have HO_8 := n0_; have HO176 := n1_; have HB := n2_; clear n0_ n1_ n2_; (try clear hb); (try clear hb2); (try clear hk); (try clear hi); (try clear ho0); obtain ⟨Ao44, co44, eo44⟩ := Kd.R_slice HO176.out; subst eo44) | (go_at_call 15; (with_reducible refine (crc_Sum.calls k4 _ _ t174 t177 _ ?side1 ?side2 A41.out).mono ?_); (case side1 => repeat (first | exact (Kd.R_reads' HO176.out).2.2 | (with_reducible refine Kd.C_alloc ?_ _) | (with_reducible refine Kd.C_drewN ?_ _) | (with_reducible refine Kd.C_drew ?_))); (case side2 => exact (Kd.R_reads' HO176.out).2.1); rintro e w' ⟨rfl, ⟨nd, rfl⟩⟩; (try first | exact ⟨rfl, _, World.drewN_drewN _ _ _⟩ | exact ⟨rfl, _, Eq.trans (World.drewN_drewN _ _ _) (congrArg (World.drewN _) (Nat.add_assoc _ _ _))⟩); obtain ⟨Ao45, co45, eo45⟩ := Kd.R_slice HO_8.out; subst eo45) | (go_at_call 15; (with_reducible refine (crc_Sum.calls k4 _ _ t170 t178 _ ?side1 ?side2 A42.out).mono ?_); (case side1 => repeat (first | exact (Kd.R_reads' HO_8.out).2.2 | (with_reducible refine Kd.C_alloc ?_ _) | (with_reducible refine Kd.C_drewN ?_ _) | (with_reducible refine Kd.C_drew ?_))); (case side2 => exact (Kd.R_reads' HO_8.out).2.1); rintro e w' ⟨rfl, ⟨nd, rfl⟩⟩; (try first | exact ⟨rfl, _, World.drewN_drewN _ _ _⟩ | exact ⟨rfl, _, Eq.trans (World.drewN_drewN _ _ _) (congrArg (World.drewN _) (Nat.add_assoc _ _ _))⟩))))
                            go_ret
                            exact ⟨by first | rfl | (simp [errW_none, errW_some] <;> rfl) | (simp [*, errW_none, errW_some] <;> rfl), by repeat (first | (with_reducible first | exact HB.out | apply below_alloc | apply pw_below_drewN | apply below_drew1) | exact HB.out)⟩
  · replace c5 := Bool.eq_false_iff.mpr c5
    subst c5
    have H1 : (some false) = some r := by rw [if_neg (show ¬ (false = true) by decide)] at H; exact H
    clear H
    have H := H1
    clear H1
    obtain rfl := Option.some.inj H
    go_enter Try.func8, Try.ntmps8
    go_wp2_with (first | (go_at_call 20; (with_reducible refine (amberlaw01_known.calls k  false _ A4.out).mono ?_); rintro e w46 ⟨rfl, hb⟩; have n0_ := Aside0.mk (below_step (by repeat (first | (with_reducible first | exact HB.out | apply below_alloc | apply pw_below_drewN | apply below_drew1) | exact HB.out)) hb); clear HB; have HB := n0_; clear n0_; (try clear hb); (try clear hb2); (try clear hk); (try clear hi)))
    repeat (go_quiet (first | (go_at_call 20; (with_reducible refine (amberlaw01_known.calls k  false _ A4.out).mono ?_); rintro e w46 ⟨rfl, hb⟩; have n0_ := Aside0.mk (below_step (by repeat (first | (with_reducible first | exact HB.out | apply below_alloc | apply pw_below_drewN | apply below_drew1) | exact HB.out)) hb); clear HB; have HB := n0_; clear n0_; (try clear hb); (try clear hb2); (try clear hk); (try clear hi))); try go_wp2_with (first | (go_at_call 20; (with_reducible refine (amberlaw01_known.calls k  false _ A4.out).mono ?_); rintro e w46 ⟨rfl, hb⟩; have n0_ := Aside0.mk (below_step (by repeat (first | (with_reducible first | exact HB.out | apply below_alloc | apply pw_below_drewN | apply below_drew1) | exact HB.out)) hb); clear HB; have HB := n0_; clear n0_; (try clear hb); (try clear hb2); (try clear hk); (try clear hi))))
    go_ret
    exact ⟨by first | rfl | (simp [errW_none, errW_some] <;> rfl) | (simp [*, errW_none, errW_some] <;> rfl), by repeat (first | (with_reducible first | exact HB.out | apply below_alloc | apply pw_below_drewN | apply below_drew1) | exact HB.out)⟩

/-- THE ONE PURE STATEMENT of amberlaw01_CrcTold: yours. -/
def amberlaw01_CrcTold.Pure : Prop := ∀ (l0 : List Int) (a1 : Int) (a2 : Int), l0.length ≤ maxLen → l0.length * 1 ≤ 140737488351232 → (∀ x ∈ l0, (Lit.int .u8 x).wf = true) → (Lit.int .i64 a1).wf = true → (Lit.int .u32 a2).wf = true → ∃ k, amberlaw01_CrcTold.f k l0 a1 a2 = some true
theorem amberlaw01_CrcTold.walk (P : amberlaw01_CrcTold.Pure) (a0 : Option Addr) (len0 cap0 : Nat) (z0 : List Int) (a1 : Int) (a2 : Int) (w : World) (w0 : (a0 = none ∧ len0 = 0 ∧ cap0 = 0 ∧ z0 = []) ∨ ∃ x, a0 = some x ∧ len0 ≤ cap0 ∧ cap0 ≤ maxLen ∧ z0.length = cap0 ∧ (∀ i, i < z0.length → w.cell? (x.add i) = some (.int .u8 (z0.getD i 0))) ∧ ∀ n ∈ z0, (Lit.int .u8 n).wf = true) (y0 : len0 * 1 ≤ 140737488351232) (w1 : (Lit.int .i64 a1).wf = true) (w2 : (Lit.int .u32 a2).wf = true) :
    Calls Try.prog 8 #[.slice a0 len0 cap0, .int .i64 a1, .int .u32 a2] w fun e w' => e = .returned (.bool true) ∧ Below w.heap.size w w' := by
  obtain ⟨l0, rfl, hr0, hm0, hw0, hc0⟩ := ReadsInt.ofRowC w0
  obtain ⟨k, h⟩ := P l0 a1 a2 hm0 y0 hw0 w1 w2
  refine (amberlaw01_CrcTold.calls k _ _ l0 a1 a2 true w (Kd.C_of_reads (d := (0 : Int)) (h1 := fun _ => rfl) hr0) hc0 h).mono ?_
  rintro e w' ⟨rfl, hd⟩
  exact ⟨rfl, hd⟩

end Go.Proofs.Ytcfnpippmdijaaa.PAll
