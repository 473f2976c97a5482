-- Written by this session's own program (wip/px_patch.py over a scratch copy of the kit's print), not by the kit's print.sh
import Derived.Test.YtcfnpippmdijaaaPMorex0
import Derived.Test.YtcfnpippmdijaaaPMorex3
import Derived.Test.YtcfnpippmdijaaaPMorex4
namespace Go.Proofs.Ytcfnpippmdijaaa.PMore
open Go.RowKit Go.Proofs.Ytcfnpippmdijaaa.PAll Go.Proofs.Ytcfnpippmdijaaa.PGiven Go.Proofs.YtcfnpippmdijaaaW.PrintWords Go.Proofs.YtcfnpippmdijaaaW.PrintLast Go.Proofs.YtcfnpippmdijaaaW.PrintMore
attribute [local go_sem] max2_int min2_int max_two min_two max_three min_three max_four min_four   -- for this text's walks alone
attribute [local go_sem high] unary_xor_u32
set_option linter.unusedVariables false
set_option linter.unusedSimpArgs false

/-! ### amberlaw01_CrcPieces: function 7 -/
mutual
def amberlaw01_CrcPieces.l0 : Nat → List Int → List Int → List Int → Int → Int → Int → Option (Bool)
  | 0, _, _, _, _, _, _ => none
  | k + 1, x0, x1, x6, x7, x201000, x201001 => if x7 < (x1.length : Int) then (if 0 ≤ x7 then (if (rd x1 x7) < 0 then (amberlaw01_CrcPieces.j1 k x0 x1 x6 x7 (wrap64 (-(wrap64 ((rd x1 x7) + 1)))) x201000 x201001) else (amberlaw01_CrcPieces.j1 k x0 x1 x6 x7 (rd x1 x7) x201000 x201001)) else (none)) else ((amberlaw01_copied.f x6).bind fun t228 => ((crc_Digest_Write.f k x201000 x201001 t228).bind fun bt231 => ((crc_Digest_Len.f bt231.1 bt231.2).bind fun bt233 => (if bt233.1 = (x0.length : Int) then ((crc_Digest_Sum.f bt233.2.1 bt233.2.2).bind fun bt236 => ((amberlaw01_copied.f x0).bind fun t239 => ((crc_Sum.f k t239).bind fun t242 => (amberlaw01_CrcPieces.j2 k (bt236.1 != t242) bt236.2.1 bt236.2.2)))) else (amberlaw01_CrcPieces.j2 k true bt233.2.1 bt233.2.2)))))
def amberlaw01_CrcPieces.j1 : Nat → List Int → List Int → List Int → Int → Int → Int → Int → Option (Bool)
  | 0, _, _, _, _, _, _, _ => none
  | k + 1, x0, x1, x6, x7, x8, x201000, x201001 => if (wrap64 ((x6.length : Int) + 1)) = 0 then (none) else (if 0 ≤ (Int.tmod x8 (wrap64 ((x6.length : Int) + 1))) then (if (Int.tmod x8 (wrap64 ((x6.length : Int) + 1))) ≤ (x6.length : Int) then ((amberlaw01_copied.f (x6.take ((Int.tmod x8 (wrap64 ((x6.length : Int) + 1))) : Int).toNat)).bind fun t209 => ((crc_Digest_Write.f k x201000 x201001 t209).bind fun bt212 => ((some (x6.drop ((Int.tmod x8 (wrap64 ((x6.length : Int) + 1))) : Int).toNat : List Int)).bind fun y214 => ((crc_Digest_Len.f bt212.1 bt212.2).bind fun bt217 => (if (wrap64 (bt217.1 + (y214.length : Int))) = (x0.length : Int) then ((crc_Digest_Sum.f bt217.2.1 bt217.2.2).bind fun bt220 => (if 0 ≤ (wrap64 ((x0.length : Int) - (y214.length : Int))) then (if (wrap64 ((x0.length : Int) - (y214.length : Int))) ≤ (x0.length : Int) then ((amberlaw01_copied.f (x0.take ((wrap64 ((x0.length : Int) - (y214.length : Int))) : Int).toNat)).bind fun t224 => ((crc_Sum.f k t224).bind fun t227 => (if bt220.1 = t227 then (amberlaw01_CrcPieces.l0 k x0 x1 y214 (wrap64 (x7 + 1)) bt220.2.1 bt220.2.2) else (some false)))) else (none)) else (none))) else (some false)))))) else (none)) else (none))
def amberlaw01_CrcPieces.j2 : Nat → Bool → Int → Int → Option (Bool)
  | 0, _, _, _ => none
  | k + 1, x83, x201000, x201001 => if x83 = true then (some false) else ((crc_Digest_Reset.f x201000 x201001).bind fun bt243 => ((crc_Digest_Len.f bt243.1 bt243.2).bind fun bt245 => (if bt245.1 = 0 then ((crc_Digest_Sum.f bt245.2.1 bt245.2.2).bind fun bt248 => (some (bt248.1 == 0))) else (some false))))
end
def amberlaw01_CrcPieces.f (k : Nat) (l0 : List Int) (l1 : List Int) : Option (Bool) := (amberlaw01_known.f k).bind fun t197 => (if t197 = true then ((crc_New.f).bind fun bt198 => ((amberlaw01_copied.f l0).bind fun t201 => (amberlaw01_CrcPieces.l0 k l0 l1 t201 0 bt198.1 bt198.2))) else (some false))
theorem amberlaw01_CrcPieces.mono_l : ∀ k, (∀ y0 y1 y2 y3 y4 y5, LeO (amberlaw01_CrcPieces.l0 k y0 y1 y2 y3 y4 y5) (amberlaw01_CrcPieces.l0 (k + 1) y0 y1 y2 y3 y4 y5)) ∧ (∀ y0 y1 y2 y3 y4 y5 y6, LeO (amberlaw01_CrcPieces.j1 k y0 y1 y2 y3 y4 y5 y6) (amberlaw01_CrcPieces.j1 (k + 1) y0 y1 y2 y3 y4 y5 y6)) ∧ (∀ y0 y1 y2, LeO (amberlaw01_CrcPieces.j2 k y0 y1 y2) (amberlaw01_CrcPieces.j2 (k + 1) y0 y1 y2))
  | 0 => ⟨fun _ _ _ _ _ _ r h => by simp [amberlaw01_CrcPieces.l0] at h, fun _ _ _ _ _ _ _ r h => by simp [amberlaw01_CrcPieces.j1] at h, fun _ _ _ r h => by simp [amberlaw01_CrcPieces.j2] at h⟩
  | k + 1 => by
    obtain ⟨ih0, ih1, ih2⟩ := amberlaw01_CrcPieces.mono_l k
    refine ⟨?_, ?_, ?_⟩
    · intro y0 y1 y2 y3 y4 y5
      unfold amberlaw01_CrcPieces.l0
      repeat' first
      | (with_reducible exact ih0 _ _ _ _ _ _)
      | (with_reducible exact ih1 _ _ _ _ _ _ _)
      | (with_reducible exact ih2 _ _ _)
      | (with_reducible exact amberlaw01_known.mono _)
      | (with_reducible exact crc_Digest_Write.mono _ _ _ _)
      | (with_reducible exact crc_Sum.mono _ _)
      | (with_reducible exact LeO.refl _)
      | (with_reducible exact LeO.none _)
      | (with_reducible refine LeO.ite ?_ ?_)
      | (with_reducible refine LeO.bind ?_ (fun _ => ?_))
      | exact ih0 _ _ _ _ _ _
      | exact ih1 _ _ _ _ _ _ _
      | exact ih2 _ _ _
      | exact amberlaw01_known.mono _
      | exact crc_Digest_Write.mono _ _ _ _
      | exact crc_Sum.mono _ _
      | exact LeO.none _
      | refine LeO.ite ?_ ?_
      | refine LeO.bind ?_ (fun _ => ?_)
    · intro y0 y1 y2 y3 y4 y5 y6
      unfold amberlaw01_CrcPieces.j1
      repeat' first
      | (with_reducible exact ih0 _ _ _ _ _ _)
      | (with_reducible exact ih1 _ _ _ _ _ _ _)
      | (with_reducible exact ih2 _ _ _)
      | (with_reducible exact amberlaw01_known.mono _)
      | (with_reducible exact crc_Digest_Write.mono _ _ _ _)
      | (with_reducible exact crc_Sum.mono _ _)
      | (with_reducible exact LeO.refl _)
      | (with_reducible exact LeO.none _)
      | (with_reducible refine LeO.ite ?_ ?_)
      | (with_reducible refine LeO.bind ?_ (fun _ => ?_))
      | exact ih0 _ _ _ _ _ _
      | exact ih1 _ _ _ _ _ _ _
      | exact ih2 _ _ _
      | exact amberlaw01_known.mono _
      | exact crc_Digest_Write.mono _ _ _ _
      | exact crc_Sum.mono _ _
      | exact LeO.none _
      | refine LeO.ite ?_ ?_
      | refine LeO.bind ?_ (fun _ => ?_)
    · intro y0 y1 y2
      unfold amberlaw01_CrcPieces.j2
      repeat' first
      | (with_reducible exact ih0 _ _ _ _ _ _)
      | (with_reducible exact ih1 _ _ _ _ _ _ _)
      | (with_reducible exact ih2 _ _ _)
      | (with_reducible exact amberlaw01_known.mono _)
      | (with_reducible exact crc_Digest_Write.mono _ _ _ _)
      | (with_reducible exact crc_Sum.mono _ _)
      | (with_reducible exact LeO.refl _)
      | (with_reducible exact LeO.none _)
      | (with_reducible refine LeO.ite ?_ ?_)
      | (with_reducible refine LeO.bind ?_ (fun _ => ?_))
      | exact ih0 _ _ _ _ _ _
      | exact ih1 _ _ _ _ _ _ _
      | exact ih2 _ _ _
      | exact amberlaw01_known.mono _
      | exact crc_Digest_Write.mono _ _ _ _
      | exact crc_Sum.mono _ _
      | exact LeO.none _
      | refine LeO.ite ?_ ?_
      | refine LeO.bind ?_ (fun _ => ?_)
theorem amberlaw01_CrcPieces.mono : ∀ a0 a1 k, LeO (amberlaw01_CrcPieces.f k a0 a1) (amberlaw01_CrcPieces.f (k + 1) a0 a1) := by
  intro a0 a1 k
  obtain ⟨ih0, ih1, ih2⟩ := amberlaw01_CrcPieces.mono_l k
  unfold amberlaw01_CrcPieces.f
  repeat' first
      | (with_reducible exact ih0 _ _ _ _ _ _)
      | (with_reducible exact ih1 _ _ _ _ _ _ _)
      | (with_reducible exact ih2 _ _ _)
      | (with_reducible exact amberlaw01_known.mono _)
      | (with_reducible exact crc_Digest_Write.mono _ _ _ _)
      | (with_reducible exact crc_Sum.mono _ _)
      | (with_reducible exact LeO.refl _)
      | (with_reducible exact LeO.none _)
      | (with_reducible refine LeO.ite ?_ ?_)
      | (with_reducible refine LeO.bind ?_ (fun _ => ?_))
      | exact ih0 _ _ _ _ _ _
      | exact ih1 _ _ _ _ _ _ _
      | exact ih2 _ _ _
      | exact amberlaw01_known.mono _
      | exact crc_Digest_Write.mono _ _ _ _
      | exact crc_Sum.mono _ _
      | exact LeO.none _
      | refine LeO.ite ?_ ?_
      | refine LeO.bind ?_ (fun _ => ?_)
def amberlaw01_CrcPieces.T16 : Bool × List (List Nat × List Nat) := (true, [([], []), ([0], [0]), ([], []), ([2], [2]), ([1, 3], [1, 3]), ([], []), ([5], [5]), ([4, 6], [4, 6]), ([7, 1], [7]), ([8], [8]), ([9, 8, 8], [8, 9]), ([8], [8]), ([8], [8]), ([12, 8], [8, 12]), ([8], [8]), ([14, 8], [8, 14]), ([13, 15, 8], [8, 13, 15]), ([11, 16, 8], [8, 11, 16]), ([17, 10, 8], [8, 17]), ([18, 18, 8], [8, 18]), ([10, 19, 8], [8, 10, 19]), ([8, 20], [8, 20])])
def amberlaw01_CrcPieces.B16 : List Nat := [0, 1, 0, 4, 15, 0, 32, 127, 255, 511, 1023, 511, 511, 4607, 511, 16895, 61951, 129535, 262143, 524287, 1048575, 2097151]
theorem amberlaw01_CrcPieces.tab16 : rtab .any (opsOf Try.f7 16) = amberlaw01_CrcPieces.T16 := by kernel_rfl
theorem amberlaw01_CrcPieces.bits16 : waitsOk amberlaw01_CrcPieces.T16.2 amberlaw01_CrcPieces.B16 = true := by kernel_rfl
set_option maxHeartbeats 8000000 in
set_option maxRecDepth 100000 in
theorem amberlaw01_CrcPieces.calls (k : Nat) (A0 : Option Addr) (c0 : Nat) (l0 : List Int) (A1 : Option Addr) (c1 : Nat) (l1 : List Int) (r : Bool) (w : World) (hr0 : Kd.C (Kd.int .u8) w A0 l0.length l0) (hc0 : l0.length ≤ c0) (hr1 : Kd.C (Kd.int .i64) w A1 l1.length l1) (hc1 : l1.length ≤ c1) (h : amberlaw01_CrcPieces.f k l0 l1 = some r) :
    Calls Try.prog 7 #[.slice A0 l0.length c0, .slice A1 l1.length c1] w fun e w' => e = .returned (.bool r) ∧ Below w.heap.size w w' := by
  have HR0 := Aside0.mk hr0
  have HC0 := Aside0.mk hc0
  clear hr0 hc0
  have HR1 := Aside0.mk hr1
  have HC1 := Aside0.mk hc1
  clear hr1 hc1
  have HB := Aside0.mk (Below.refl w.heap.size w)
  have H : ((amberlaw01_known.f k).bind fun t197 => (if t197 = true then ((crc_New.f).bind fun bt198 => ((amberlaw01_copied.f l0).bind fun t201 => (amberlaw01_CrcPieces.l0 k l0 l1 t201 0 bt198.1 bt198.2))) else (some false))) = some r := h
  clear h
  replace H := Option.bind_eq_some_iff.mp H
  obtain ⟨t197, A30, H⟩ := H
  replace H : (if t197 = true then ((crc_New.f).bind fun bt198 => ((amberlaw01_copied.f l0).bind fun t201 => (amberlaw01_CrcPieces.l0 k l0 l1 t201 0 bt198.1 bt198.2))) else (some false)) = some r := H
  have A3 := Aside0.mk A30
  clear A30
  by_cases c4 : t197 = true
  · subst c4
    have H1 : ((crc_New.f).bind fun bt198 => ((amberlaw01_copied.f l0).bind fun t201 => (amberlaw01_CrcPieces.l0 k l0 l1 t201 0 bt198.1 bt198.2))) = some r := by rw [if_pos rfl] at H; exact H
    clear H
    have H := H1
    clear H1
    replace H := Option.bind_eq_some_iff.mp H
    obtain ⟨⟨t198, t199⟩, A50, H⟩ := H
    replace H : ((amberlaw01_copied.f l0).bind fun t201 => (amberlaw01_CrcPieces.l0 k l0 l1 t201 0 t198 t199)) = some r := H
    have A5 := Aside0.mk A50
    clear A50
    replace H := Option.bind_eq_some_iff.mp H
    obtain ⟨t201, A60, H⟩ := H
    replace H : (amberlaw01_CrcPieces.l0 k l0 l1 t201 0 t198 t199) = some r := H
    have A6 := Aside0.mk A60
    clear A60
    have H' := Aside0.mk H
    clear H
    go_enter Try.func7, Try.ntmps7
    go_wp2_with (first | ((with_reducible refine gate_callee (f := 20) rfl ?_); refine goesL_ (some 9) rfl rfl Try.func20 (by kernel_rfl) rfl #[] rfl (by (try simp only [List.map_toArray, List.map_cons, List.map_nil]); first | done | rfl | (simp only [List.length_drop, List.length_take]; rfl)) ?_; (with_reducible refine (amberlaw01_known.calls k  true _ A3.out).mono ?_); rintro e w7 ⟨rfl, hb⟩; refine ⟨_, rfl, ?_⟩; have n0_ := Aside0.mk (below_step (by repeat (first | (with_reducible first | exact HB.out | apply below_alloc | apply pw_below_drewN | apply below_drew1) | exact HB.out)) hb); clear HB; have HB := n0_; clear n0_; (try clear hb); (try clear hb2); (try clear hk); (try clear hi)) | ((with_reducible refine gate_callee (f := 22) rfl ?_); refine goesL_ (some 11) rfl rfl Try.func22 (by kernel_rfl) rfl #[] rfl (by (try simp only [List.map_toArray, List.map_cons, List.map_nil]); first | done | rfl | (simp only [List.length_drop, List.length_take]; rfl)) ?_; (with_reducible refine (crc_New.calls  t198 t199 w _ ?side1 A5.out).mono ?_); (case side1 => repeat (first | (with_reducible first | exact HB.out | apply below_alloc | apply pw_below_drewN | apply below_drew1) | exact HB.out)); rintro e w8 ⟨g200, rfl, hi, hb, hb2⟩; refine ⟨_, rfl, ?_⟩; have n0_ := Aside0.mk (hb); have n1_ := Aside0.mk (hi); clear HB; have HB := n0_; have HI200 := n1_; clear n0_ n1_; (try clear hb); (try clear hb2); (try clear hk); (try clear hi)) | ((with_reducible refine gate_callee (f := 16) rfl ?_); refine goesL_ (some 15) rfl rfl Try.func16 (by kernel_rfl) rfl #[.slice A0 l0.length c0] rfl (by (try simp only [List.map_toArray, List.map_cons, List.map_nil]); first | done | rfl | (simp only [List.length_drop, List.length_take]; rfl)) ?_; (with_reducible refine (amberlaw01_copied.calls _ _ l0 t201 _ ?side1 ?side2 A6.out).mono ?_); (case side1 => repeat (first | exact (Kd.C_below HR0.out HB.out) | (with_reducible refine Kd.C_alloc ?_ _) | (with_reducible refine Kd.C_drewN ?_ _) | (with_reducible refine Kd.C_drew ?_))); (case side2 => exact HC0.out); rintro e w9 ⟨v202, rfl, ho0, hb⟩; refine ⟨_, rfl, ?_⟩; have n0_ := Aside0.mk (Kd.R_lower ho0 (below_size (by repeat (first | (with_reducible first | exact HB.out | apply below_alloc | apply pw_below_drewN | apply below_drew1 | refine below_set ?_ (IsS60.ge HI200.out)) | exact HB.out)))); have n1_ := Aside0.mk (IsS60.below (by repeat (first | (with_reducible first | exact HI200.out | apply IsS60.alloc | apply IsS60.drewN | apply IsS60.drew | apply IsS60.set_0 | apply IsS60.set_1) | exact HI200.out)) hb); have n2_ := Aside0.mk (below_step (by repeat (first | (with_reducible first | exact HB.out | apply below_alloc | apply pw_below_drewN | apply below_drew1 | refine below_set ?_ (IsS60.ge HI200.out)) | exact HB.out)) hb); clear HI200; clear HB; have HO203 := n0_; have HI200 := n1_; have HB := n2_; clear n0_ n1_ n2_; (try clear hb); (try clear hb2); (try clear hk); (try clear hi); (try clear ho0)))
    go_loopg [6, 7] k (fun kq v6 v7 w' => ∃ (x6_1 : List Int) (x7_1 : Int) (x201000_1 : Int) (x201001_1 : Int), v7 = .int .i64 x7_1 ∧ Aside0 (amberlaw01_CrcPieces.l0 kq l0 l1 x6_1 x7_1 x201000_1 x201001_1 = some r) ∧ Aside0 (kq ≤ k) ∧ Aside0 (Kd.Q (Kd.int .u8) 5 w' w.heap.size (fun _ => True) v6 x6_1) ∧ Aside0 (IsS60 w w' g200 x201000_1 x201001_1) ∧ Aside0 (Below w.heap.size w w'))
    case atStart => exact ⟨(t201), (0), (t198), (t199), (by first | rfl | (simp; done) | (simp [*]; done)), H', ⟨Nat.le_refl _⟩, ⟨Kd.Q_of_R (by (with_reducible repeat (first | apply Kd.R_alloc | apply Kd.R_drewN | apply Kd.R_drew)); exact HO203.out)⟩, ⟨by repeat (first | (with_reducible first | exact HI200.out | apply IsS60.alloc | apply IsS60.drewN | apply IsS60.drew | apply IsS60.set_0 | apply IsS60.set_1) | exact HI200.out)⟩, ⟨by repeat (first | (with_reducible first | exact HB.out | apply below_alloc | apply pw_below_drewN | apply below_drew1 | refine below_set ?_ (IsS60.ge HI200.out)) | exact HB.out)⟩⟩
    case round =>
      clear H'
      try clear c1
      try clear c2
      try clear p2
      try clear c4
      try clear c7
      obtain ⟨x6_1, x7_1, x201000_1, x201001_1, rfl, HA, HK1, HO_6, HI200, HB⟩ := hrel
      cases gk with
      | zero => exact absurd HA.out (by simp [amberlaw01_CrcPieces.l0])
      | succ k1 =>
        have H := HA.out
        clear HA
        simp only [amberlaw01_CrcPieces.l0] at H
        by_cases c10 : x7_1 < (l1.length : Int)
        · rw [if_pos c10] at H
          have c10b0 : decide (x7_1 < (l1.length : Int)) = true := decide_eq_true c10
          clear c10
          by_cases c11 : 0 ≤ x7_1
          · rw [if_pos c11] at H
            have c11b0 : decide (0 ≤ x7_1) = true := decide_eq_true c11
            clear c11
            have HC12 := Aside0.mk H
            clear H
            have p204 : 0 ≤ (x7_1 : Int) := of_decide_eq_true (by first | (with_reducible assumption) | assumption)
            have q204 : x7_1 < (l1.length : Int) := of_decide_eq_true (by first | (with_reducible assumption) | assumption)
            obtain ⟨ad204, e204, hx204_0⟩ := Kd.at_int HR1.out x7_1 p204 q204
            cases e204
            replace hx204_0 := (HB.out.cell (World.block_lt_of_cell? w _ hx204_0)).trans hx204_0
            replace p204 := eq_true p204
            replace q204 := eq_true q204
            go_upto_if 27 with (fail)
            go_cut [8] (fun v8 wc => ∃ (kq : Nat) (x8_11 : Int), v8 = .int .i64 x8_11 ∧ Aside0 (amberlaw01_CrcPieces.j1 kq l0 l1 x6_1 x7_1 x8_11 x201000_1 x201001_1 = some r) ∧ Aside0 (kq ≤ k1) ∧ Aside0 (Kd.Q (Kd.int .u8) 5 wc w.heap.size (fun _ => True) u6 x6_1) ∧ Aside0 (IsS60 w wc g200 x201000_1 x201001_1) ∧ Aside0 (Below w.heap.size w wc))
            case first =>
              have H := HC12.out
              clear HC12
              by_cases c13 : (rd l1 x7_1) < 0
              · rw [if_pos c13] at H
                have c13b0 : decide ((rd l1 x7_1) < 0) = true := decide_eq_true c13
                clear c13
                (first | rw [c13b0] | (simp only [i64_w, i32_w]; rw [c13b0]) | skip)
                have H' := Aside0.mk H
                clear H
                go_wp2
                go_meet
                case rel => exact ⟨_, (wrap64 (-(wrap64 ((rd l1 x7_1) + 1)))), (by first | rfl | (simp; done) | (simp [*]; done)), H', ⟨by have := HK1.out; first | omega | exact Nat.le_refl _⟩, ⟨by (with_reducible repeat (first | apply Kd.Q_alloc | apply Kd.Q_drewN | apply Kd.Q_drew)); exact HO_6.out⟩, ⟨by repeat (first | (with_reducible first | exact HI200.out | apply IsS60.alloc | apply IsS60.drewN | apply IsS60.drew | apply IsS60.set_0 | apply IsS60.set_1) | exact HI200.out)⟩, ⟨by repeat (first | (with_reducible first | exact HB.out | apply below_alloc | apply pw_below_drewN | apply below_drew1 | refine below_set ?_ (IsS60.ge HI200.out)) | exact HB.out)⟩⟩
              · rw [if_neg c13] at H
                have c13b0 : decide ((rd l1 x7_1) < 0) = false := decide_eq_false c13
                clear c13
                (first | rw [c13b0] | (simp only [i64_w, i32_w]; rw [c13b0]) | skip)
                have H' := Aside0.mk H
                clear H
                go_wp2
                go_meet
                case rel => exact ⟨_, (rd l1 x7_1), (by first | rfl | (simp; done) | (simp [*]; done)), H', ⟨by have := HK1.out; first | omega | exact Nat.le_refl _⟩, ⟨by (with_reducible repeat (first | apply Kd.Q_alloc | apply Kd.Q_drewN | apply Kd.Q_drew)); exact HO_6.out⟩, ⟨by repeat (first | (with_reducible first | exact HI200.out | apply IsS60.alloc | apply IsS60.drewN | apply IsS60.drew | apply IsS60.set_0 | apply IsS60.set_1) | exact HI200.out)⟩, ⟨by repeat (first | (with_reducible first | exact HB.out | apply below_alloc | apply pw_below_drewN | apply below_drew1 | refine below_set ?_ (IsS60.ge HI200.out)) | exact HB.out)⟩⟩
            case rest =>
              clear HC12
              try clear c1
              try clear c2
              try clear p2
              try clear q2
              try clear hx2
              try clear c4
              try clear p6
              try clear c7
              try clear c10
              try clear c10b0
              try clear c11
              try clear c11b0
              try clear c13
              try clear c13b0
              try clear hx204_0
              try clear p2
              try clear p204
              try clear q204
              obtain ⟨kq, x8_11, rfl, HA, HJ11, HO_6, HI200, HB⟩ := hcut
              cases kq with
              | zero => exact absurd HA.out (by simp [amberlaw01_CrcPieces.j1])
              | succ kj11 =>
                have H := HA.out
                clear HA
                simp only [amberlaw01_CrcPieces.j1] at H
                by_cases c14 : (wrap64 ((x6_1.length : Int) + 1)) = 0
                · rw [if_pos c14] at H
                  exact absurd H (by simp)
                · rw [if_neg c14] at H
                  have c14b0 : ((wrap64 ((x6_1.length : Int) + 1)) == 0) = false := beq_eq_false_iff_ne.mpr c14
                  have c14b1 : ((wrap64 ((x6_1.length : Int) + 1)) != 0) = true := bne_iff_ne.mpr c14
                  obtain ⟨ji15, hji15⟩ : ∃ j_ : Int, (Int.tmod x8_11 (wrap64 ((x6_1.length : Int) + 1))) = j_ := ⟨_, rfl⟩
                  replace H : (if 0 ≤ (ji15) then (if (ji15) ≤ (x6_1.length : Int) then ((amberlaw01_copied.f (x6_1.take ((ji15) : Int).toNat)).bind fun t209 => ((crc_Digest_Write.f kj11 x201000_1 x201001_1 t209).bind fun bt212 => ((some (x6_1.drop ((ji15) : Int).toNat : List Int)).bind fun y214 => ((crc_Digest_Len.f bt212.1 bt212.2).bind fun bt217 => (if (wrap64 (bt217.1 + (y214.length : Int))) = (l0.length : Int) then ((crc_Digest_Sum.f bt217.2.1 bt217.2.2).bind fun bt220 => (if 0 ≤ (wrap64 ((l0.length : Int) - (y214.length : Int))) then (if (wrap64 ((l0.length : Int) - (y214.length : Int))) ≤ (l0.length : Int) then ((amberlaw01_copied.f (l0.take ((wrap64 ((l0.length : Int) - (y214.length : Int))) : Int).toNat)).bind fun t224 => ((crc_Sum.f kj11 t224).bind fun t227 => (if bt220.1 = t227 then (amberlaw01_CrcPieces.l0 kj11 l0 l1 y214 (wrap64 (x7_1 + 1)) bt220.2.1 bt220.2.2) else (some false)))) else (none)) else (none))) else (some false)))))) else (none)) else (none)) = some r := by first | (rw [hji15] at H; exact H) | (simp only [hji15] at H ⊢; exact H)
                  by_cases c16 : 0 ≤ (ji15)
                  · rw [if_pos c16] at H
                    have c16b0 := eq_true c16
                    have c16b1 : decide (0 ≤ (ji15)) = true := decide_eq_true c16
                    clear c16
                    by_cases c17 : (ji15) ≤ (x6_1.length : Int)
                    · rw [if_pos c17] at H
                      have c17b0 := eq_true c17
                      have c17b1 : decide ((ji15) ≤ (x6_1.length : Int)) = true := decide_eq_true c17
                      clear c17
                      obtain ⟨y205, hy205⟩ : ∃ y_ : List Int, y_ = (x6_1.take ((ji15) : Int).toNat) := ⟨_, rfl⟩
                      replace H : ((amberlaw01_copied.f y205).bind fun t209 => ((crc_Digest_Write.f kj11 x201000_1 x201001_1 t209).bind fun bt212 => ((some (x6_1.drop ((ji15) : Int).toNat : List Int)).bind fun y214 => ((crc_Digest_Len.f bt212.1 bt212.2).bind fun bt217 => (if (wrap64 (bt217.1 + (y214.length : Int))) = (l0.length : Int) then ((crc_Digest_Sum.f bt217.2.1 bt217.2.2).bind fun bt220 => (if 0 ≤ (wrap64 ((l0.length : Int) - (y214.length : Int))) then (if (wrap64 ((l0.length : Int) - (y214.length : Int))) ≤ (l0.length : Int) then ((amberlaw01_copied.f (l0.take ((wrap64 ((l0.length : Int) - (y214.length : Int))) : Int).toNat)).bind fun t224 => ((crc_Sum.f kj11 t224).bind fun t227 => (if bt220.1 = t227 then (amberlaw01_CrcPieces.l0 kj11 l0 l1 y214 (wrap64 (x7_1 + 1)) bt220.2.1 bt220.2.2) else (some false)))) else (none)) else (none))) else (some false)))))) = some r := by first | (rw [hy205]; with_reducible exact H) | (have H2_ := (Option.bind_some _ _).symm.trans H; rw [hy205]; with_reducible exact H2_) | (have H2_ := (Option.bind_some _ _).symm.trans H; with_reducible exact H2_) | with_reducible exact H | (rw [hy205]; exact H) | exact H
                      have Ny205 := Aside0.mk hy205
                      clear hy205
                      replace H := Option.bind_eq_some_iff.mp H
                      obtain ⟨t209, A180, H⟩ := H
                      replace H : ((crc_Digest_Write.f kj11 x201000_1 x201001_1 t209).bind fun bt212 => ((some (x6_1.drop ((ji15) : Int).toNat : List Int)).bind fun y214 => ((crc_Digest_Len.f bt212.1 bt212.2).bind fun bt217 => (if (wrap64 (bt217.1 + (y214.length : Int))) = (l0.length : Int) then ((crc_Digest_Sum.f bt217.2.1 bt217.2.2).bind fun bt220 => (if 0 ≤ (wrap64 ((l0.length : Int) - (y214.length : Int))) then (if (wrap64 ((l0.length : Int) - (y214.length : Int))) ≤ (l0.length : Int) then ((amberlaw01_copied.f (l0.take ((wrap64 ((l0.length : Int) - (y214.length : Int))) : Int).toNat)).bind fun t224 => ((crc_Sum.f kj11 t224).bind fun t227 => (if bt220.1 = t227 then (amberlaw01_CrcPieces.l0 kj11 l0 l1 y214 (wrap64 (x7_1 + 1)) bt220.2.1 bt220.2.2) else (some false)))) else (none)) else (none))) else (some false))))) = some r := H
                      have A18 := Aside0.mk A180
                      clear A180
                      replace H := Option.bind_eq_some_iff.mp H
                      obtain ⟨⟨t212, t213⟩, A190, H⟩ := H
                      replace H : ((some (x6_1.drop ((ji15) : Int).toNat : List Int)).bind fun y214 => ((crc_Digest_Len.f t212 t213).bind fun bt217 => (if (wrap64 (bt217.1 + (y214.length : Int))) = (l0.length : Int) then ((crc_Digest_Sum.f bt217.2.1 bt217.2.2).bind fun bt220 => (if 0 ≤ (wrap64 ((l0.length : Int) - (y214.length : Int))) then (if (wrap64 ((l0.length : Int) - (y214.length : Int))) ≤ (l0.length : Int) then ((amberlaw01_copied.f (l0.take ((wrap64 ((l0.length : Int) - (y214.length : Int))) : Int).toNat)).bind fun t224 => ((crc_Sum.f kj11 t224).bind fun t227 => (if bt220.1 = t227 then (amberlaw01_CrcPieces.l0 kj11 l0 l1 y214 (wrap64 (x7_1 + 1)) bt220.2.1 bt220.2.2) else (some false)))) else (none)) else (none))) else (some false)))) = some r := H
                      have A19 := Aside0.mk A190
                      clear A190
                      have c20b0 := eq_true (of_decide_eq_true (by first | (with_reducible assumption) | assumption) : (ji15) ≤ (x6_1.length : Int))
                      obtain ⟨y214, hy214⟩ : ∃ y_ : List Int, y_ = (x6_1.drop ((ji15) : Int).toNat) := ⟨_, rfl⟩
                      replace H : ((crc_Digest_Len.f t212 t213).bind fun bt217 => (if (wrap64 (bt217.1 + (y214.length : Int))) = (l0.length : Int) then ((crc_Digest_Sum.f bt217.2.1 bt217.2.2).bind fun bt220 => (if 0 ≤ (wrap64 ((l0.length : Int) - (y214.length : Int))) then (if (wrap64 ((l0.length : Int) - (y214.length : Int))) ≤ (l0.length : Int) then ((amberlaw01_copied.f (l0.take ((wrap64 ((l0.length : Int) - (y214.length : Int))) : Int).toNat)).bind fun t224 => ((crc_Sum.f kj11 t224).bind fun t227 => (if bt220.1 = t227 then (amberlaw01_CrcPieces.l0 kj11 l0 l1 y214 (wrap64 (x7_1 + 1)) bt220.2.1 bt220.2.2) else (some false)))) else (none)) else (none))) else (some false))) = some r := by first | (rw [hy214]; with_reducible exact H) | (have H2_ := (Option.bind_some _ _).symm.trans H; rw [hy214]; with_reducible exact H2_) | (have H2_ := (Option.bind_some _ _).symm.trans H; with_reducible exact H2_) | with_reducible exact H | (rw [hy214]; exact H) | exact H
                      have Ny214 := Aside0.mk hy214
                      clear hy214
                      replace H := Option.bind_eq_some_iff.mp H
                      obtain ⟨⟨t217, t218, t219⟩, A210, H⟩ := H
                      replace H : (if (wrap64 (t217 + (y214.length : Int))) = (l0.length : Int) then ((crc_Digest_Sum.f t218 t219).bind fun bt220 => (if 0 ≤ (wrap64 ((l0.length : Int) - (y214.length : Int))) then (if (wrap64 ((l0.length : Int) - (y214.length : Int))) ≤ (l0.length : Int) then ((amberlaw01_copied.f (l0.take ((wrap64 ((l0.length : Int) - (y214.length : Int))) : Int).toNat)).bind fun t224 => ((crc_Sum.f kj11 t224).bind fun t227 => (if bt220.1 = t227 then (amberlaw01_CrcPieces.l0 kj11 l0 l1 y214 (wrap64 (x7_1 + 1)) bt220.2.1 bt220.2.2) else (some false)))) else (none)) else (none))) else (some false)) = some r := H
                      have A21 := Aside0.mk A210
                      clear A210
                      by_cases c22 : (wrap64 (t217 + (y214.length : Int))) = (l0.length : Int)
                      · rw [if_pos c22] at H
                        have c22b0 : ((wrap64 (t217 + (y214.length : Int))) == (l0.length : Int)) = true := beq_iff_eq.mpr c22
                        have c22b1 : ((wrap64 (t217 + (y214.length : Int))) != (l0.length : Int)) = false := bne_eq_false_iff_eq.mpr c22
                        clear c22
                        replace H := Option.bind_eq_some_iff.mp H
                        obtain ⟨⟨t220, t221, t222⟩, A230, H⟩ := H
                        replace H : (if 0 ≤ (wrap64 ((l0.length : Int) - (y214.length : Int))) then (if (wrap64 ((l0.length : Int) - (y214.length : Int))) ≤ (l0.length : Int) then ((amberlaw01_copied.f (l0.take ((wrap64 ((l0.length : Int) - (y214.length : Int))) : Int).toNat)).bind fun t224 => ((crc_Sum.f kj11 t224).bind fun t227 => (if t220 = t227 then (amberlaw01_CrcPieces.l0 kj11 l0 l1 y214 (wrap64 (x7_1 + 1)) t221 t222) else (some false)))) else (none)) else (none)) = some r := H
                        have A23 := Aside0.mk A230
                        clear A230
                        obtain ⟨ji24, hji24⟩ : ∃ j_ : Int, (wrap64 ((l0.length : Int) - (y214.length : Int))) = j_ := ⟨_, rfl⟩
                        replace H : (if 0 ≤ (ji24) then (if (ji24) ≤ (l0.length : Int) then ((amberlaw01_copied.f (l0.take ((ji24) : Int).toNat)).bind fun t224 => ((crc_Sum.f kj11 t224).bind fun t227 => (if t220 = t227 then (amberlaw01_CrcPieces.l0 kj11 l0 l1 y214 (wrap64 (x7_1 + 1)) t221 t222) else (some false)))) else (none)) else (none)) = some r := by first | (rw [hji24] at H; exact H) | (simp only [hji24] at H ⊢; exact H)
                        (try rw [hji24] at A18)
                        (try rw [hji24] at A19)
                        (try rw [hji24] at A21)
                        (try rw [hji24] at A23)
                        have hji24w : (IntKind.i64.wrap ((l0.length : Int) - (y214.length : Int))) = ji24 := (i64_w _).trans hji24
                        by_cases c25 : 0 ≤ (ji24)
                        · rw [if_pos c25] at H
                          have c25b0 := eq_true c25
                          have c25b1 : decide (0 ≤ (ji24)) = true := decide_eq_true c25
                          clear c25
                          by_cases c26 : (ji24) ≤ (l0.length : Int)
                          · rw [if_pos c26] at H
                            have c26b0 := eq_true c26
                            have c26b1 : decide ((ji24) ≤ (l0.length : Int)) = true := decide_eq_true c26
                            clear c26
                            replace H := Option.bind_eq_some_iff.mp H
                            obtain ⟨t224, A270, H⟩ := H
                            replace H : ((crc_Sum.f kj11 t224).bind fun t227 => (if t220 = t227 then (amberlaw01_CrcPieces.l0 kj11 l0 l1 y214 (wrap64 (x7_1 + 1)) t221 t222) else (some false))) = some r := H
                            have A27 := Aside0.mk A270
                            clear A270
                            replace H := Option.bind_eq_some_iff.mp H
                            obtain ⟨t227, A280, H⟩ := H
                            replace H : (if t220 = t227 then (amberlaw01_CrcPieces.l0 kj11 l0 l1 y214 (wrap64 (x7_1 + 1)) t221 t222) else (some false)) = some r := H
                            have A28 := Aside0.mk A280
                            clear A280
                            by_cases c29 : t220 = t227
                            · rw [if_pos c29] at H
                              have c29b0 : (t220 == t227) = true := beq_iff_eq.mpr c29
                              have c29b1 : (t220 != t227) = false := bne_eq_false_iff_eq.mpr c29
                              clear c29
                              have H' := Aside0.mk H
                              clear H
                              obtain ⟨Ao30, co30, eo30, _⟩ := Kd.Q_slice HO_6.out
                              subst eo30
                              have q31 : ((ji15) : Int) ≤ ((x6_1.length : Int) : Int) := of_decide_eq_true (by first | (with_reducible assumption) | assumption)
                              obtain ⟨i031, hi031, _, hsz31, _⟩ := info_parts info5
                              have hroom31 : x6_1.length ≤ co30 := (Kd.Q_reads' HO_6.out).2.1
                              have hC31 : Kd.C (Kd.int .u8) _ Ao30 x6_1.length x6_1 := (Kd.Q_reads' HO_6.out).2.2
                              have hcut31 := cut_to (P := Try.prog) 23 5 .i64 Try.underlying23 hi031 Ao30 x6_1.length co30 (ji15) (of_decide_eq_true (by first | (with_reducible assumption) | assumption)) q31 hroom31
                              have hr31 := Kd.C_take (m := ((ji15) : Int).toNat) hC31 (by omega)
                              have hy31 : y205.length = ((ji15) : Int).toNat := (by rw [Ny205.out, List.length_take]; omega)
                              rw [← Ny205.out] at hr31
                              rw [← hy31] at hcut31
                              have HR208 := Aside0.mk hr31
                              have HC208 := Aside0.mk (show y205.length ≤ co30 from by omega)
                              clear hr31 hC31 hroom31 hi031 hsz31
                              have KY31 := Aside0.mk hy31
                              clear hy31
                              have KL31 := Aside0.mk (show ((ji15) : Int).toNat ≤ x6_1.length from by omega)
                              replace q31 := eq_true q31
                              try go_wp2_with (first | ((with_reducible refine gate_callee (f := 16) rfl ?_); refine goesL_ (some 40) rfl rfl Try.func16 (by kernel_rfl) rfl #[.slice Ao30 y205.length co30] rfl (by (try simp only [List.map_toArray, List.map_cons, List.map_nil]); first | done | rfl | (simp only [List.length_drop, List.length_take]; rfl)) ?_; (with_reducible refine (amberlaw01_copied.calls _ _ y205 t209 _ ?side1 ?side2 A18.out).mono ?_); (case side1 => repeat (first | exact (by repeat (first | (with_reducible exact HR208.out) | (with_reducible refine Kd.C_alloc ?_ _) | (with_reducible refine Kd.C_drewN ?_ _) | (with_reducible refine Kd.C_drew ?_) | exact HR208.out)) | (with_reducible refine Kd.C_alloc ?_ _) | (with_reducible refine Kd.C_drewN ?_ _) | (with_reducible refine Kd.C_drew ?_))); (case side2 => exact HC208.out); rintro e w32 ⟨v210, rfl, ho0, hb⟩; refine ⟨_, rfl, ?_⟩; have n0_ := Aside0.mk (Kd.Q_elder' (by (with_reducible repeat (first | apply Kd.Q_alloc | apply Kd.Q_drewN | apply Kd.Q_drew)); exact HO_6.out) (Kd.R_base ho0) hb); have n1_ := Aside0.mk (Kd.R_lower (Kd.R_new' ho0 (Kd.Q_lt (by (with_reducible repeat (first | apply Kd.Q_alloc | apply Kd.Q_drewN | apply Kd.Q_drew)); exact HO_6.out))) (below_size (by repeat (first | (with_reducible first | exact HB.out | apply below_alloc | apply pw_below_drewN | apply below_drew1 | refine below_set ?_ (IsS60.ge HI200.out)) | exact HB.out)))); have n2_ := Aside0.mk (IsS60.below (by repeat (first | (with_reducible first | exact HI200.out | apply IsS60.alloc | apply IsS60.drewN | apply IsS60.drew | apply IsS60.set_0 | apply IsS60.set_1) | exact HI200.out)) hb); have n3_ := Aside0.mk (Kd.C_below (by repeat (first | (with_reducible exact HR208.out) | (with_reducible refine Kd.C_alloc ?_ _) | (with_reducible refine Kd.C_drewN ?_ _) | (with_reducible refine Kd.C_drew ?_) | exact HR208.out)) hb); have n4_ := Aside0.mk (below_step (by repeat (first | (with_reducible first | exact HB.out | apply below_alloc | apply pw_below_drewN | apply below_drew1 | refine below_set ?_ (IsS60.ge HI200.out)) | exact HB.out)) hb); clear HO_6; clear HI200; clear HR208; clear HB; have HO_6 := n0_; have HO211 := n1_; have HI200 := n2_; have HR208 := n3_; have HB := n4_; clear n0_ n1_ n2_ n3_ n4_; (try clear hb); (try clear hb2); (try clear hk); (try clear hi); (try clear ho0); obtain ⟨Ao33, co33, eo33⟩ := Kd.R_slice HO211.out; subst eo33) | ((with_reducible refine gate_callee (f := 26) rfl ?_); refine goesL_ (some 41) rfl rfl Try.func26 (by kernel_rfl) rfl #[.pointer (some ⟨g200, 0, none⟩), .slice Ao33 t209.length co33] rfl (by (try simp only [List.map_toArray, List.map_cons, List.map_nil]); first | done | rfl | (simp only [List.length_drop, List.length_take]; rfl)) ?_; (with_reducible refine (crc_Digest_Write.calls kj11 g200 x201000_1 x201001_1 _ _ t209 t212 t213 w _ ?side1 ?side2 ?side3 ?side4 ?side5 A19.out).mono ?_); (case side1 => repeat (first | (with_reducible first | exact HI200.out | apply IsS60.alloc | apply IsS60.drewN | apply IsS60.drew | apply IsS60.set_0 | apply IsS60.set_1) | exact HI200.out)); (case side2 => repeat (first | (with_reducible first | exact HB.out | apply below_alloc | apply pw_below_drewN | apply below_drew1 | refine below_set ?_ (IsS60.ge HI200.out)) | exact HB.out)); (case side3 => repeat (first | exact (Kd.R_reads' HO211.out).2.2 | (with_reducible refine Kd.C_alloc ?_ _) | (with_reducible refine Kd.C_drewN ?_ _) | (with_reducible refine Kd.C_drew ?_))); (case side4 => exact (Kd.R_reads' HO211.out).2.1); (case side5 => exact far_slice (IsS60.own_ne HI200.out HO211.out (by decide))); rintro e w34 ⟨rfl, hi, hb, hk⟩; refine ⟨_, rfl, ?_⟩; have n0_ := Aside0.mk (Kd.Q_mono (Kd.Q_keep (IsS60.apartQ (show IsS60 w _ g200 x201000_1 x201001_1 from by repeat (first | (with_reducible first | exact HI200.out | apply IsS60.alloc | apply IsS60.drewN | apply IsS60.drew | apply IsS60.set_0 | apply IsS60.set_1) | exact HI200.out)) (by (with_reducible repeat (first | apply Kd.Q_alloc | apply Kd.Q_drewN | apply Kd.Q_drew)); exact HO_6.out) (by decide)) hk (fun _ h => h.2)) (fun _ h => h.1)); have n1_ := Aside0.mk (Kd.R_mono (Kd.R_keep (IsS60.apart (show IsS60 w _ g200 x201000_1 x201001_1 from by repeat (first | (with_reducible first | exact HI200.out | apply IsS60.alloc | apply IsS60.drewN | apply IsS60.drew | apply IsS60.set_0 | apply IsS60.set_1) | exact HI200.out)) (by (with_reducible repeat (first | apply Kd.R_alloc | apply Kd.R_drewN | apply Kd.R_drew)); exact HO211.out) (by decide)) hk (fun _ h => h.2)) (fun _ h => h.1)); have n2_ := Aside0.mk (hb); have n3_ := Aside0.mk (hi); clear HO_6; clear HO211; clear HB; clear HI200; have HO_6 := n0_; have HO211 := n1_; have HB := n2_; have HI200 := n3_; clear n0_ n1_ n2_ n3_; (try clear hb); (try clear hb2); (try clear hk); (try clear hi); have n_ := Aside0.mk (Kd.Q_mono (ok' := (fun k_ => some k_ ≠ (.slice Ao33 t209.length co33 : Value).ownBlock)) HO_6.out (fun k_ hk => hk.2)); clear HO_6; have HO_6 := n_; clear n_; have q35 : ((ji15) : Int) ≤ ((x6_1.length : Int) : Int) := of_decide_eq_true (by first | (with_reducible assumption) | assumption); obtain ⟨i035, hi035, _, hsz35, _⟩ := info_parts info5; have hcut35 := cut_from (P := Try.prog) 23 5 .i64 Try.underlying23 hi035 1 hsz35 Ao30 x6_1.length co30 (ji15) (of_decide_eq_true (by first | (with_reducible assumption) | assumption)) q35; have hr35 := Kd.Q_drop (k := ((ji15) : Int).toNat) HO_6.out (by omega); obtain ⟨A35, hA35⟩ : ∃ A1, A1 = (if co30 = ((ji15) : Int).toNat then Ao30 else (Ao30 : Option Addr).map (·.add (((ji15) : Int).toNat * 1))) := ⟨_, rfl⟩; obtain ⟨c35, hc35⟩ : ∃ c1, c1 = co30 - ((ji15) : Int).toNat := ⟨_, rfl⟩; have hy35 : y214.length = x6_1.length - ((ji15) : Int).toNat := (by rw [Ny214.out, List.length_drop]); rw [← Ny214.out] at hr35; rw [← hy35, ← hA35, ← hc35] at hcut35; replace hr35 : Kd.Q (Kd.int .u8) 5 w34 w.heap.size (fun k_ => some k_ ≠ (.slice Ao33 t209.length co33 : Value).ownBlock) (.slice A35 y214.length c35) y214 := (by rw [hA35, hc35, hy35]; exact hr35); have HE35 : Aside0 ((Value.slice A35 y214.length c35).ownBlock = (.slice Ao30 x6_1.length co30 : Value).ownBlock) := ⟨by rw [hA35]; split <;> (cases (Ao30 : Option Addr) <;> first | rfl | (simp only [Value.ownBlock, Option.map_some, Addr.add]; split <;> rfl))⟩; clear hy35 hi035 hsz35 HO_6 hA35 hc35; have HO216 := Aside0.mk hr35; clear hr35; replace q35 := eq_true q35; have n_ := Aside0.mk (Kd.R_mono (ok' := fun k_ => (True ∧ some k_ ≠ (.slice A35 y214.length c35 : Value).ownBlock)) HO211.out (fun k_ hk => ⟨trivial, (by rw [HE35.out]; exact hk.2)⟩)); clear HO211; have HO211 := n_; clear n_))
                              have n0_ := Aside0.mk (Kd.Q_drew HO216.out)
                              have n1_ := Aside0.mk (Kd.R_drew HO211.out)
                              have n2_ := Aside0.mk (IsS60.drew HI200.out)
                              have n3_ := Aside0.mk (below_drew1 HB.out)
                              clear HO216
                              clear HO211
                              clear HI200
                              clear HB
                              have HO216 := n0_
                              have HO211 := n1_
                              have HI200 := n2_
                              have HB := n3_
                              clear n0_ n1_ n2_ n3_
                              refine start_ (n := 22) (S := fun w' => True) (ds := []) #[false, false, false, false, false, false, false, false, false, false, false, false, false, false, false, false, false, false, false, false, false, false] (by kernel_rfl) rfl rfl trivial (fun hHeld => ?_); refine with_tabW amberlaw01_CrcPieces.tab16 amberlaw01_CrcPieces.bits16 (fun HT_ HW_ => ?_)
                              generalize w34.drew = w36 at HO216 HO211 HI200 HB hHeld ⊢
                              refine pure_ (i := 0) (N := some 45) (v := ?_) (a' := ?_) #[true, false, false, false, false, false, false, false, false, false, false, false, false, false, false, false, false, false, false, false, false, false] rfl rfl (any_of HT_.out (by kernel_rfl)) (fun _ _ _ h => h) (Or.inl ⟨by rfl, ?_⟩) ?_ ?_
                              rotate_left
                              · intro w'
                                go_simp
                                with_reducible rfl
                              rotate_left
                              · simp only [Act.put, List.setIfInBounds_toArray, List.set_cons_zero, List.set_cons_succ, i64_w, i32_w]
                                rfl
                              refine pure_ (i := 2) (N := some 47) (v := ?_) (a' := ?_) #[true, false, true, false, false, false, false, false, false, false, false, false, false, false, false, false, false, false, false, false, false, false] rfl rfl (any_of HT_.out (by kernel_rfl)) (fun _ _ _ h => h) (Or.inl ⟨by rfl, ?_⟩) ?_ ?_
                              rotate_left
                              · intro w'
                                go_simp
                                with_reducible rfl
                              rotate_left
                              · simp only [Act.put, List.setIfInBounds_toArray, List.set_cons_zero, List.set_cons_succ, i64_w, i32_w]
                                rfl
                              refine pure_ (i := 3) (N := some 48) (v := ?_) (a' := ?_) #[true, false, true, true, false, false, false, false, false, false, false, false, false, false, false, false, false, false, false, false, false, false] rfl rfl (any_of HT_.out (by kernel_rfl)) (fun _ _ _ h => h) (Or.inl ⟨by rfl, ?_⟩) ?_ ?_
                              rotate_left
                              · intro w'
                                go_simp
                                with_reducible rfl
                              rotate_left
                              · simp only [Act.put, List.setIfInBounds_toArray, List.set_cons_zero, List.set_cons_succ, i64_w, i32_w]
                                rfl
                              refine pure_ (i := 5) (N := some 50) (v := ?_) (a' := ?_) #[true, false, true, true, false, true, false, false, false, false, false, false, false, false, false, false, false, false, false, false, false, false] rfl rfl (any_of HT_.out (by kernel_rfl)) (fun _ _ _ h => h) (Or.inl ⟨by rfl, ?_⟩) ?_ ?_
                              rotate_left
                              · intro w'
                                go_simp
                                with_reducible rfl
                              rotate_left
                              · simp only [Act.put, List.setIfInBounds_toArray, List.set_cons_zero, List.set_cons_succ, i64_w, i32_w]
                                rfl
                              refine pure_ (i := 6) (N := some 51) (v := ?_) (a' := ?_) #[true, false, true, true, false, true, true, false, false, false, false, false, false, false, false, false, false, false, false, false, false, false] rfl rfl (any_of HT_.out (by kernel_rfl)) (fun _ _ _ h => h) (Or.inl ⟨by rfl, ?_⟩) ?_ ?_
                              rotate_left
                              · intro w'
                                go_simp
                                with_reducible rfl
                              rotate_left
                              · simp only [Act.put, List.setIfInBounds_toArray, List.set_cons_zero, List.set_cons_succ, i64_w, i32_w]
                                rfl
                              refine one_ (i := 1) (N := some 46) #[true, true, true, true, false, true, true, false, false, false, false, false, false, false, false, false, false, false, false, false, false, false] rfl rfl (one_of HT_.out (by kernel_rfl)) (by decide) (fun K hK => ?_)
                              refine goes_ Try.func25 (by kernel_rfl) rfl #[.pointer (some ⟨g200, 0, none⟩)] (by rfl) rfl rfl (by (try simp only [List.map_toArray, List.map_cons, List.map_nil]); first | done | rfl | (simp only [List.length_drop, List.length_take]; rfl)) ?_
                              with_reducible refine (crc_Digest_Len.calls g200 t212 t213 t217 t218 t219 w _ ?side1 ?side2 A21.out).mono ?_
                              (case side1 => repeat (first | (with_reducible first | exact HI200.out | apply IsS60.alloc | apply IsS60.drewN | apply IsS60.drew | apply IsS60.set_0 | apply IsS60.set_1) | exact HI200.out))
                              (case side2 => repeat (first | (with_reducible first | exact HB.out | apply below_alloc | apply pw_below_drewN | apply below_drew1 | refine below_set ?_ (IsS60.ge HI200.out)) | exact HB.out))
                              rintro e w37 ⟨rfl, hi, hb, hk⟩
                              refine ⟨_, rfl, ?_⟩
                              have n0_ := Aside0.mk (Kd.Q_mono (Kd.Q_keep (IsS60.apartQ (show IsS60 w _ g200 t212 t213 from by repeat (first | (with_reducible first | exact HI200.out | apply IsS60.alloc | apply IsS60.drewN | apply IsS60.drew | apply IsS60.set_0 | apply IsS60.set_1) | exact HI200.out)) (by (with_reducible repeat (first | apply Kd.Q_alloc | apply Kd.Q_drewN | apply Kd.Q_drew)); exact HO216.out) (by decide)) hk (fun _ h => h.2)) (fun _ h => h.1))
                              have n1_ := Aside0.mk (Kd.R_mono (Kd.R_keep (IsS60.apart (show IsS60 w _ g200 t212 t213 from by repeat (first | (with_reducible first | exact HI200.out | apply IsS60.alloc | apply IsS60.drewN | apply IsS60.drew | apply IsS60.set_0 | apply IsS60.set_1) | exact HI200.out)) (by (with_reducible repeat (first | apply Kd.R_alloc | apply Kd.R_drewN | apply Kd.R_drew)); exact HO211.out) (by decide)) hk (fun _ h => h.2)) (fun _ h => h.1))
                              have n2_ := Aside0.mk (hb)
                              have n3_ := Aside0.mk (hi)
                              clear HO216
                              clear HO211
                              clear HB
                              clear HI200
                              have HO216 := n0_
                              have HO211 := n1_
                              have HB := n2_
                              have HI200 := n3_
                              clear n0_ n1_ n2_ n3_
                              (try clear hb)
                              (try clear hb2)
                              (try clear hk)
                              (try clear hi)
                              refine hK.out _ _ trivial (fun hHeld => ?_)
                              clear hK K
                              refine norm_ (a' := ?_) ?_ ?_
                              rotate_left
                              · show Act.put _ (some 46) _ = _
                                simp only [Act.put, List.setIfInBounds_toArray, List.set_cons_zero, List.set_cons_succ, i64_w, i32_w]
                                rfl
                              refine pure_ (i := 4) (N := some 49) (v := ?_) (a' := ?_) #[true, true, true, true, true, true, true, false, false, false, false, false, false, false, false, false, false, false, false, false, false, false] rfl rfl (any_of HT_.out (by kernel_rfl)) (fun _ _ _ h => h) (Or.inl ⟨by rfl, ?_⟩) ?_ ?_
                              rotate_left
                              · intro w'
                                go_simp
                                with_reducible rfl
                              rotate_left
                              · simp only [Act.put, List.setIfInBounds_toArray, List.set_cons_zero, List.set_cons_succ, i64_w, i32_w]
                                rfl
                              refine pure_ (i := 7) (N := some 52) (v := ?_) (a' := ?_) #[true, true, true, true, true, true, true, true, false, false, false, false, false, false, false, false, false, false, false, false, false, false] rfl rfl (any_of HT_.out (by kernel_rfl)) (fun _ _ _ h => h) (Or.inl ⟨by rfl, ?_⟩) ?_ ?_
                              rotate_left
                              · intro w'
                                go_simp
                                with_reducible rfl
                              rotate_left
                              · simp only [Act.put, List.setIfInBounds_toArray, List.set_cons_zero, List.set_cons_succ, i64_w, i32_w]
                                rfl
                              refine pure_ (i := 8) (N := some 53) (v := ?_) (a' := ?_) #[true, true, true, true, true, true, true, true, true, false, false, false, false, false, false, false, false, false, false, false, false, false] rfl rfl (any_of HT_.out (by kernel_rfl)) (fun _ _ _ h => h) (Or.inl ⟨by rfl, ?_⟩) ?_ ?_
                              rotate_left
                              · intro w'
                                go_simp
                                with_reducible rfl
                              rotate_left
                              · simp only [Act.put, List.setIfInBounds_toArray, List.set_cons_zero, List.set_cons_succ, i64_w, i32_w]
                                rfl
                              refine pure_ (i := 9) (N := some 54) (v := ?_) (a' := ?_) #[true, true, true, true, true, true, true, true, true, true, false, false, false, false, false, false, false, false, false, false, false, false] rfl rfl (any_of HT_.out (by kernel_rfl)) (fun _ _ _ h => h) (Or.inl ⟨by rfl, ?_⟩) ?_ ?_
                              rotate_left
                              · intro w'
                                go_simp
                                with_reducible rfl
                              rotate_left
                              · simp only [Act.put, List.setIfInBounds_toArray, List.set_cons_zero, List.set_cons_succ, i64_w, i32_w]
                                rfl
                              refine pure_ (i := 11) (N := some 56) (v := ?_) (a' := ?_) #[true, true, true, true, true, true, true, true, true, true, false, true, false, false, false, false, false, false, false, false, false, false] rfl rfl (any_of HT_.out (by kernel_rfl)) (fun _ _ _ h => h) (Or.inl ⟨by rfl, ?_⟩) ?_ ?_
                              rotate_left
                              · intro w'
                                go_simp
                                with_reducible rfl
                              rotate_left
                              · simp only [Act.put, List.setIfInBounds_toArray, List.set_cons_zero, List.set_cons_succ, i64_w, i32_w]
                                rfl
                              refine pure_ (i := 12) (N := some 57) (v := ?_) (a' := ?_) #[true, true, true, true, true, true, true, true, true, true, false, true, true, false, false, false, false, false, false, false, false, false] rfl rfl (any_of HT_.out (by kernel_rfl)) (fun _ _ _ h => h) (Or.inl ⟨by rfl, ?_⟩) ?_ ?_
                              rotate_left
                              · intro w'
                                go_simp
                                with_reducible rfl
                              rotate_left
                              · simp only [Act.put, List.setIfInBounds_toArray, List.set_cons_zero, List.set_cons_succ, i64_w, i32_w]
                                rfl
                              refine pure_ (i := 13) (N := some 58) (v := ?_) (a' := ?_) #[true, true, true, true, true, true, true, true, true, true, false, true, true, true, false, false, false, false, false, false, false, false] rfl rfl (any_of HT_.out (by kernel_rfl)) (fun _ _ _ h => h) (Or.inl ⟨by rfl, ?_⟩) ?_ ?_
                              rotate_left
                              · intro w'
                                go_simp
                                with_reducible rfl
                              rotate_left
                              · simp only [Act.put, List.setIfInBounds_toArray, List.set_cons_zero, List.set_cons_succ, i64_w, i32_w]
                                rfl
                              refine pure_ (i := 14) (N := some 59) (v := ?_) (a' := ?_) #[true, true, true, true, true, true, true, true, true, true, false, true, true, true, true, false, false, false, false, false, false, false] rfl rfl (any_of HT_.out (by kernel_rfl)) (fun _ _ _ h => h) (Or.inl ⟨by rfl, ?_⟩) ?_ ?_
                              rotate_left
                              · intro w'
                                go_simp
                                with_reducible rfl
                              rotate_left
                              · simp only [Act.put, List.setIfInBounds_toArray, List.set_cons_zero, List.set_cons_succ, i64_w, i32_w]
                                rfl
                              refine pure_ (i := 15) (N := some 60) (v := ?_) (a' := ?_) #[true, true, true, true, true, true, true, true, true, true, false, true, true, true, true, true, false, false, false, false, false, false] rfl rfl (any_of HT_.out (by kernel_rfl)) (fun _ _ _ h => h) (Or.inl ⟨by rfl, ?_⟩) ?_ ?_
                              rotate_left
                              · intro w'
                                go_simp
                                with_reducible rfl
                              rotate_left
                              · simp only [Act.put, List.setIfInBounds_toArray, List.set_cons_zero, List.set_cons_succ, i64_w, i32_w]
                                rfl
                              refine pure_ (i := 16) (N := some 61) (v := ?_) (a' := ?_) #[true, true, true, true, true, true, true, true, true, true, false, true, true, true, true, true, true, false, false, false, false, false] rfl rfl (any_of HT_.out (by kernel_rfl)) (fun _ _ _ h => h) (Or.inl ⟨by rfl, ?_⟩) ?_ ?_
                              rotate_left
                              · intro w'
                                go_simp
                                with_reducible rfl
                              rotate_left
                              · simp only [Act.put, List.setIfInBounds_toArray, List.set_cons_zero, List.set_cons_succ, i64_w, i32_w]
                                rfl
                              refine pure_ (i := 17) (N := some 62) (v := ?_) (a' := ?_) #[true, true, true, true, true, true, true, true, true, true, false, true, true, true, true, true, true, true, false, false, false, false] rfl rfl (any_of HT_.out (by kernel_rfl)) (fun _ _ _ h => h) (Or.inl ⟨by rfl, ?_⟩) ?_ ?_
                              rotate_left
                              · intro w'
                                have hle_ : ji24 ≤ (c0 : Int) := Int.le_trans (of_eq_true c26b0) (by have h2_ := HC0.out; omega)
                                replace hle_ := eq_true hle_
                                go_simp
                                with_reducible rfl
                              rotate_left
                              · simp only [Act.put, List.setIfInBounds_toArray, List.set_cons_zero, List.set_cons_succ, i64_w, i32_w]
                                rfl
                              refine one_ (i := 10) (N := some 55) #[true, true, true, true, true, true, true, true, true, true, true, true, true, true, true, true, true, true, false, false, false, false] rfl rfl (one_of HT_.out (by kernel_rfl)) (by decide) (fun K hK => ?_)
                              refine goes_ Try.func24 (by kernel_rfl) rfl #[.pointer (some ⟨g200, 0, none⟩)] (by rfl) rfl rfl (by (try simp only [List.map_toArray, List.map_cons, List.map_nil]); first | done | rfl | (simp only [List.length_drop, List.length_take]; rfl)) ?_
                              with_reducible refine (crc_Digest_Sum.calls g200 t218 t219 t220 t221 t222 w _ ?side1 ?side2 A23.out).mono ?_
                              (case side1 => repeat (first | (with_reducible first | exact HI200.out | apply IsS60.alloc | apply IsS60.drewN | apply IsS60.drew | apply IsS60.set_0 | apply IsS60.set_1) | exact HI200.out))
                              (case side2 => repeat (first | (with_reducible first | exact HB.out | apply below_alloc | apply pw_below_drewN | apply below_drew1 | refine below_set ?_ (IsS60.ge HI200.out)) | exact HB.out))
                              rintro e w38 ⟨rfl, hi, hb, hk⟩
                              refine ⟨_, rfl, ?_⟩
                              have n0_ := Aside0.mk (Kd.Q_mono (Kd.Q_keep (IsS60.apartQ (show IsS60 w _ g200 t218 t219 from by repeat (first | (with_reducible first | exact HI200.out | apply IsS60.alloc | apply IsS60.drewN | apply IsS60.drew | apply IsS60.set_0 | apply IsS60.set_1) | exact HI200.out)) (by (with_reducible repeat (first | apply Kd.Q_alloc | apply Kd.Q_drewN | apply Kd.Q_drew)); exact HO216.out) (by decide)) hk (fun _ h => h.2)) (fun _ h => h.1))
                              have n1_ := Aside0.mk (Kd.R_mono (Kd.R_keep (IsS60.apart (show IsS60 w _ g200 t218 t219 from by repeat (first | (with_reducible first | exact HI200.out | apply IsS60.alloc | apply IsS60.drewN | apply IsS60.drew | apply IsS60.set_0 | apply IsS60.set_1) | exact HI200.out)) (by (with_reducible repeat (first | apply Kd.R_alloc | apply Kd.R_drewN | apply Kd.R_drew)); exact HO211.out) (by decide)) hk (fun _ h => h.2)) (fun _ h => h.1))
                              have n2_ := Aside0.mk (hb)
                              have n3_ := Aside0.mk (hi)
                              clear HO216
                              clear HO211
                              clear HB
                              clear HI200
                              have HO216 := n0_
                              have HO211 := n1_
                              have HB := n2_
                              have HI200 := n3_
                              clear n0_ n1_ n2_ n3_
                              (try clear hb)
                              (try clear hb2)
                              (try clear hk)
                              (try clear hi)
                              obtain ⟨i039, hi039, _, hsz39, _⟩ := info_parts info5
                              obtain ⟨hcut39, hA39, hC39⟩ := print_take_of (P := Try.prog) (Value.int .u8) 0 23 5 .i64 Try.underlying23 hi039 hsz39 A0 c0 l0 (ji24) (of_decide_eq_true (by first | (with_reducible assumption) | assumption)) (of_decide_eq_true (by first | (with_reducible assumption) | assumption)) HC0.out
                              have HR223 := Aside0.mk (Kd.C_of_reads (h1 := fun _ => rfl) (hA39 _ (Kd.reads_of_C HR0.out)))
                              have HC223 := Aside0.mk hC39
                              clear hA39 hC39 hi039 hsz39
                              refine hK.out _ _ trivial (fun hHeld => ?_)
                              clear hK K
                              refine norm_ (a' := ?_) ?_ ?_
                              rotate_left
                              · show Act.put _ (some 55) _ = _
                                simp only [Act.put, List.setIfInBounds_toArray, List.set_cons_zero, List.set_cons_succ, i64_w, i32_w]
                                rfl
                              refine one_ (i := 18) (N := some 63) #[true, true, true, true, true, true, true, true, true, true, true, true, true, true, true, true, true, true, true, false, false, false] rfl rfl (one_of HT_.out (by kernel_rfl)) (by decide) (fun K hK => ?_)
                              refine goes_ Try.func16 (by kernel_rfl) rfl #[.slice A0 (l0.take ((ji24) : Int).toNat).length c0] (by rfl) rfl rfl (by (try simp only [List.map_toArray, List.map_cons, List.map_nil]); first | done | (rw [show (l0.take ((ji24) : Int).toNat).length = (ji24).toNat from (by rw [List.length_take]; have h_ : ((ji24) : Int) ≤ (l0.length : Int) := of_decide_eq_true (by first | (with_reducible assumption) | assumption); omega)] <;> rfl) | (simp only [hji24]; rfl) | rfl | (simp only [List.length_drop, List.length_take]; rfl)) ?_
                              with_reducible refine (amberlaw01_copied.calls _ _ (l0.take ((ji24) : Int).toNat) t224 _ ?side1 ?side2 A27.out).mono ?_
                              (case side1 => repeat (first | exact (Kd.C_below HR223.out HB.out) | (with_reducible refine Kd.C_alloc ?_ _) | (with_reducible refine Kd.C_drewN ?_ _) | (with_reducible refine Kd.C_drew ?_)))
                              (case side2 => exact HC223.out)
                              rintro e w40 ⟨v225, rfl, ho0, hb⟩
                              refine ⟨_, rfl, ?_⟩
                              have n0_ := Aside0.mk (Kd.Q_elder' (by (with_reducible repeat (first | apply Kd.Q_alloc | apply Kd.Q_drewN | apply Kd.Q_drew)); exact HO216.out) (Kd.R_base ho0) hb)
                              have n1_ := Aside0.mk (Kd.R_elder' (by (with_reducible repeat (first | apply Kd.R_alloc | apply Kd.R_drewN | apply Kd.R_drew)); exact HO211.out) (Kd.R_base ho0) hb)
                              have n2_ := Aside0.mk (Kd.R_lower (Kd.R_new' (Kd.R_new' ho0 (Kd.Q_lt (by (with_reducible repeat (first | apply Kd.Q_alloc | apply Kd.Q_drewN | apply Kd.Q_drew)); exact HO216.out))) (Kd.R_lt (by (with_reducible repeat (first | apply Kd.R_alloc | apply Kd.R_drewN | apply Kd.R_drew)); exact HO211.out))) (below_size (by repeat (first | (with_reducible first | exact HB.out | apply below_alloc | apply pw_below_drewN | apply below_drew1 | refine below_set ?_ (IsS60.ge HI200.out)) | exact HB.out))))
                              have n3_ := Aside0.mk (IsS60.below (by repeat (first | (with_reducible first | exact HI200.out | apply IsS60.alloc | apply IsS60.drewN | apply IsS60.drew | apply IsS60.set_0 | apply IsS60.set_1) | exact HI200.out)) hb)
                              have n4_ := Aside0.mk (below_step (by repeat (first | (with_reducible first | exact HB.out | apply below_alloc | apply pw_below_drewN | apply below_drew1 | refine below_set ?_ (IsS60.ge HI200.out)) | exact HB.out)) hb)
                              clear HO216
                              clear HO211
                              clear HI200
                              clear HB
                              have HO216 := n0_
                              have HO211 := n1_
                              have HO226 := n2_
                              have HI200 := n3_
                              have HB := n4_
                              clear n0_ n1_ n2_ n3_ n4_
                              (try clear hb)
                              (try clear hb2)
                              (try clear hk)
                              (try clear hi)
                              (try clear ho0)
                              obtain ⟨Ao41, co41, eo41⟩ := Kd.R_slice HO226.out
                              (first | subst eo41 | (injection eo41 with f1_ f2_ f3_; have f4_ := f1_.symm; have f5_ := f3_.symm; clear f1_ f2_ f3_; subst f4_; subst f5_))
                              refine hK.out _ _ trivial (fun hHeld => ?_)
                              clear hK K
                              refine norm_ (a' := ?_) ?_ ?_
                              rotate_left
                              · show Act.put _ (some 63) _ = _
                                simp only [Act.put, List.setIfInBounds_toArray, List.set_cons_zero, List.set_cons_succ, i64_w, i32_w]
                                rfl
                              refine one_ (i := 19) (N := some 64) #[true, true, true, true, true, true, true, true, true, true, true, true, true, true, true, true, true, true, true, true, false, false] rfl rfl (one_of HT_.out (by kernel_rfl)) (by decide) (fun K hK => ?_)
                              refine goes_ Try.func15 (by kernel_rfl) rfl #[.slice Ao41 t224.length co41] (by rfl) rfl rfl (by (try simp only [List.map_toArray, List.map_cons, List.map_nil]); first | done | rfl | (simp only [List.length_drop, List.length_take]; rfl)) ?_
                              with_reducible refine (crc_Sum.calls kj11 _ _ t224 t227 _ ?side1 ?side2 A28.out).mono ?_
                              (case side1 => repeat (first | exact (Kd.R_reads' HO226.out).2.2 | (with_reducible refine Kd.C_alloc ?_ _) | (with_reducible refine Kd.C_drewN ?_ _) | (with_reducible refine Kd.C_drew ?_)))
                              (case side2 => exact (Kd.R_reads' HO226.out).2.1)
                              rintro e w' ⟨rfl, ⟨nd, rfl⟩⟩
                              refine ⟨_, rfl, ?_⟩
                              refine hK.out _ _ trivial (fun hHeld => ?_)
                              clear hK K
                              refine norm_ (a' := ?_) ?_ ?_
                              rotate_left
                              · show Act.put _ (some 64) _ = _
                                simp only [Act.put, List.setIfInBounds_toArray, List.set_cons_zero, List.set_cons_succ, i64_w, i32_w]
                                rfl
                              refine pure_ (i := 20) (N := some 65) (v := ?_) (a' := ?_) #[true, true, true, true, true, true, true, true, true, true, true, true, true, true, true, true, true, true, true, true, true, false] rfl rfl (any_of HT_.out (by kernel_rfl)) (fun _ _ _ h => h) (Or.inl ⟨by rfl, ?_⟩) ?_ ?_
                              rotate_left
                              · intro w'
                                go_simp
                                with_reducible rfl
                              rotate_left
                              · simp only [Act.put, List.setIfInBounds_toArray, List.set_cons_zero, List.set_cons_succ, i64_w, i32_w]
                                rfl
                              refine pure_ (i := 21) (N := some 66) (v := ?_) (a' := ?_) #[true, true, true, true, true, true, true, true, true, true, true, true, true, true, true, true, true, true, true, true, true, true] rfl rfl (any_of HT_.out (by kernel_rfl)) (fun _ _ _ h => h) (Or.inl ⟨by rfl, ?_⟩) ?_ ?_
                              rotate_left
                              · intro w'
                                go_simp
                                with_reducible rfl
                              rotate_left
                              · simp only [Act.put, List.setIfInBounds_toArray, List.set_cons_zero, List.set_cons_succ, i64_w, i32_w]
                                rfl
                              refine done_ (done_of HT_.out (by kernel_rfl)) ?_
                              try go_wp2
                              go_roundg kj11
                              case measure => have := HK1.out; have := HJ11.out; omega
                              case rel => exact ⟨(y214), (wrap64 (x7_1 + 1)), (t221), (t222), (by first | rfl | (simp; done) | (simp [*]; done)), H', ⟨by have := HK1.out; have := HJ11.out; omega⟩, ⟨by (with_reducible repeat (first | apply Kd.Q_alloc | apply Kd.Q_drewN | apply Kd.Q_drew)); exact Kd.Q_mono HO216.out (fun _ hk => trivial)⟩, ⟨by repeat (first | (with_reducible first | exact HI200.out | apply IsS60.alloc | apply IsS60.drewN | apply IsS60.drew | apply IsS60.set_0 | apply IsS60.set_1) | exact HI200.out)⟩, ⟨by repeat (first | (with_reducible first | exact HB.out | apply below_alloc | apply pw_below_drewN | apply below_drew1 | refine below_set ?_ (IsS60.ge HI200.out)) | exact HB.out)⟩⟩
                            · rw [if_neg c29] at H
                              have c29b0 : (t220 == t227) = false := beq_eq_false_iff_ne.mpr c29
                              have c29b1 : (t220 != t227) = true := bne_iff_ne.mpr c29
                              obtain rfl := Option.some.inj H
                              obtain ⟨Ao42, co42, eo42, _⟩ := Kd.Q_slice HO_6.out
                              subst eo42
                              have q43 : ((ji15) : Int) ≤ ((x6_1.length : Int) : Int) := of_decide_eq_true (by first | (with_reducible assumption) | assumption)
                              obtain ⟨i043, hi043, _, hsz43, _⟩ := info_parts info5
                              have hroom43 : x6_1.length ≤ co42 := (Kd.Q_reads' HO_6.out).2.1
                              have hC43 : Kd.C (Kd.int .u8) _ Ao42 x6_1.length x6_1 := (Kd.Q_reads' HO_6.out).2.2
                              have hcut43 := cut_to (P := Try.prog) 23 5 .i64 Try.underlying23 hi043 Ao42 x6_1.length co42 (ji15) (of_decide_eq_true (by first | (with_reducible assumption) | assumption)) q43 hroom43
                              have hr43 := Kd.C_take (m := ((ji15) : Int).toNat) hC43 (by omega)
                              have hy43 : y205.length = ((ji15) : Int).toNat := (by rw [Ny205.out, List.length_take]; omega)
                              rw [← Ny205.out] at hr43
                              rw [← hy43] at hcut43
                              have HR208 := Aside0.mk hr43
                              have HC208 := Aside0.mk (show y205.length ≤ co42 from by omega)
                              clear hr43 hC43 hroom43 hi043 hsz43
                              have KY43 := Aside0.mk hy43
                              clear hy43
                              have KL43 := Aside0.mk (show ((ji15) : Int).toNat ≤ x6_1.length from by omega)
                              replace q43 := eq_true q43
                              try go_wp2_with (first | ((with_reducible refine gate_callee (f := 16) rfl ?_); refine goesL_ (some 40) rfl rfl Try.func16 (by kernel_rfl) rfl #[.slice Ao42 y205.length co42] rfl (by (try simp only [List.map_toArray, List.map_cons, List.map_nil]); first | done | rfl | (simp only [List.length_drop, List.length_take]; rfl)) ?_; (with_reducible refine (amberlaw01_copied.calls _ _ y205 t209 _ ?side1 ?side2 A18.out).mono ?_); (case side1 => repeat (first | exact (by repeat (first | (with_reducible exact HR208.out) | (with_reducible refine Kd.C_alloc ?_ _) | (with_reducible refine Kd.C_drewN ?_ _) | (with_reducible refine Kd.C_drew ?_) | exact HR208.out)) | (with_reducible refine Kd.C_alloc ?_ _) | (with_reducible refine Kd.C_drewN ?_ _) | (with_reducible refine Kd.C_drew ?_))); (case side2 => exact HC208.out); rintro e w44 ⟨v210, rfl, ho0, hb⟩; refine ⟨_, rfl, ?_⟩; have n0_ := Aside0.mk (Kd.Q_elder' (by (with_reducible repeat (first | apply Kd.Q_alloc | apply Kd.Q_drewN | apply Kd.Q_drew)); exact HO_6.out) (Kd.R_base ho0) hb); have n1_ := Aside0.mk (Kd.R_lower (Kd.R_new' ho0 (Kd.Q_lt (by (with_reducible repeat (first | apply Kd.Q_alloc | apply Kd.Q_drewN | apply Kd.Q_drew)); exact HO_6.out))) (below_size (by repeat (first | (with_reducible first | exact HB.out | apply below_alloc | apply pw_below_drewN | apply below_drew1 | refine below_set ?_ (IsS60.ge HI200.out)) | exact HB.out)))); have n2_ := Aside0.mk (IsS60.below (by repeat (first | (with_reducible first | exact HI200.out | apply IsS60.alloc | apply IsS60.drewN | apply IsS60.drew | apply IsS60.set_0 | apply IsS60.set_1) | exact HI200.out)) hb); have n3_ := Aside0.mk (Kd.C_below (by repeat (first | (with_reducible exact HR208.out) | (with_reducible refine Kd.C_alloc ?_ _) | (with_reducible refine Kd.C_drewN ?_ _) | (with_reducible refine Kd.C_drew ?_) | exact HR208.out)) hb); have n4_ := Aside0.mk (below_step (by repeat (first | (with_reducible first | exact HB.out | apply below_alloc | apply pw_below_drewN | apply below_drew1 | refine below_set ?_ (IsS60.ge HI200.out)) | exact HB.out)) hb); clear HO_6; clear HI200; clear HR208; clear HB; have HO_6 := n0_; have HO211 := n1_; have HI200 := n2_; have HR208 := n3_; have HB := n4_; clear n0_ n1_ n2_ n3_ n4_; (try clear hb); (try clear hb2); (try clear hk); (try clear hi); (try clear ho0); obtain ⟨Ao45, co45, eo45⟩ := Kd.R_slice HO211.out; subst eo45) | ((with_reducible refine gate_callee (f := 26) rfl ?_); refine goesL_ (some 41) rfl rfl Try.func26 (by kernel_rfl) rfl #[.pointer (some ⟨g200, 0, none⟩), .slice Ao45 t209.length co45] rfl (by (try simp only [List.map_toArray, List.map_cons, List.map_nil]); first | done | rfl | (simp only [List.length_drop, List.length_take]; rfl)) ?_; (with_reducible refine (crc_Digest_Write.calls kj11 g200 x201000_1 x201001_1 _ _ t209 t212 t213 w _ ?side1 ?side2 ?side3 ?side4 ?side5 A19.out).mono ?_); (case side1 => repeat (first | (with_reducible first | exact HI200.out | apply IsS60.alloc | apply IsS60.drewN | apply IsS60.drew | apply IsS60.set_0 | apply IsS60.set_1) | exact HI200.out)); (case side2 => repeat (first | (with_reducible first | exact HB.out | apply below_alloc | apply pw_below_drewN | apply below_drew1 | refine below_set ?_ (IsS60.ge HI200.out)) | exact HB.out)); (case side3 => repeat (first | exact (Kd.R_reads' HO211.out).2.2 | (with_reducible refine Kd.C_alloc ?_ _) | (with_reducible refine Kd.C_drewN ?_ _) | (with_reducible refine Kd.C_drew ?_))); (case side4 => exact (Kd.R_reads' HO211.out).2.1); (case side5 => exact far_slice (IsS60.own_ne HI200.out HO211.out (by decide))); rintro e w46 ⟨rfl, hi, hb, hk⟩; refine ⟨_, rfl, ?_⟩; have n0_ := Aside0.mk (Kd.Q_mono (Kd.Q_keep (IsS60.apartQ (show IsS60 w _ g200 x201000_1 x201001_1 from by repeat (first | (with_reducible first | exact HI200.out | apply IsS60.alloc | apply IsS60.drewN | apply IsS60.drew | apply IsS60.set_0 | apply IsS60.set_1) | exact HI200.out)) (by (with_reducible repeat (first | apply Kd.Q_alloc | apply Kd.Q_drewN | apply Kd.Q_drew)); exact HO_6.out) (by decide)) hk (fun _ h => h.2)) (fun _ h => h.1)); have n1_ := Aside0.mk (Kd.R_mono (Kd.R_keep (IsS60.apart (show IsS60 w _ g200 x201000_1 x201001_1 from by repeat (first | (with_reducible first | exact HI200.out | apply IsS60.alloc | apply IsS60.drewN | apply IsS60.drew | apply IsS60.set_0 | apply IsS60.set_1) | exact HI200.out)) (by (with_reducible repeat (first | apply Kd.R_alloc | apply Kd.R_drewN | apply Kd.R_drew)); exact HO211.out) (by decide)) hk (fun _ h => h.2)) (fun _ h => h.1)); have n2_ := Aside0.mk (hb); have n3_ := Aside0.mk (hi); clear HO_6; clear HO211; clear HB; clear HI200; have HO_6 := n0_; have HO211 := n1_; have HB := n2_; have HI200 := n3_; clear n0_ n1_ n2_ n3_; (try clear hb); (try clear hb2); (try clear hk); (try clear hi); have n_ := Aside0.mk (Kd.Q_mono (ok' := (fun k_ => some k_ ≠ (.slice Ao45 t209.length co45 : Value).ownBlock)) HO_6.out (fun k_ hk => hk.2)); clear HO_6; have HO_6 := n_; clear n_; have q47 : ((ji15) : Int) ≤ ((x6_1.length : Int) : Int) := of_decide_eq_true (by first | (with_reducible assumption) | assumption); obtain ⟨i047, hi047, _, hsz47, _⟩ := info_parts info5; have hcut47 := cut_from (P := Try.prog) 23 5 .i64 Try.underlying23 hi047 1 hsz47 Ao42 x6_1.length co42 (ji15) (of_decide_eq_true (by first | (with_reducible assumption) | assumption)) q47; have hr47 := Kd.Q_drop (k := ((ji15) : Int).toNat) HO_6.out (by omega); obtain ⟨A47, hA47⟩ : ∃ A1, A1 = (if co42 = ((ji15) : Int).toNat then Ao42 else (Ao42 : Option Addr).map (·.add (((ji15) : Int).toNat * 1))) := ⟨_, rfl⟩; obtain ⟨c47, hc47⟩ : ∃ c1, c1 = co42 - ((ji15) : Int).toNat := ⟨_, rfl⟩; have hy47 : y214.length = x6_1.length - ((ji15) : Int).toNat := (by rw [Ny214.out, List.length_drop]); rw [← Ny214.out] at hr47; rw [← hy47, ← hA47, ← hc47] at hcut47; replace hr47 : Kd.Q (Kd.int .u8) 5 w46 w.heap.size (fun k_ => some k_ ≠ (.slice Ao45 t209.length co45 : Value).ownBlock) (.slice A47 y214.length c47) y214 := (by rw [hA47, hc47, hy47]; exact hr47); have HE47 : Aside0 ((Value.slice A47 y214.length c47).ownBlock = (.slice Ao42 x6_1.length co42 : Value).ownBlock) := ⟨by rw [hA47]; split <;> (cases (Ao42 : Option Addr) <;> first | rfl | (simp only [Value.ownBlock, Option.map_some, Addr.add]; split <;> rfl))⟩; clear hy47 hi047 hsz47 HO_6 hA47 hc47; have HO216 := Aside0.mk hr47; clear hr47; replace q47 := eq_true q47; have n_ := Aside0.mk (Kd.R_mono (ok' := fun k_ => (True ∧ some k_ ≠ (.slice A47 y214.length c47 : Value).ownBlock)) HO211.out (fun k_ hk => ⟨trivial, (by rw [HE47.out]; exact hk.2)⟩)); clear HO211; have HO211 := n_; clear n_))
                              have n0_ := Aside0.mk (Kd.Q_drew HO216.out)
                              have n1_ := Aside0.mk (Kd.R_drew HO211.out)
                              have n2_ := Aside0.mk (IsS60.drew HI200.out)
                              have n3_ := Aside0.mk (below_drew1 HB.out)
                              clear HO216
                              clear HO211
                              clear HI200
                              clear HB
                              have HO216 := n0_
                              have HO211 := n1_
                              have HI200 := n2_
                              have HB := n3_
                              clear n0_ n1_ n2_ n3_
                              refine start_ (n := 22) (S := fun w' => True) (ds := []) #[false, false, false, false, false, false, false, false, false, false, false, false, false, false, false, false, false, false, false, false, false, false] (by kernel_rfl) rfl rfl trivial (fun hHeld => ?_); refine with_tabW amberlaw01_CrcPieces.tab16 amberlaw01_CrcPieces.bits16 (fun HT_ HW_ => ?_)
                              generalize w46.drew = w48 at HO216 HO211 HI200 HB hHeld ⊢
                              refine pure_ (i := 0) (N := some 45) (v := ?_) (a' := ?_) #[true, false, false, false, false, false, false, false, false, false, false, false, false, false, false, false, false, false, false, false, false, false] rfl rfl (any_of HT_.out (by kernel_rfl)) (fun _ _ _ h => h) (Or.inl ⟨by rfl, ?_⟩) ?_ ?_
                              rotate_left
                              · intro w'
                                go_simp
                                with_reducible rfl
                              rotate_left
                              · simp only [Act.put, List.setIfInBounds_toArray, List.set_cons_zero, List.set_cons_succ, i64_w, i32_w]
                                rfl
                              refine pure_ (i := 2) (N := some 47) (v := ?_) (a' := ?_) #[true, false, true, false, false, false, false, false, false, false, false, false, false, false, false, false, false, false, false, false, false, false] rfl rfl (any_of HT_.out (by kernel_rfl)) (fun _ _ _ h => h) (Or.inl ⟨by rfl, ?_⟩) ?_ ?_
                              rotate_left
                              · intro w'
                                go_simp
                                with_reducible rfl
                              rotate_left
                              · simp only [Act.put, List.setIfInBounds_toArray, List.set_cons_zero, List.set_cons_succ, i64_w, i32_w]
                                rfl
                              refine pure_ (i := 3) (N := some 48) (v := ?_) (a' := ?_) #[true, false, true, true, false, false, false, false, false, false, false, false, false, false, false, false, false, false, false, false, false, false] rfl rfl (any_of HT_.out (by kernel_rfl)) (fun _ _ _ h => h) (Or.inl ⟨by rfl, ?_⟩) ?_ ?_
                              rotate_left
                              · intro w'
                                go_simp
                                with_reducible rfl
                              rotate_left
                              · simp only [Act.put, List.setIfInBounds_toArray, List.set_cons_zero, List.set_cons_succ, i64_w, i32_w]
                                rfl
                              refine pure_ (i := 5) (N := some 50) (v := ?_) (a' := ?_) #[true, false, true, true, false, true, false, false, false, false, false, false, false, false, false, false, false, false, false, false, false, false] rfl rfl (any_of HT_.out (by kernel_rfl)) (fun _ _ _ h => h) (Or.inl ⟨by rfl, ?_⟩) ?_ ?_
                              rotate_left
                              · intro w'
                                go_simp
                                with_reducible rfl
                              rotate_left
                              · simp only [Act.put, List.setIfInBounds_toArray, List.set_cons_zero, List.set_cons_succ, i64_w, i32_w]
                                rfl
                              refine pure_ (i := 6) (N := some 51) (v := ?_) (a' := ?_) #[true, false, true, true, false, true, true, false, false, false, false, false, false, false, false, false, false, false, false, false, false, false] rfl rfl (any_of HT_.out (by kernel_rfl)) (fun _ _ _ h => h) (Or.inl ⟨by rfl, ?_⟩) ?_ ?_
                              rotate_left
                              · intro w'
                                go_simp
                                with_reducible rfl
                              rotate_left
                              · simp only [Act.put, List.setIfInBounds_toArray, List.set_cons_zero, List.set_cons_succ, i64_w, i32_w]
                                rfl
                              refine one_ (i := 1) (N := some 46) #[true, true, true, true, false, true, true, false, false, false, false, false, false, false, false, false, false, false, false, false, false, false] rfl rfl (one_of HT_.out (by kernel_rfl)) (by decide) (fun K hK => ?_)
                              refine goes_ Try.func25 (by kernel_rfl) rfl #[.pointer (some ⟨g200, 0, none⟩)] (by rfl) rfl rfl (by (try simp only [List.map_toArray, List.map_cons, List.map_nil]); first | done | rfl | (simp only [List.length_drop, List.length_take]; rfl)) ?_
                              with_reducible refine (crc_Digest_Len.calls g200 t212 t213 t217 t218 t219 w _ ?side1 ?side2 A21.out).mono ?_
                              (case side1 => repeat (first | (with_reducible first | exact HI200.out | apply IsS60.alloc | apply IsS60.drewN | apply IsS60.drew | apply IsS60.set_0 | apply IsS60.set_1) | exact HI200.out))
                              (case side2 => repeat (first | (with_reducible first | exact HB.out | apply below_alloc | apply pw_below_drewN | apply below_drew1 | refine below_set ?_ (IsS60.ge HI200.out)) | exact HB.out))
                              rintro e w49 ⟨rfl, hi, hb, hk⟩
                              refine ⟨_, rfl, ?_⟩
                              have n0_ := Aside0.mk (Kd.Q_mono (Kd.Q_keep (IsS60.apartQ (show IsS60 w _ g200 t212 t213 from by repeat (first | (with_reducible first | exact HI200.out | apply IsS60.alloc | apply IsS60.drewN | apply IsS60.drew | apply IsS60.set_0 | apply IsS60.set_1) | exact HI200.out)) (by (with_reducible repeat (first | apply Kd.Q_alloc | apply Kd.Q_drewN | apply Kd.Q_drew)); exact HO216.out) (by decide)) hk (fun _ h => h.2)) (fun _ h => h.1))
                              have n1_ := Aside0.mk (Kd.R_mono (Kd.R_keep (IsS60.apart (show IsS60 w _ g200 t212 t213 from by repeat (first | (with_reducible first | exact HI200.out | apply IsS60.alloc | apply IsS60.drewN | apply IsS60.drew | apply IsS60.set_0 | apply IsS60.set_1) | exact HI200.out)) (by (with_reducible repeat (first | apply Kd.R_alloc | apply Kd.R_drewN | apply Kd.R_drew)); exact HO211.out) (by decide)) hk (fun _ h => h.2)) (fun _ h => h.1))
                              have n2_ := Aside0.mk (hb)
                              have n3_ := Aside0.mk (hi)
                              clear HO216
                              clear HO211
                              clear HB
                              clear HI200
                              have HO216 := n0_
                              have HO211 := n1_
                              have HB := n2_
                              have HI200 := n3_
                              clear n0_ n1_ n2_ n3_
                              (try clear hb)
                              (try clear hb2)
                              (try clear hk)
                              (try clear hi)
                              refine hK.out _ _ trivial (fun hHeld => ?_)
                              clear hK K
                              refine norm_ (a' := ?_) ?_ ?_
                              rotate_left
                              · show Act.put _ (some 46) _ = _
                                simp only [Act.put, List.setIfInBounds_toArray, List.set_cons_zero, List.set_cons_succ, i64_w, i32_w]
                                rfl
                              refine pure_ (i := 4) (N := some 49) (v := ?_) (a' := ?_) #[true, true, true, true, true, true, true, false, false, false, false, false, false, false, false, false, false, false, false, false, false, false] rfl rfl (any_of HT_.out (by kernel_rfl)) (fun _ _ _ h => h) (Or.inl ⟨by rfl, ?_⟩) ?_ ?_
                              rotate_left
                              · intro w'
                                go_simp
                                with_reducible rfl
                              rotate_left
                              · simp only [Act.put, List.setIfInBounds_toArray, List.set_cons_zero, List.set_cons_succ, i64_w, i32_w]
                                rfl
                              refine pure_ (i := 7) (N := some 52) (v := ?_) (a' := ?_) #[true, true, true, true, true, true, true, true, false, false, false, false, false, false, false, false, false, false, false, false, false, false] rfl rfl (any_of HT_.out (by kernel_rfl)) (fun _ _ _ h => h) (Or.inl ⟨by rfl, ?_⟩) ?_ ?_
                              rotate_left
                              · intro w'
                                go_simp
                                with_reducible rfl
                              rotate_left
                              · simp only [Act.put, List.setIfInBounds_toArray, List.set_cons_zero, List.set_cons_succ, i64_w, i32_w]
                                rfl
                              refine pure_ (i := 8) (N := some 53) (v := ?_) (a' := ?_) #[true, true, true, true, true, true, true, true, true, false, false, false, false, false, false, false, false, false, false, false, false, false] rfl rfl (any_of HT_.out (by kernel_rfl)) (fun _ _ _ h => h) (Or.inl ⟨by rfl, ?_⟩) ?_ ?_
                              rotate_left
                              · intro w'
                                go_simp
                                with_reducible rfl
                              rotate_left
                              · simp only [Act.put, List.setIfInBounds_toArray, List.set_cons_zero, List.set_cons_succ, i64_w, i32_w]
                                rfl
                              refine pure_ (i := 9) (N := some 54) (v := ?_) (a' := ?_) #[true, true, true, true, true, true, true, true, true, true, false, false, false, false, false, false, false, false, false, false, false, false] rfl rfl (any_of HT_.out (by kernel_rfl)) (fun _ _ _ h => h) (Or.inl ⟨by rfl, ?_⟩) ?_ ?_
                              rotate_left
                              · intro w'
                                go_simp
                                with_reducible rfl
                              rotate_left
                              · simp only [Act.put, List.setIfInBounds_toArray, List.set_cons_zero, List.set_cons_succ, i64_w, i32_w]
                                rfl
                              refine pure_ (i := 11) (N := some 56) (v := ?_) (a' := ?_) #[true, true, true, true, true, true, true, true, true, true, false, true, false, false, false, false, false, false, false, false, false, false] rfl rfl (any_of HT_.out (by kernel_rfl)) (fun _ _ _ h => h) (Or.inl ⟨by rfl, ?_⟩) ?_ ?_
                              rotate_left
                              · intro w'
                                go_simp
                                with_reducible rfl
                              rotate_left
                              · simp only [Act.put, List.setIfInBounds_toArray, List.set_cons_zero, List.set_cons_succ, i64_w, i32_w]
                                rfl
                              refine pure_ (i := 12) (N := some 57) (v := ?_) (a' := ?_) #[true, true, true, true, true, true, true, true, true, true, false, true, true, false, false, false, false, false, false, false, false, false] rfl rfl (any_of HT_.out (by kernel_rfl)) (fun _ _ _ h => h) (Or.inl ⟨by rfl, ?_⟩) ?_ ?_
                              rotate_left
                              · intro w'
                                go_simp
                                with_reducible rfl
                              rotate_left
                              · simp only [Act.put, List.setIfInBounds_toArray, List.set_cons_zero, List.set_cons_succ, i64_w, i32_w]
                                rfl
                              refine pure_ (i := 13) (N := some 58) (v := ?_) (a' := ?_) #[true, true, true, true, true, true, true, true, true, true, false, true, true, true, false, false, false, false, false, false, false, false] rfl rfl (any_of HT_.out (by kernel_rfl)) (fun _ _ _ h => h) (Or.inl ⟨by rfl, ?_⟩) ?_ ?_
                              rotate_left
                              · intro w'
                                go_simp
                                with_reducible rfl
                              rotate_left
                              · simp only [Act.put, List.setIfInBounds_toArray, List.set_cons_zero, List.set_cons_succ, i64_w, i32_w]
                                rfl
                              refine pure_ (i := 14) (N := some 59) (v := ?_) (a' := ?_) #[true, true, true, true, true, true, true, true, true, true, false, true, true, true, true, false, false, false, false, false, false, false] rfl rfl (any_of HT_.out (by kernel_rfl)) (fun _ _ _ h => h) (Or.inl ⟨by rfl, ?_⟩) ?_ ?_
                              rotate_left
                              · intro w'
                                go_simp
                                with_reducible rfl
                              rotate_left
                              · simp only [Act.put, List.setIfInBounds_toArray, List.set_cons_zero, List.set_cons_succ, i64_w, i32_w]
                                rfl
                              refine pure_ (i := 15) (N := some 60) (v := ?_) (a' := ?_) #[true, true, true, true, true, true, true, true, true, true, false, true, true, true, true, true, false, false, false, false, false, false] rfl rfl (any_of HT_.out (by kernel_rfl)) (fun _ _ _ h => h) (Or.inl ⟨by rfl, ?_⟩) ?_ ?_
                              rotate_left
                              · intro w'
                                go_simp
                                with_reducible rfl
                              rotate_left
                              · simp only [Act.put, List.setIfInBounds_toArray, List.set_cons_zero, List.set_cons_succ, i64_w, i32_w]
                                rfl
                              refine pure_ (i := 16) (N := some 61) (v := ?_) (a' := ?_) #[true, true, true, true, true, true, true, true, true, true, false, true, true, true, true, true, true, false, false, false, false, false] rfl rfl (any_of HT_.out (by kernel_rfl)) (fun _ _ _ h => h) (Or.inl ⟨by rfl, ?_⟩) ?_ ?_
                              rotate_left
                              · intro w'
                                go_simp
                                with_reducible rfl
                              rotate_left
                              · simp only [Act.put, List.setIfInBounds_toArray, List.set_cons_zero, List.set_cons_succ, i64_w, i32_w]
                                rfl
                              refine pure_ (i := 17) (N := some 62) (v := ?_) (a' := ?_) #[true, true, true, true, true, true, true, true, true, true, false, true, true, true, true, true, true, true, false, false, false, false] rfl rfl (any_of HT_.out (by kernel_rfl)) (fun _ _ _ h => h) (Or.inl ⟨by rfl, ?_⟩) ?_ ?_
                              rotate_left
                              · intro w'
                                have hle_ : ji24 ≤ (c0 : Int) := Int.le_trans (of_eq_true c26b0) (by have h2_ := HC0.out; omega)
                                replace hle_ := eq_true hle_
                                go_simp
                                with_reducible rfl
                              rotate_left
                              · simp only [Act.put, List.setIfInBounds_toArray, List.set_cons_zero, List.set_cons_succ, i64_w, i32_w]
                                rfl
                              refine one_ (i := 10) (N := some 55) #[true, true, true, true, true, true, true, true, true, true, true, true, true, true, true, true, true, true, false, false, false, false] rfl rfl (one_of HT_.out (by kernel_rfl)) (by decide) (fun K hK => ?_)
                              refine goes_ Try.func24 (by kernel_rfl) rfl #[.pointer (some ⟨g200, 0, none⟩)] (by rfl) rfl rfl (by (try simp only [List.map_toArray, List.map_cons, List.map_nil]); first | done | rfl | (simp only [List.length_drop, List.length_take]; rfl)) ?_
                              with_reducible refine (crc_Digest_Sum.calls g200 t218 t219 t220 t221 t222 w _ ?side1 ?side2 A23.out).mono ?_
                              (case side1 => repeat (first | (with_reducible first | exact HI200.out | apply IsS60.alloc | apply IsS60.drewN | apply IsS60.drew | apply IsS60.set_0 | apply IsS60.set_1) | exact HI200.out))
                              (case side2 => repeat (first | (with_reducible first | exact HB.out | apply below_alloc | apply pw_below_drewN | apply below_drew1 | refine below_set ?_ (IsS60.ge HI200.out)) | exact HB.out))
                              rintro e w50 ⟨rfl, hi, hb, hk⟩
                              refine ⟨_, rfl, ?_⟩
                              have n0_ := Aside0.mk (Kd.Q_mono (Kd.Q_keep (IsS60.apartQ (show IsS60 w _ g200 t218 t219 from by repeat (first | (with_reducible first | exact HI200.out | apply IsS60.alloc | apply IsS60.drewN | apply IsS60.drew | apply IsS60.set_0 | apply IsS60.set_1) | exact HI200.out)) (by (with_reducible repeat (first | apply Kd.Q_alloc | apply Kd.Q_drewN | apply Kd.Q_drew)); exact HO216.out) (by decide)) hk (fun _ h => h.2)) (fun _ h => h.1))
                              have n1_ := Aside0.mk (Kd.R_mono (Kd.R_keep (IsS60.apart (show IsS60 w _ g200 t218 t219 from by repeat (first | (with_reducible first | exact HI200.out | apply IsS60.alloc | apply IsS60.drewN | apply IsS60.drew | apply IsS60.set_0 | apply IsS60.set_1) | exact HI200.out)) (by (with_reducible repeat (first | apply Kd.R_alloc | apply Kd.R_drewN | apply Kd.R_drew)); exact HO211.out) (by decide)) hk (fun _ h => h.2)) (fun _ h => h.1))
                              have n2_ := Aside0.mk (hb)
                              have n3_ := Aside0.mk (hi)
                              clear HO216
                              clear HO211
                              clear HB
                              clear HI200
                              have HO216 := n0_
                              have HO211 := n1_
                              have HB := n2_
                              have HI200 := n3_
                              clear n0_ n1_ n2_ n3_
                              (try clear hb)
                              (try clear hb2)
                              (try clear hk)
                              (try clear hi)
                              obtain ⟨i051, hi051, _, hsz51, _⟩ := info_parts info5
                              obtain ⟨hcut51, hA51, hC51⟩ := print_take_of (P := Try.prog) (Value.int .u8) 0 23 5 .i64 Try.underlying23 hi051 hsz51 A0 c0 l0 (ji24) (of_decide_eq_true (by first | (with_reducible assumption) | assumption)) (of_decide_eq_true (by first | (with_reducible assumption) | assumption)) HC0.out
                              have HR223 := Aside0.mk (Kd.C_of_reads (h1 := fun _ => rfl) (hA51 _ (Kd.reads_of_C HR0.out)))
                              have HC223 := Aside0.mk hC51
                              clear hA51 hC51 hi051 hsz51
                              refine hK.out _ _ trivial (fun hHeld => ?_)
                              clear hK K
                              refine norm_ (a' := ?_) ?_ ?_
                              rotate_left
                              · show Act.put _ (some 55) _ = _
                                simp only [Act.put, List.setIfInBounds_toArray, List.set_cons_zero, List.set_cons_succ, i64_w, i32_w]
                                rfl
                              refine one_ (i := 18) (N := some 63) #[true, true, true, true, true, true, true, true, true, true, true, true, true, true, true, true, true, true, true, false, false, false] rfl rfl (one_of HT_.out (by kernel_rfl)) (by decide) (fun K hK => ?_)
                              refine goes_ Try.func16 (by kernel_rfl) rfl #[.slice A0 (l0.take ((ji24) : Int).toNat).length c0] (by rfl) rfl rfl (by (try simp only [List.map_toArray, List.map_cons, List.map_nil]); first | done | (rw [show (l0.take ((ji24) : Int).toNat).length = (ji24).toNat from (by rw [List.length_take]; have h_ : ((ji24) : Int) ≤ (l0.length : Int) := of_decide_eq_true (by first | (with_reducible assumption) | assumption); omega)] <;> rfl) | (simp only [hji24]; rfl) | rfl | (simp only [List.length_drop, List.length_take]; rfl)) ?_
                              with_reducible refine (amberlaw01_copied.calls _ _ (l0.take ((ji24) : Int).toNat) t224 _ ?side1 ?side2 A27.out).mono ?_
                              (case side1 => repeat (first | exact (Kd.C_below HR223.out HB.out) | (with_reducible refine Kd.C_alloc ?_ _) | (with_reducible refine Kd.C_drewN ?_ _) | (with_reducible refine Kd.C_drew ?_)))
                              (case side2 => exact HC223.out)
                              rintro e w52 ⟨v225, rfl, ho0, hb⟩
                              refine ⟨_, rfl, ?_⟩
                              have n0_ := Aside0.mk (Kd.Q_elder' (by (with_reducible repeat (first | apply Kd.Q_alloc | apply Kd.Q_drewN | apply Kd.Q_drew)); exact HO216.out) (Kd.R_base ho0) hb)
                              have n1_ := Aside0.mk (Kd.R_elder' (by (with_reducible repeat (first | apply Kd.R_alloc | apply Kd.R_drewN | apply Kd.R_drew)); exact HO211.out) (Kd.R_base ho0) hb)
                              have n2_ := Aside0.mk (Kd.R_lower (Kd.R_new' (Kd.R_new' ho0 (Kd.Q_lt (by (with_reducible repeat (first | apply Kd.Q_alloc | apply Kd.Q_drewN | apply Kd.Q_drew)); exact HO216.out))) (Kd.R_lt (by (with_reducible repeat (first | apply Kd.R_alloc | apply Kd.R_drewN | apply Kd.R_drew)); exact HO211.out))) (below_size (by repeat (first | (with_reducible first | exact HB.out | apply below_alloc | apply pw_below_drewN | apply below_drew1 | refine below_set ?_ (IsS60.ge HI200.out)) | exact HB.out))))
                              have n3_ := Aside0.mk (IsS60.below (by repeat (first | (with_reducible first | exact HI200.out | apply IsS60.alloc | apply IsS60.drewN | apply IsS60.drew | apply IsS60.set_0 | apply IsS60.set_1) | exact HI200.out)) hb)
                              have n4_ := Aside0.mk (below_step (by repeat (first | (with_reducible first | exact HB.out | apply below_alloc | apply pw_below_drewN | apply below_drew1 | refine below_set ?_ (IsS60.ge HI200.out)) | exact HB.out)) hb)
                              clear HO216
                              clear HO211
                              clear HI200
                              clear HB
                              have HO216 := n0_
                              have HO211 := n1_
                              have HO226 := n2_
                              have HI200 := n3_
                              have HB := n4_
                              clear n0_ n1_ n2_ n3_ n4_
                              (try clear hb)
                              (try clear hb2)
                              (try clear hk)
                              (try clear hi)
                              (try clear ho0)
                              obtain ⟨Ao53, co53, eo53⟩ := Kd.R_slice HO226.out
                              (first | subst eo53 | (injection eo53 with f1_ f2_ f3_; have f4_ := f1_.symm; have f5_ := f3_.symm; clear f1_ f2_ f3_; subst f4_; subst f5_))
                              refine hK.out _ _ trivial (fun hHeld => ?_)
                              clear hK K
                              refine norm_ (a' := ?_) ?_ ?_
                              rotate_left
                              · show Act.put _ (some 63) _ = _
                                simp only [Act.put, List.setIfInBounds_toArray, List.set_cons_zero, List.set_cons_succ, i64_w, i32_w]
                                rfl
                              refine one_ (i := 19) (N := some 64) #[true, true, true, true, true, true, true, true, true, true, true, true, true, true, true, true, true, true, true, true, false, false] rfl rfl (one_of HT_.out (by kernel_rfl)) (by decide) (fun K hK => ?_)
                              refine goes_ Try.func15 (by kernel_rfl) rfl #[.slice Ao53 t224.length co53] (by rfl) rfl rfl (by (try simp only [List.map_toArray, List.map_cons, List.map_nil]); first | done | rfl | (simp only [List.length_drop, List.length_take]; rfl)) ?_
                              with_reducible refine (crc_Sum.calls kj11 _ _ t224 t227 _ ?side1 ?side2 A28.out).mono ?_
                              (case side1 => repeat (first | exact (Kd.R_reads' HO226.out).2.2 | (with_reducible refine Kd.C_alloc ?_ _) | (with_reducible refine Kd.C_drewN ?_ _) | (with_reducible refine Kd.C_drew ?_)))
                              (case side2 => exact (Kd.R_reads' HO226.out).2.1)
                              rintro e w' ⟨rfl, ⟨nd, rfl⟩⟩
                              refine ⟨_, rfl, ?_⟩
                              refine hK.out _ _ trivial (fun hHeld => ?_)
                              clear hK K
                              refine norm_ (a' := ?_) ?_ ?_
                              rotate_left
                              · show Act.put _ (some 64) _ = _
                                simp only [Act.put, List.setIfInBounds_toArray, List.set_cons_zero, List.set_cons_succ, i64_w, i32_w]
                                rfl
                              refine pure_ (i := 20) (N := some 65) (v := ?_) (a' := ?_) #[true, true, true, true, true, true, true, true, true, true, true, true, true, true, true, true, true, true, true, true, true, false] rfl rfl (any_of HT_.out (by kernel_rfl)) (fun _ _ _ h => h) (Or.inl ⟨by rfl, ?_⟩) ?_ ?_
                              rotate_left
                              · intro w'
                                go_simp
                                with_reducible rfl
                              rotate_left
                              · simp only [Act.put, List.setIfInBounds_toArray, List.set_cons_zero, List.set_cons_succ, i64_w, i32_w]
                                rfl
                              refine pure_ (i := 21) (N := some 66) (v := ?_) (a' := ?_) #[true, true, true, true, true, true, true, true, true, true, true, true, true, true, true, true, true, true, true, true, true, true] rfl rfl (any_of HT_.out (by kernel_rfl)) (fun _ _ _ h => h) (Or.inl ⟨by rfl, ?_⟩) ?_ ?_
                              rotate_left
                              · intro w'
                                go_simp
                                with_reducible rfl
                              rotate_left
                              · simp only [Act.put, List.setIfInBounds_toArray, List.set_cons_zero, List.set_cons_succ, i64_w, i32_w]
                                rfl
                              refine done_ (done_of HT_.out (by kernel_rfl)) ?_
                              try go_wp2
                              go_ret
                              exact ⟨by first | rfl | (simp [errW_none, errW_some] <;> rfl) | (simp only [← hji15, ← hji24]; first | rfl | (simp [errW_none, errW_some] <;> rfl)) | (simp [*, errW_none, errW_some] <;> rfl), by repeat (first | (with_reducible first | exact HB.out | apply below_alloc | apply pw_below_drewN | apply below_drew1 | refine below_set ?_ (IsS60.ge HI200.out)) | exact HB.out)⟩
                          · rw [if_neg c26] at H
                            exact absurd H (by simp)
                        · rw [if_neg c25] at H
                          exact absurd H (by simp)
                      · rw [if_neg c22] at H
                        have c22b0 : ((wrap64 (t217 + (y214.length : Int))) == (l0.length : Int)) = false := beq_eq_false_iff_ne.mpr c22
                        have c22b1 : ((wrap64 (t217 + (y214.length : Int))) != (l0.length : Int)) = true := bne_iff_ne.mpr c22
                        obtain rfl := Option.some.inj H
                        obtain ⟨Ao54, co54, eo54, _⟩ := Kd.Q_slice HO_6.out
                        subst eo54
                        have q55 : ((ji15) : Int) ≤ ((x6_1.length : Int) : Int) := of_decide_eq_true (by first | (with_reducible assumption) | assumption)
                        obtain ⟨i055, hi055, _, hsz55, _⟩ := info_parts info5
                        have hroom55 : x6_1.length ≤ co54 := (Kd.Q_reads' HO_6.out).2.1
                        have hC55 : Kd.C (Kd.int .u8) _ Ao54 x6_1.length x6_1 := (Kd.Q_reads' HO_6.out).2.2
                        have hcut55 := cut_to (P := Try.prog) 23 5 .i64 Try.underlying23 hi055 Ao54 x6_1.length co54 (ji15) (of_decide_eq_true (by first | (with_reducible assumption) | assumption)) q55 hroom55
                        have hr55 := Kd.C_take (m := ((ji15) : Int).toNat) hC55 (by omega)
                        have hy55 : y205.length = ((ji15) : Int).toNat := (by rw [Ny205.out, List.length_take]; omega)
                        rw [← Ny205.out] at hr55
                        rw [← hy55] at hcut55
                        have HR208 := Aside0.mk hr55
                        have HC208 := Aside0.mk (show y205.length ≤ co54 from by omega)
                        clear hr55 hC55 hroom55 hi055 hsz55
                        have KY55 := Aside0.mk hy55
                        clear hy55
                        have KL55 := Aside0.mk (show ((ji15) : Int).toNat ≤ x6_1.length from by omega)
                        replace q55 := eq_true q55
                        try go_wp2_with (first | ((with_reducible refine gate_callee (f := 16) rfl ?_); refine goesL_ (some 40) rfl rfl Try.func16 (by kernel_rfl) rfl #[.slice Ao54 y205.length co54] rfl (by (try simp only [List.map_toArray, List.map_cons, List.map_nil]); first | done | rfl | (simp only [List.length_drop, List.length_take]; rfl)) ?_; (with_reducible refine (amberlaw01_copied.calls _ _ y205 t209 _ ?side1 ?side2 A18.out).mono ?_); (case side1 => repeat (first | exact (by repeat (first | (with_reducible exact HR208.out) | (with_reducible refine Kd.C_alloc ?_ _) | (with_reducible refine Kd.C_drewN ?_ _) | (with_reducible refine Kd.C_drew ?_) | exact HR208.out)) | (with_reducible refine Kd.C_alloc ?_ _) | (with_reducible refine Kd.C_drewN ?_ _) | (with_reducible refine Kd.C_drew ?_))); (case side2 => exact HC208.out); rintro e w56 ⟨v210, rfl, ho0, hb⟩; refine ⟨_, rfl, ?_⟩; have n0_ := Aside0.mk (Kd.Q_elder' (by (with_reducible repeat (first | apply Kd.Q_alloc | apply Kd.Q_drewN | apply Kd.Q_drew)); exact HO_6.out) (Kd.R_base ho0) hb); have n1_ := Aside0.mk (Kd.R_lower (Kd.R_new' ho0 (Kd.Q_lt (by (with_reducible repeat (first | apply Kd.Q_alloc | apply Kd.Q_drewN | apply Kd.Q_drew)); exact HO_6.out))) (below_size (by repeat (first | (with_reducible first | exact HB.out | apply below_alloc | apply pw_below_drewN | apply below_drew1 | refine below_set ?_ (IsS60.ge HI200.out)) | exact HB.out)))); have n2_ := Aside0.mk (IsS60.below (by repeat (first | (with_reducible first | exact HI200.out | apply IsS60.alloc | apply IsS60.drewN | apply IsS60.drew | apply IsS60.set_0 | apply IsS60.set_1) | exact HI200.out)) hb); have n3_ := Aside0.mk (Kd.C_below (by repeat (first | (with_reducible exact HR208.out) | (with_reducible refine Kd.C_alloc ?_ _) | (with_reducible refine Kd.C_drewN ?_ _) | (with_reducible refine Kd.C_drew ?_) | exact HR208.out)) hb); have n4_ := Aside0.mk (below_step (by repeat (first | (with_reducible first | exact HB.out | apply below_alloc | apply pw_below_drewN | apply below_drew1 | refine below_set ?_ (IsS60.ge HI200.out)) | exact HB.out)) hb); clear HO_6; clear HI200; clear HR208; clear HB; have HO_6 := n0_; have HO211 := n1_; have HI200 := n2_; have HR208 := n3_; have HB := n4_; clear n0_ n1_ n2_ n3_ n4_; (try clear hb); (try clear hb2); (try clear hk); (try clear hi); (try clear ho0); obtain ⟨Ao57, co57, eo57⟩ := Kd.R_slice HO211.out; subst eo57) | ((with_reducible refine gate_callee (f := 26) rfl ?_); refine goesL_ (some 41) rfl rfl Try.func26 (by kernel_rfl) rfl #[.pointer (some ⟨g200, 0, none⟩), .slice Ao57 t209.length co57] rfl (by (try simp only [List.map_toArray, List.map_cons, List.map_nil]); first | done | rfl | (simp only [List.length_drop, List.length_take]; rfl)) ?_; (with_reducible refine (crc_Digest_Write.calls kj11 g200 x201000_1 x201001_1 _ _ t209 t212 t213 w _ ?side1 ?side2 ?side3 ?side4 ?side5 A19.out).mono ?_); (case side1 => repeat (first | (with_reducible first | exact HI200.out | apply IsS60.alloc | apply IsS60.drewN | apply IsS60.drew | apply IsS60.set_0 | apply IsS60.set_1) | exact HI200.out)); (case side2 => repeat (first | (with_reducible first | exact HB.out | apply below_alloc | apply pw_below_drewN | apply below_drew1 | refine below_set ?_ (IsS60.ge HI200.out)) | exact HB.out)); (case side3 => repeat (first | exact (Kd.R_reads' HO211.out).2.2 | (with_reducible refine Kd.C_alloc ?_ _) | (with_reducible refine Kd.C_drewN ?_ _) | (with_reducible refine Kd.C_drew ?_))); (case side4 => exact (Kd.R_reads' HO211.out).2.1); (case side5 => exact far_slice (IsS60.own_ne HI200.out HO211.out (by decide))); rintro e w58 ⟨rfl, hi, hb, hk⟩; refine ⟨_, rfl, ?_⟩; have n0_ := Aside0.mk (Kd.Q_mono (Kd.Q_keep (IsS60.apartQ (show IsS60 w _ g200 x201000_1 x201001_1 from by repeat (first | (with_reducible first | exact HI200.out | apply IsS60.alloc | apply IsS60.drewN | apply IsS60.drew | apply IsS60.set_0 | apply IsS60.set_1) | exact HI200.out)) (by (with_reducible repeat (first | apply Kd.Q_alloc | apply Kd.Q_drewN | apply Kd.Q_drew)); exact HO_6.out) (by decide)) hk (fun _ h => h.2)) (fun _ h => h.1)); have n1_ := Aside0.mk (Kd.R_mono (Kd.R_keep (IsS60.apart (show IsS60 w _ g200 x201000_1 x201001_1 from by repeat (first | (with_reducible first | exact HI200.out | apply IsS60.alloc | apply IsS60.drewN | apply IsS60.drew | apply IsS60.set_0 | apply IsS60.set_1) | exact HI200.out)) (by (with_reducible repeat (first | apply Kd.R_alloc | apply Kd.R_drewN | apply Kd.R_drew)); exact HO211.out) (by decide)) hk (fun _ h => h.2)) (fun _ h => h.1)); have n2_ := Aside0.mk (hb); have n3_ := Aside0.mk (hi); clear HO_6; clear HO211; clear HB; clear HI200; have HO_6 := n0_; have HO211 := n1_; have HB := n2_; have HI200 := n3_; clear n0_ n1_ n2_ n3_; (try clear hb); (try clear hb2); (try clear hk); (try clear hi); have n_ := Aside0.mk (Kd.Q_mono (ok' := (fun k_ => some k_ ≠ (.slice Ao57 t209.length co57 : Value).ownBlock)) HO_6.out (fun k_ hk => hk.2)); clear HO_6; have HO_6 := n_; clear n_; have q59 : ((ji15) : Int) ≤ ((x6_1.length : Int) : Int) := of_decide_eq_true (by first | (with_reducible assumption) | assumption); obtain ⟨i059, hi059, _, hsz59, _⟩ := info_parts info5; have hcut59 := cut_from (P := Try.prog) 23 5 .i64 Try.underlying23 hi059 1 hsz59 Ao54 x6_1.length co54 (ji15) (of_decide_eq_true (by first | (with_reducible assumption) | assumption)) q59; have hr59 := Kd.Q_drop (k := ((ji15) : Int).toNat) HO_6.out (by omega); obtain ⟨A59, hA59⟩ : ∃ A1, A1 = (if co54 = ((ji15) : Int).toNat then Ao54 else (Ao54 : Option Addr).map (·.add (((ji15) : Int).toNat * 1))) := ⟨_, rfl⟩; obtain ⟨c59, hc59⟩ : ∃ c1, c1 = co54 - ((ji15) : Int).toNat := ⟨_, rfl⟩; have hy59 : y214.length = x6_1.length - ((ji15) : Int).toNat := (by rw [Ny214.out, List.length_drop]); rw [← Ny214.out] at hr59; rw [← hy59, ← hA59, ← hc59] at hcut59; replace hr59 : Kd.Q (Kd.int .u8) 5 w58 w.heap.size (fun k_ => some k_ ≠ (.slice Ao57 t209.length co57 : Value).ownBlock) (.slice A59 y214.length c59) y214 := (by rw [hA59, hc59, hy59]; exact hr59); have HE59 : Aside0 ((Value.slice A59 y214.length c59).ownBlock = (.slice Ao54 x6_1.length co54 : Value).ownBlock) := ⟨by rw [hA59]; split <;> (cases (Ao54 : Option Addr) <;> first | rfl | (simp only [Value.ownBlock, Option.map_some, Addr.add]; split <;> rfl))⟩; clear hy59 hi059 hsz59 HO_6 hA59 hc59; have HO216 := Aside0.mk hr59; clear hr59; replace q59 := eq_true q59; have n_ := Aside0.mk (Kd.R_mono (ok' := fun k_ => (True ∧ some k_ ≠ (.slice A59 y214.length c59 : Value).ownBlock)) HO211.out (fun k_ hk => ⟨trivial, (by rw [HE59.out]; exact hk.2)⟩)); clear HO211; have HO211 := n_; clear n_))
                        have n0_ := Aside0.mk (Kd.Q_drew HO216.out)
                        have n1_ := Aside0.mk (Kd.R_drew HO211.out)
                        have n2_ := Aside0.mk (IsS60.drew HI200.out)
                        have n3_ := Aside0.mk (below_drew1 HB.out)
                        clear HO216
                        clear HO211
                        clear HI200
                        clear HB
                        have HO216 := n0_
                        have HO211 := n1_
                        have HI200 := n2_
                        have HB := n3_
                        clear n0_ n1_ n2_ n3_
                        refine start_ (n := 22) (S := fun w' => True) (ds := []) #[false, false, false, false, false, false, false, false, false, false, false, false, false, false, false, false, false, false, false, false, false, false] (by kernel_rfl) rfl rfl trivial (fun hHeld => ?_); refine with_tabW amberlaw01_CrcPieces.tab16 amberlaw01_CrcPieces.bits16 (fun HT_ HW_ => ?_)
                        generalize w58.drew = w60 at HO216 HO211 HI200 HB hHeld ⊢
                        refine pure_ (i := 0) (N := some 45) (v := ?_) (a' := ?_) #[true, false, false, false, false, false, false, false, false, false, false, false, false, false, false, false, false, false, false, false, false, false] rfl rfl (any_of HT_.out (by kernel_rfl)) (fun _ _ _ h => h) (Or.inl ⟨by rfl, ?_⟩) ?_ ?_
                        rotate_left
                        · intro w'
                          go_simp
                          with_reducible rfl
                        rotate_left
                        · simp only [Act.put, List.setIfInBounds_toArray, List.set_cons_zero, List.set_cons_succ, i64_w, i32_w]
                          rfl
                        refine pure_ (i := 2) (N := some 47) (v := ?_) (a' := ?_) #[true, false, true, false, false, false, false, false, false, false, false, false, false, false, false, false, false, false, false, false, false, false] rfl rfl (any_of HT_.out (by kernel_rfl)) (fun _ _ _ h => h) (Or.inl ⟨by rfl, ?_⟩) ?_ ?_
                        rotate_left
                        · intro w'
                          go_simp
                          with_reducible rfl
                        rotate_left
                        · simp only [Act.put, List.setIfInBounds_toArray, List.set_cons_zero, List.set_cons_succ, i64_w, i32_w]
                          rfl
                        refine pure_ (i := 3) (N := some 48) (v := ?_) (a' := ?_) #[true, false, true, true, false, false, false, false, false, false, false, false, false, false, false, false, false, false, false, false, false, false] rfl rfl (any_of HT_.out (by kernel_rfl)) (fun _ _ _ h => h) (Or.inl ⟨by rfl, ?_⟩) ?_ ?_
                        rotate_left
                        · intro w'
                          go_simp
                          with_reducible rfl
                        rotate_left
                        · simp only [Act.put, List.setIfInBounds_toArray, List.set_cons_zero, List.set_cons_succ, i64_w, i32_w]
                          rfl
                        refine pure_ (i := 5) (N := some 50) (v := ?_) (a' := ?_) #[true, false, true, true, false, true, false, false, false, false, false, false, false, false, false, false, false, false, false, false, false, false] rfl rfl (any_of HT_.out (by kernel_rfl)) (fun _ _ _ h => h) (Or.inl ⟨by rfl, ?_⟩) ?_ ?_
                        rotate_left
                        · intro w'
                          go_simp
                          with_reducible rfl
                        rotate_left
                        · simp only [Act.put, List.setIfInBounds_toArray, List.set_cons_zero, List.set_cons_succ, i64_w, i32_w]
                          rfl
                        refine pure_ (i := 6) (N := some 51) (v := ?_) (a' := ?_) #[true, false, true, true, false, true, true, false, false, false, false, false, false, false, false, false, false, false, false, false, false, false] rfl rfl (any_of HT_.out (by kernel_rfl)) (fun _ _ _ h => h) (Or.inl ⟨by rfl, ?_⟩) ?_ ?_
                        rotate_left
                        · intro w'
                          go_simp
                          with_reducible rfl
                        rotate_left
                        · simp only [Act.put, List.setIfInBounds_toArray, List.set_cons_zero, List.set_cons_succ, i64_w, i32_w]
                          rfl
                        refine one_ (i := 1) (N := some 46) #[true, true, true, true, false, true, true, false, false, false, false, false, false, false, false, false, false, false, false, false, false, false] rfl rfl (one_of HT_.out (by kernel_rfl)) (by decide) (fun K hK => ?_)
                        refine goes_ Try.func25 (by kernel_rfl) rfl #[.pointer (some ⟨g200, 0, none⟩)] (by rfl) rfl rfl (by (try simp only [List.map_toArray, List.map_cons, List.map_nil]); first | done | rfl | (simp only [List.length_drop, List.length_take]; rfl)) ?_
                        with_reducible refine (crc_Digest_Len.calls g200 t212 t213 t217 t218 t219 w _ ?side1 ?side2 A21.out).mono ?_
                        (case side1 => repeat (first | (with_reducible first | exact HI200.out | apply IsS60.alloc | apply IsS60.drewN | apply IsS60.drew | apply IsS60.set_0 | apply IsS60.set_1) | exact HI200.out))
                        (case side2 => repeat (first | (with_reducible first | exact HB.out | apply below_alloc | apply pw_below_drewN | apply below_drew1 | refine below_set ?_ (IsS60.ge HI200.out)) | exact HB.out))
                        rintro e w61 ⟨rfl, hi, hb, hk⟩
                        refine ⟨_, rfl, ?_⟩
                        have n0_ := Aside0.mk (Kd.Q_mono (Kd.Q_keep (IsS60.apartQ (show IsS60 w _ g200 t212 t213 from by repeat (first | (with_reducible first | exact HI200.out | apply IsS60.alloc | apply IsS60.drewN | apply IsS60.drew | apply IsS60.set_0 | apply IsS60.set_1) | exact HI200.out)) (by (with_reducible repeat (first | apply Kd.Q_alloc | apply Kd.Q_drewN | apply Kd.Q_drew)); exact HO216.out) (by decide)) hk (fun _ h => h.2)) (fun _ h => h.1))
                        have n1_ := Aside0.mk (Kd.R_mono (Kd.R_keep (IsS60.apart (show IsS60 w _ g200 t212 t213 from by repeat (first | (with_reducible first | exact HI200.out | apply IsS60.alloc | apply IsS60.drewN | apply IsS60.drew | apply IsS60.set_0 | apply IsS60.set_1) | exact HI200.out)) (by (with_reducible repeat (first | apply Kd.R_alloc | apply Kd.R_drewN | apply Kd.R_drew)); exact HO211.out) (by decide)) hk (fun _ h => h.2)) (fun _ h => h.1))
                        have n2_ := Aside0.mk (hb)
                        have n3_ := Aside0.mk (hi)
                        clear HO216
                        clear HO211
                        clear HB
                        clear HI200
                        have HO216 := n0_
                        have HO211 := n1_
                        have HB := n2_
                        have HI200 := n3_
                        clear n0_ n1_ n2_ n3_
                        (try clear hb)
                        (try clear hb2)
                        (try clear hk)
                        (try clear hi)
                        refine hK.out _ _ trivial (fun hHeld => ?_)
                        clear hK K
                        refine norm_ (a' := ?_) ?_ ?_
                        rotate_left
                        · show Act.put _ (some 46) _ = _
                          simp only [Act.put, List.setIfInBounds_toArray, List.set_cons_zero, List.set_cons_succ, i64_w, i32_w]
                          rfl
                        refine pure_ (i := 4) (N := some 49) (v := ?_) (a' := ?_) #[true, true, true, true, true, true, true, false, false, false, false, false, false, false, false, false, false, false, false, false, false, false] rfl rfl (any_of HT_.out (by kernel_rfl)) (fun _ _ _ h => h) (Or.inl ⟨by rfl, ?_⟩) ?_ ?_
                        rotate_left
                        · intro w'
                          go_simp
                          with_reducible rfl
                        rotate_left
                        · simp only [Act.put, List.setIfInBounds_toArray, List.set_cons_zero, List.set_cons_succ, i64_w, i32_w]
                          rfl
                        refine pure_ (i := 7) (N := some 52) (v := ?_) (a' := ?_) #[true, true, true, true, true, true, true, true, false, false, false, false, false, false, false, false, false, false, false, false, false, false] rfl rfl (any_of HT_.out (by kernel_rfl)) (fun _ _ _ h => h) (Or.inl ⟨by rfl, ?_⟩) ?_ ?_
                        rotate_left
                        · intro w'
                          go_simp
                          with_reducible rfl
                        rotate_left
                        · simp only [Act.put, List.setIfInBounds_toArray, List.set_cons_zero, List.set_cons_succ, i64_w, i32_w]
                          rfl
                        refine pure_ (i := 8) (N := some 53) (v := ?_) (a' := ?_) #[true, true, true, true, true, true, true, true, true, false, false, false, false, false, false, false, false, false, false, false, false, false] rfl rfl (any_of HT_.out (by kernel_rfl)) (fun _ _ _ h => h) (Or.inl ⟨by rfl, ?_⟩) ?_ ?_
                        rotate_left
                        · intro w'
                          go_simp
                          with_reducible rfl
                        rotate_left
                        · simp only [Act.put, List.setIfInBounds_toArray, List.set_cons_zero, List.set_cons_succ, i64_w, i32_w]
                          rfl
                        refine pure_ (i := 9) (N := some 54) (v := undef) (a' := ?_) #[true, true, true, true, true, true, true, true, true, true, false, false, false, false, false, false, false, false, false, false, false, false] rfl rfl (any_of HT_.out (by kernel_rfl)) (fun _ _ _ h => h) (Or.inr ⟨by rfl, rfl⟩) ?_ ?_
                        rotate_left
                        · simp only [Act.put, List.setIfInBounds_toArray, List.set_cons_zero, List.set_cons_succ, i64_w, i32_w]
                          rfl
                        refine pure_ (i := 10) (N := some 55) (v := undef) (a' := ?_) #[true, true, true, true, true, true, true, true, true, true, true, false, false, false, false, false, false, false, false, false, false, false] rfl rfl (any_of HT_.out (by kernel_rfl)) (fun _ _ _ h => h) (Or.inr ⟨by rfl, rfl⟩) ?_ ?_
                        rotate_left
                        · simp only [Act.put, List.setIfInBounds_toArray, List.set_cons_zero, List.set_cons_succ, i64_w, i32_w]
                          rfl
                        refine pure_ (i := 11) (N := some 56) (v := undef) (a' := ?_) #[true, true, true, true, true, true, true, true, true, true, true, true, false, false, false, false, false, false, false, false, false, false] rfl rfl (any_of HT_.out (by kernel_rfl)) (fun _ _ _ h => h) (Or.inr ⟨by rfl, rfl⟩) ?_ ?_
                        rotate_left
                        · simp only [Act.put, List.setIfInBounds_toArray, List.set_cons_zero, List.set_cons_succ, i64_w, i32_w]
                          rfl
                        refine pure_ (i := 12) (N := some 57) (v := undef) (a' := ?_) #[true, true, true, true, true, true, true, true, true, true, true, true, true, false, false, false, false, false, false, false, false, false] rfl rfl (any_of HT_.out (by kernel_rfl)) (fun _ _ _ h => h) (Or.inr ⟨by rfl, rfl⟩) ?_ ?_
                        rotate_left
                        · simp only [Act.put, List.setIfInBounds_toArray, List.set_cons_zero, List.set_cons_succ, i64_w, i32_w]
                          rfl
                        refine pure_ (i := 13) (N := some 58) (v := undef) (a' := ?_) #[true, true, true, true, true, true, true, true, true, true, true, true, true, true, false, false, false, false, false, false, false, false] rfl rfl (any_of HT_.out (by kernel_rfl)) (fun _ _ _ h => h) (Or.inr ⟨by rfl, rfl⟩) ?_ ?_
                        rotate_left
                        · simp only [Act.put, List.setIfInBounds_toArray, List.set_cons_zero, List.set_cons_succ, i64_w, i32_w]
                          rfl
                        refine pure_ (i := 14) (N := some 59) (v := undef) (a' := ?_) #[true, true, true, true, true, true, true, true, true, true, true, true, true, true, true, false, false, false, false, false, false, false] rfl rfl (any_of HT_.out (by kernel_rfl)) (fun _ _ _ h => h) (Or.inr ⟨by rfl, rfl⟩) ?_ ?_
                        rotate_left
                        · simp only [Act.put, List.setIfInBounds_toArray, List.set_cons_zero, List.set_cons_succ, i64_w, i32_w]
                          rfl
                        refine pure_ (i := 15) (N := some 60) (v := undef) (a' := ?_) #[true, true, true, true, true, true, true, true, true, true, true, true, true, true, true, true, false, false, false, false, false, false] rfl rfl (any_of HT_.out (by kernel_rfl)) (fun _ _ _ h => h) (Or.inr ⟨by rfl, rfl⟩) ?_ ?_
                        rotate_left
                        · simp only [Act.put, List.setIfInBounds_toArray, List.set_cons_zero, List.set_cons_succ, i64_w, i32_w]
                          rfl
                        refine pure_ (i := 16) (N := some 61) (v := undef) (a' := ?_) #[true, true, true, true, true, true, true, true, true, true, true, true, true, true, true, true, true, false, false, false, false, false] rfl rfl (any_of HT_.out (by kernel_rfl)) (fun _ _ _ h => h) (Or.inr ⟨by rfl, rfl⟩) ?_ ?_
                        rotate_left
                        · simp only [Act.put, List.setIfInBounds_toArray, List.set_cons_zero, List.set_cons_succ, i64_w, i32_w]
                          rfl
                        refine pure_ (i := 17) (N := some 62) (v := undef) (a' := ?_) #[true, true, true, true, true, true, true, true, true, true, true, true, true, true, true, true, true, true, false, false, false, false] rfl rfl (any_of HT_.out (by kernel_rfl)) (fun _ _ _ h => h) (Or.inr ⟨by rfl, rfl⟩) ?_ ?_
                        rotate_left
                        · simp only [Act.put, List.setIfInBounds_toArray, List.set_cons_zero, List.set_cons_succ, i64_w, i32_w]
                          rfl
                        refine pure_ (i := 18) (N := some 63) (v := undef) (a' := ?_) #[true, true, true, true, true, true, true, true, true, true, true, true, true, true, true, true, true, true, true, false, false, false] rfl rfl (any_of HT_.out (by kernel_rfl)) (fun _ _ _ h => h) (Or.inr ⟨by rfl, rfl⟩) ?_ ?_
                        rotate_left
                        · simp only [Act.put, List.setIfInBounds_toArray, List.set_cons_zero, List.set_cons_succ, i64_w, i32_w]
                          rfl
                        refine pure_ (i := 19) (N := some 64) (v := undef) (a' := ?_) #[true, true, true, true, true, true, true, true, true, true, true, true, true, true, true, true, true, true, true, true, false, false] rfl rfl (any_of HT_.out (by kernel_rfl)) (fun _ _ _ h => h) (Or.inr ⟨by rfl, rfl⟩) ?_ ?_
                        rotate_left
                        · simp only [Act.put, List.setIfInBounds_toArray, List.set_cons_zero, List.set_cons_succ, i64_w, i32_w]
                          rfl
                        refine pure_ (i := 20) (N := some 65) (v := undef) (a' := ?_) #[true, true, true, true, true, true, true, true, true, true, true, true, true, true, true, true, true, true, true, true, true, false] rfl rfl (any_of HT_.out (by kernel_rfl)) (fun _ _ _ h => h) (Or.inr ⟨by rfl, rfl⟩) ?_ ?_
                        rotate_left
                        · simp only [Act.put, List.setIfInBounds_toArray, List.set_cons_zero, List.set_cons_succ, i64_w, i32_w]
                          rfl
                        refine pure_ (i := 21) (N := some 66) (v := ?_) (a' := ?_) #[true, true, true, true, true, true, true, true, true, true, true, true, true, true, true, true, true, true, true, true, true, true] rfl rfl (any_of HT_.out (by kernel_rfl)) (fun _ _ _ h => h) (Or.inl ⟨by rfl, ?_⟩) ?_ ?_
                        rotate_left
                        · intro w'
                          go_simp
                          with_reducible rfl
                        rotate_left
                        · simp only [Act.put, List.setIfInBounds_toArray, List.set_cons_zero, List.set_cons_succ, i64_w, i32_w]
                          rfl
                        refine done_ (done_of HT_.out (by kernel_rfl)) ?_
                        try go_wp2
                        go_ret
                        exact ⟨by first | rfl | (simp [errW_none, errW_some] <;> rfl) | (simp only [← hji15]; first | rfl | (simp [errW_none, errW_some] <;> rfl)) | (simp [*, errW_none, errW_some] <;> rfl), by repeat (first | (with_reducible first | exact HB.out | apply below_alloc | apply pw_below_drewN | apply below_drew1 | refine below_set ?_ (IsS60.ge HI200.out)) | exact HB.out)⟩
                    · rw [if_neg c17] at H
                      exact absurd H (by simp)
                  · rw [if_neg c16] at H
                    exact absurd H (by simp)
          · rw [if_neg c11] at H
            exact absurd H (by simp)
        · rw [if_neg c10] at H
          have c10b0 : decide (x7_1 < (l1.length : Int)) = false := decide_eq_false c10
          clear c10
          replace H := Option.bind_eq_some_iff.mp H
          obtain ⟨t228, A620, H⟩ := H
          replace H : ((crc_Digest_Write.f k1 x201000_1 x201001_1 t228).bind fun bt231 => ((crc_Digest_Len.f bt231.1 bt231.2).bind fun bt233 => (if bt233.1 = (l0.length : Int) then ((crc_Digest_Sum.f bt233.2.1 bt233.2.2).bind fun bt236 => ((amberlaw01_copied.f l0).bind fun t239 => ((crc_Sum.f k1 t239).bind fun t242 => (amberlaw01_CrcPieces.j2 k1 (bt236.1 != t242) bt236.2.1 bt236.2.2)))) else (amberlaw01_CrcPieces.j2 k1 true bt233.2.1 bt233.2.2)))) = some r := H
          have A62 := Aside0.mk A620
          clear A620
          replace H := Option.bind_eq_some_iff.mp H
          obtain ⟨⟨t231, t232⟩, A630, H⟩ := H
          replace H : ((crc_Digest_Len.f t231 t232).bind fun bt233 => (if bt233.1 = (l0.length : Int) then ((crc_Digest_Sum.f bt233.2.1 bt233.2.2).bind fun bt236 => ((amberlaw01_copied.f l0).bind fun t239 => ((crc_Sum.f k1 t239).bind fun t242 => (amberlaw01_CrcPieces.j2 k1 (bt236.1 != t242) bt236.2.1 bt236.2.2)))) else (amberlaw01_CrcPieces.j2 k1 true bt233.2.1 bt233.2.2))) = some r := H
          have A63 := Aside0.mk A630
          clear A630
          have HC64 := Aside0.mk H
          clear H
          obtain ⟨Ao65, co65, eo65, _⟩ := Kd.Q_slice HO_6.out
          subst eo65
          go_upto_region 19 with (first | ((with_reducible refine gate_callee (f := 16) rfl ?_); refine goesL_ (some 69) rfl rfl Try.func16 (by kernel_rfl) rfl #[.slice Ao65 x6_1.length co65] rfl (by (try simp only [List.map_toArray, List.map_cons, List.map_nil]); first | done | rfl | (simp only [List.length_drop, List.length_take]; rfl)) ?_; (with_reducible refine (amberlaw01_copied.calls _ _ x6_1 t228 _ ?side1 ?side2 A62.out).mono ?_); (case side1 => repeat (first | exact (Kd.Q_reads' HO_6.out).2.2 | (with_reducible refine Kd.C_alloc ?_ _) | (with_reducible refine Kd.C_drewN ?_ _) | (with_reducible refine Kd.C_drew ?_))); (case side2 => exact (Kd.Q_reads' HO_6.out).2.1); rintro e w66 ⟨v229, rfl, ho0, hb⟩; refine ⟨_, rfl, ?_⟩; have n0_ := Aside0.mk (Kd.Q_elder' (by (with_reducible repeat (first | apply Kd.Q_alloc | apply Kd.Q_drewN | apply Kd.Q_drew)); exact HO_6.out) (Kd.R_base ho0) hb); have n1_ := Aside0.mk (Kd.R_lower (Kd.R_new' ho0 (Kd.Q_lt (by (with_reducible repeat (first | apply Kd.Q_alloc | apply Kd.Q_drewN | apply Kd.Q_drew)); exact HO_6.out))) (below_size (by repeat (first | (with_reducible first | exact HB.out | apply below_alloc | apply pw_below_drewN | apply below_drew1 | refine below_set ?_ (IsS60.ge HI200.out)) | exact HB.out)))); have n2_ := Aside0.mk (IsS60.below (by repeat (first | (with_reducible first | exact HI200.out | apply IsS60.alloc | apply IsS60.drewN | apply IsS60.drew | apply IsS60.set_0 | apply IsS60.set_1) | exact HI200.out)) hb); have n3_ := Aside0.mk (below_step (by repeat (first | (with_reducible first | exact HB.out | apply below_alloc | apply pw_below_drewN | apply below_drew1 | refine below_set ?_ (IsS60.ge HI200.out)) | exact HB.out)) hb); clear HO_6; clear HI200; clear HB; have HO_6 := n0_; have HO230 := n1_; have HI200 := n2_; have HB := n3_; clear n0_ n1_ n2_ n3_; (try clear hb); (try clear hb2); (try clear hk); (try clear hi); (try clear ho0); obtain ⟨Ao67, co67, eo67⟩ := Kd.R_slice HO230.out; subst eo67) | ((with_reducible refine gate_callee (f := 26) rfl ?_); refine goesL_ (some 70) rfl rfl Try.func26 (by kernel_rfl) rfl #[.pointer (some ⟨g200, 0, none⟩), .slice Ao67 t228.length co67] rfl (by (try simp only [List.map_toArray, List.map_cons, List.map_nil]); first | done | rfl | (simp only [List.length_drop, List.length_take]; rfl)) ?_; (with_reducible refine (crc_Digest_Write.calls k1 g200 x201000_1 x201001_1 _ _ t228 t231 t232 w _ ?side1 ?side2 ?side3 ?side4 ?side5 A63.out).mono ?_); (case side1 => repeat (first | (with_reducible first | exact HI200.out | apply IsS60.alloc | apply IsS60.drewN | apply IsS60.drew | apply IsS60.set_0 | apply IsS60.set_1) | exact HI200.out)); (case side2 => repeat (first | (with_reducible first | exact HB.out | apply below_alloc | apply pw_below_drewN | apply below_drew1 | refine below_set ?_ (IsS60.ge HI200.out)) | exact HB.out)); (case side3 => repeat (first | exact (Kd.R_reads' HO230.out).2.2 | (with_reducible refine Kd.C_alloc ?_ _) | (with_reducible refine Kd.C_drewN ?_ _) | (with_reducible refine Kd.C_drew ?_))); (case side4 => exact (Kd.R_reads' HO230.out).2.1); (case side5 => exact far_slice (IsS60.own_ne HI200.out HO230.out (by decide))); rintro e w68 ⟨rfl, hi, hb, hk⟩; refine ⟨_, rfl, ?_⟩; have n0_ := Aside0.mk (Kd.Q_mono (Kd.Q_keep (IsS60.apartQ (show IsS60 w _ g200 x201000_1 x201001_1 from by repeat (first | (with_reducible first | exact HI200.out | apply IsS60.alloc | apply IsS60.drewN | apply IsS60.drew | apply IsS60.set_0 | apply IsS60.set_1) | exact HI200.out)) (by (with_reducible repeat (first | apply Kd.Q_alloc | apply Kd.Q_drewN | apply Kd.Q_drew)); exact HO_6.out) (by decide)) hk (fun _ h => h.2)) (fun _ h => h.1)); have n1_ := Aside0.mk (Kd.R_mono (Kd.R_keep (IsS60.apart (show IsS60 w _ g200 x201000_1 x201001_1 from by repeat (first | (with_reducible first | exact HI200.out | apply IsS60.alloc | apply IsS60.drewN | apply IsS60.drew | apply IsS60.set_0 | apply IsS60.set_1) | exact HI200.out)) (by (with_reducible repeat (first | apply Kd.R_alloc | apply Kd.R_drewN | apply Kd.R_drew)); exact HO230.out) (by decide)) hk (fun _ h => h.2)) (fun _ h => h.1)); have n2_ := Aside0.mk (hb); have n3_ := Aside0.mk (hi); clear HO_6; clear HO230; clear HB; clear HI200; have HO_6 := n0_; have HO230 := n1_; have HB := n2_; have HI200 := n3_; clear n0_ n1_ n2_ n3_; (try clear hb); (try clear hb2); (try clear hk); (try clear hi)))
          (try simp only [Act.put, List.setIfInBounds_toArray, List.set_cons_zero, List.set_cons_succ])
          go_cut [83] (fun v83 wc => ∃ (kq : Nat) (x83_63 : Bool) (x201000_63 : Int) (x201001_63 : Int), v83 = .bool x83_63 ∧ Aside0 (amberlaw01_CrcPieces.j2 kq x83_63 x201000_63 x201001_63 = some r) ∧ Aside0 (kq ≤ k1) ∧ Aside0 (IsS60 w wc g200 x201000_63 x201001_63) ∧ Aside0 (Below w.heap.size w wc))
          case first =>
            have H := HC64.out
            clear HC64
            replace H := Option.bind_eq_some_iff.mp H
            obtain ⟨⟨t233, t234, t235⟩, A690, H⟩ := H
            replace H : (if t233 = (l0.length : Int) then ((crc_Digest_Sum.f t234 t235).bind fun bt236 => ((amberlaw01_copied.f l0).bind fun t239 => ((crc_Sum.f k1 t239).bind fun t242 => (amberlaw01_CrcPieces.j2 k1 (bt236.1 != t242) bt236.2.1 bt236.2.2)))) else (amberlaw01_CrcPieces.j2 k1 true t234 t235)) = some r := H
            have A69 := Aside0.mk A690
            clear A690
            by_cases c70 : t233 = (l0.length : Int)
            · rw [if_pos c70] at H
              have c70b0 : (t233 == (l0.length : Int)) = true := beq_iff_eq.mpr c70
              have c70b1 : (t233 != (l0.length : Int)) = false := bne_eq_false_iff_eq.mpr c70
              clear c70
              (first | rw [c70b0] | (simp only [i64_w, i32_w]; rw [c70b0]) | skip)
              replace H := Option.bind_eq_some_iff.mp H
              obtain ⟨⟨t236, t237, t238⟩, A710, H⟩ := H
              replace H : ((amberlaw01_copied.f l0).bind fun t239 => ((crc_Sum.f k1 t239).bind fun t242 => (amberlaw01_CrcPieces.j2 k1 (t236 != t242) t237 t238))) = some r := H
              have A71 := Aside0.mk A710
              clear A710
              replace H := Option.bind_eq_some_iff.mp H
              obtain ⟨t239, A720, H⟩ := H
              replace H : ((crc_Sum.f k1 t239).bind fun t242 => (amberlaw01_CrcPieces.j2 k1 (t236 != t242) t237 t238)) = some r := H
              have A72 := Aside0.mk A720
              clear A720
              replace H := Option.bind_eq_some_iff.mp H
              obtain ⟨t242, A730, H⟩ := H
              replace H : (amberlaw01_CrcPieces.j2 k1 (t236 != t242) t237 t238) = some r := H
              have A73 := Aside0.mk A730
              clear A730
              have H' := Aside0.mk H
              clear H
              go_wp2_with (first | ((with_reducible refine gate_callee (f := 25) rfl ?_); refine goesL_ (some 72) rfl rfl Try.func25 (by kernel_rfl) rfl #[.pointer (some ⟨g200, 0, none⟩)] rfl (by (try simp only [List.map_toArray, List.map_cons, List.map_nil]); first | done | rfl | (simp only [List.length_drop, List.length_take]; rfl)) ?_; (with_reducible refine (crc_Digest_Len.calls g200 t231 t232 t233 t234 t235 w _ ?side1 ?side2 A69.out).mono ?_); (case side1 => repeat (first | (with_reducible first | exact HI200.out | apply IsS60.alloc | apply IsS60.drewN | apply IsS60.drew | apply IsS60.set_0 | apply IsS60.set_1) | exact HI200.out)); (case side2 => repeat (first | (with_reducible first | exact HB.out | apply below_alloc | apply pw_below_drewN | apply below_drew1 | refine below_set ?_ (IsS60.ge HI200.out)) | exact HB.out)); rintro e w74 ⟨rfl, hi, hb, hk⟩; refine ⟨_, rfl, ?_⟩; have n0_ := Aside0.mk (Kd.Q_mono (Kd.Q_keep (IsS60.apartQ (show IsS60 w _ g200 t231 t232 from by repeat (first | (with_reducible first | exact HI200.out | apply IsS60.alloc | apply IsS60.drewN | apply IsS60.drew | apply IsS60.set_0 | apply IsS60.set_1) | exact HI200.out)) (by (with_reducible repeat (first | apply Kd.Q_alloc | apply Kd.Q_drewN | apply Kd.Q_drew)); exact HO_6.out) (by decide)) hk (fun _ h => h.2)) (fun _ h => h.1)); have n1_ := Aside0.mk (Kd.R_mono (Kd.R_keep (IsS60.apart (show IsS60 w _ g200 t231 t232 from by repeat (first | (with_reducible first | exact HI200.out | apply IsS60.alloc | apply IsS60.drewN | apply IsS60.drew | apply IsS60.set_0 | apply IsS60.set_1) | exact HI200.out)) (by (with_reducible repeat (first | apply Kd.R_alloc | apply Kd.R_drewN | apply Kd.R_drew)); exact HO230.out) (by decide)) hk (fun _ h => h.2)) (fun _ h => h.1)); have n2_ := Aside0.mk (hb); have n3_ := Aside0.mk (hi); clear HO_6; clear HO230; clear HB; clear HI200; have HO_6 := n0_; have HO230 := n1_; have HB := n2_; have HI200 := n3_; clear n0_ n1_ n2_ n3_; (try clear hb); (try clear hb2); (try clear hk); (try clear hi)) | (go_at_call 24; (with_reducible refine (crc_Digest_Sum.calls g200 t234 t235 t236 t237 t238 w _ ?side1 ?side2 A71.out).mono ?_); (case side1 => repeat (first | (with_reducible first | exact HI200.out | apply IsS60.alloc | apply IsS60.drewN | apply IsS60.drew | apply IsS60.set_0 | apply IsS60.set_1) | exact HI200.out)); (case side2 => repeat (first | (with_reducible first | exact HB.out | apply below_alloc | apply pw_below_drewN | apply below_drew1 | refine below_set ?_ (IsS60.ge HI200.out)) | exact HB.out)); rintro e w75 ⟨rfl, hi, hb, hk⟩; have n0_ := Aside0.mk (Kd.Q_mono (Kd.Q_keep (IsS60.apartQ (show IsS60 w _ g200 t234 t235 from by repeat (first | (with_reducible first | exact HI200.out | apply IsS60.alloc | apply IsS60.drewN | apply IsS60.drew | apply IsS60.set_0 | apply IsS60.set_1) | exact HI200.out)) (by (with_reducible repeat (first | apply Kd.Q_alloc | apply Kd.Q_drewN | apply Kd.Q_drew)); exact HO_6.out) (by decide)) hk (fun _ h => h.2)) (fun _ h => h.1)); have n1_ := Aside0.mk (Kd.R_mono (Kd.R_keep (IsS60.apart (show IsS60 w _ g200 t234 t235 from by repeat (first | (with_reducible first | exact HI200.out | apply IsS60.alloc | apply IsS60.drewN | apply IsS60.drew | apply IsS60.set_0 | apply IsS60.set_1) | exact HI200.out)) (by (with_reducible repeat (first | apply Kd.R_alloc | apply Kd.R_drewN | apply Kd.R_drew)); exact HO230.out) (by decide)) hk (fun _ h => h.2)) (fun _ h => h.1)); have n2_ := Aside0.mk (hb); have n3_ := Aside0.mk (hi); clear HO_6; clear HO230; clear HB; clear HI200; have HO_6 := n0_; have HO230 := n1_; have HB := n2_; have HI200 := n3_; clear n0_ n1_ n2_ n3_; (try clear hb); (try clear hb2); (try clear hk); (try clear hi)) | (go_at_call 16; (with_reducible refine (amberlaw01_copied.calls _ _ l0 t239 _ ?side1 ?side2 A72.out).mono ?_); (case side1 => repeat (first | exact (Kd.C_below HR0.out HB.out) | (with_reducible refine Kd.C_alloc ?_ _) | (with_reducible refine Kd.C_drewN ?_ _) | (with_reducible refine Kd.C_drew ?_))); (case side2 => exact HC0.out); rintro e w76 ⟨v240, rfl, ho0, hb⟩; have n0_ := Aside0.mk (Kd.Q_elder' (by (with_reducible repeat (first | apply Kd.Q_alloc | apply Kd.Q_drewN | apply Kd.Q_drew)); exact HO_6.out) (Kd.R_base ho0) hb); have n1_ := Aside0.mk (Kd.R_elder' (by (with_reducible repeat (first | apply Kd.R_alloc | apply Kd.R_drewN | apply Kd.R_drew)); exact HO230.out) (Kd.R_base ho0) hb); have n2_ := Aside0.mk (Kd.R_lower (Kd.R_new' (Kd.R_new' ho0 (Kd.Q_lt (by (with_reducible repeat (first | apply Kd.Q_alloc | apply Kd.Q_drewN | apply Kd.Q_drew)); exact HO_6.out))) (Kd.R_lt (by (with_reducible repeat (first | apply Kd.R_alloc | apply Kd.R_drewN | apply Kd.R_drew)); exact HO230.out))) (below_size (by repeat (first | (with_reducible first | exact HB.out | apply below_alloc | apply pw_below_drewN | apply below_drew1 | refine below_set ?_ (IsS60.ge HI200.out)) | exact HB.out)))); have n3_ := Aside0.mk (IsS60.below (by repeat (first | (with_reducible first | exact HI200.out | apply IsS60.alloc | apply IsS60.drewN | apply IsS60.drew | apply IsS60.set_0 | apply IsS60.set_1) | exact HI200.out)) hb); have n4_ := Aside0.mk (below_step (by repeat (first | (with_reducible first | exact HB.out | apply below_alloc | apply pw_below_drewN | apply below_drew1 | refine below_set ?_ (IsS60.ge HI200.out)) | exact HB.out)) hb); clear HO_6; clear HO230; clear HI200; clear HB; have HO_6 := n0_; have HO230 := n1_; have HO241 := n2_; have HI200 := n3_; have HB := n4_; clear n0_ n1_ n2_ n3_ n4_; (try clear hb); (try clear hb2); (try clear hk); (try clear hi); (try clear ho0); obtain ⟨Ao77, co77, eo77⟩ := Kd.R_slice HO241.out; subst eo77) | (go_at_call 15; (with_reducible refine (crc_Sum.calls k1 _ _ t239 t242 _ ?side1 ?side2 A73.out).mono ?_); (case side1 => repeat (first | exact (Kd.R_reads' HO241.out).2.2 | (with_reducible refine Kd.C_alloc ?_ _) | (with_reducible refine Kd.C_drewN ?_ _) | (with_reducible refine Kd.C_drew ?_))); (case side2 => exact (Kd.R_reads' HO241.out).2.1); rintro e w' ⟨rfl, ⟨nd, rfl⟩⟩))
              go_meet
              case rel => exact ⟨_, ((t236 != t242)), (t237), (t238), (by first | rfl | (simp; done) | (simp [*]; done)), H', ⟨by have := HK1.out; first | omega | exact Nat.le_refl _⟩, ⟨by repeat (first | (with_reducible first | exact HI200.out | apply IsS60.alloc | apply IsS60.drewN | apply IsS60.drew | apply IsS60.set_0 | apply IsS60.set_1) | exact HI200.out)⟩, ⟨by repeat (first | (with_reducible first | exact HB.out | apply below_alloc | apply pw_below_drewN | apply below_drew1 | refine below_set ?_ (IsS60.ge HI200.out)) | exact HB.out)⟩⟩
            · rw [if_neg c70] at H
              have c70b0 : (t233 == (l0.length : Int)) = false := beq_eq_false_iff_ne.mpr c70
              have c70b1 : (t233 != (l0.length : Int)) = true := bne_iff_ne.mpr c70
              (first | rw [c70b0] | (simp only [i64_w, i32_w]; rw [c70b0]) | skip)
              have H' := Aside0.mk H
              clear H
              go_wp2_with (first | ((with_reducible refine gate_callee (f := 25) rfl ?_); refine goesL_ (some 72) rfl rfl Try.func25 (by kernel_rfl) rfl #[.pointer (some ⟨g200, 0, none⟩)] rfl (by (try simp only [List.map_toArray, List.map_cons, List.map_nil]); first | done | rfl | (simp only [List.length_drop, List.length_take]; rfl)) ?_; (with_reducible refine (crc_Digest_Len.calls g200 t231 t232 t233 t234 t235 w _ ?side1 ?side2 A69.out).mono ?_); (case side1 => repeat (first | (with_reducible first | exact HI200.out | apply IsS60.alloc | apply IsS60.drewN | apply IsS60.drew | apply IsS60.set_0 | apply IsS60.set_1) | exact HI200.out)); (case side2 => repeat (first | (with_reducible first | exact HB.out | apply below_alloc | apply pw_below_drewN | apply below_drew1 | refine below_set ?_ (IsS60.ge HI200.out)) | exact HB.out)); rintro e w78 ⟨rfl, hi, hb, hk⟩; refine ⟨_, rfl, ?_⟩; have n0_ := Aside0.mk (Kd.Q_mono (Kd.Q_keep (IsS60.apartQ (show IsS60 w _ g200 t231 t232 from by repeat (first | (with_reducible first | exact HI200.out | apply IsS60.alloc | apply IsS60.drewN | apply IsS60.drew | apply IsS60.set_0 | apply IsS60.set_1) | exact HI200.out)) (by (with_reducible repeat (first | apply Kd.Q_alloc | apply Kd.Q_drewN | apply Kd.Q_drew)); exact HO_6.out) (by decide)) hk (fun _ h => h.2)) (fun _ h => h.1)); have n1_ := Aside0.mk (Kd.R_mono (Kd.R_keep (IsS60.apart (show IsS60 w _ g200 t231 t232 from by repeat (first | (with_reducible first | exact HI200.out | apply IsS60.alloc | apply IsS60.drewN | apply IsS60.drew | apply IsS60.set_0 | apply IsS60.set_1) | exact HI200.out)) (by (with_reducible repeat (first | apply Kd.R_alloc | apply Kd.R_drewN | apply Kd.R_drew)); exact HO230.out) (by decide)) hk (fun _ h => h.2)) (fun _ h => h.1)); have n2_ := Aside0.mk (hb); have n3_ := Aside0.mk (hi); clear HO_6; clear HO230; clear HB; clear HI200; have HO_6 := n0_; have HO230 := n1_; have HB := n2_; have HI200 := n3_; clear n0_ n1_ n2_ n3_; (try clear hb); (try clear hb2); (try clear hk); (try clear hi)))
              go_meet
              case rel => exact ⟨_, (true), (t234), (t235), (by first | rfl | (simp; done) | (simp [*]; done)), H', ⟨by have := HK1.out; first | omega | exact Nat.le_refl _⟩, ⟨by repeat (first | (with_reducible first | exact HI200.out | apply IsS60.alloc | apply IsS60.drewN | apply IsS60.drew | apply IsS60.set_0 | apply IsS60.set_1) | exact HI200.out)⟩, ⟨by repeat (first | (with_reducible first | exact HB.out | apply below_alloc | apply pw_below_drewN | apply below_drew1 | refine below_set ?_ (IsS60.ge HI200.out)) | exact HB.out)⟩⟩
          case rest =>
            clear HC64
            try clear c1
            try clear c2
            try clear p2
            try clear c4
            try clear q4
            try clear c5
            try clear q5
            try clear p6
            try clear c7
            try clear c10
            try clear c10b0
            try clear c11
            try clear c15
            try clear c16
            try clear c17
            try clear c22
            try clear c22b0
            try clear c22b1
            try clear c24
            try clear c25
            try clear c26
            try clear c29
            try clear c29b0
            try clear c29b1
            try clear q43
            try clear c47
            try clear q47
            try clear q55
            try clear c59
            try clear q59
            try clear p64
            try clear c70
            try clear c70b0
            try clear c70b1
            try clear q43
            try clear q47
            try clear q55
            try clear q59
            obtain ⟨kq, x83_63, x201000_63, x201001_63, rfl, HA, HJ63, HI200, HB⟩ := hcut
            cases kq with
            | zero => exact absurd HA.out (by simp [amberlaw01_CrcPieces.j2])
            | succ kj63 =>
              have H := HA.out
              clear HA
              simp only [amberlaw01_CrcPieces.j2] at H
              by_cases c79 : x83_63 = true
              · subst c79
                have H1 : (some false) = some r := by rw [if_pos rfl] at H; exact H
                clear H
                have H := H1
                clear H1
                obtain rfl := Option.some.inj H
                go_wp2
                go_ret
                exact ⟨by first | rfl | (simp [errW_none, errW_some] <;> rfl) | (simp [*, errW_none, errW_some] <;> rfl), by repeat (first | (with_reducible first | exact HB.out | apply below_alloc | apply pw_below_drewN | apply below_drew1 | refine below_set ?_ (IsS60.ge HI200.out)) | exact HB.out)⟩
              · replace c79 := Bool.eq_false_iff.mpr c79
                subst c79
                have H1 : ((crc_Digest_Reset.f x201000_63 x201001_63).bind fun bt243 => ((crc_Digest_Len.f bt243.1 bt243.2).bind fun bt245 => (if bt245.1 = 0 then ((crc_Digest_Sum.f bt245.2.1 bt245.2.2).bind fun bt248 => (some (bt248.1 == 0))) else (some false)))) = some r := by rw [if_neg (show ¬ (false = true) by decide)] at H; exact H
                clear H
                have H := H1
                clear H1
                replace H := Option.bind_eq_some_iff.mp H
                obtain ⟨⟨t243, t244⟩, A800, H⟩ := H
                replace H : ((crc_Digest_Len.f t243 t244).bind fun bt245 => (if bt245.1 = 0 then ((crc_Digest_Sum.f bt245.2.1 bt245.2.2).bind fun bt248 => (some (bt248.1 == 0))) else (some false))) = some r := H
                have A80 := Aside0.mk A800
                clear A800
                replace H := Option.bind_eq_some_iff.mp H
                obtain ⟨⟨t245, t246, t247⟩, A810, H⟩ := H
                replace H : (if t245 = 0 then ((crc_Digest_Sum.f t246 t247).bind fun bt248 => (some (bt248.1 == 0))) else (some false)) = some r := H
                have A81 := Aside0.mk A810
                clear A810
                by_cases c82 : t245 = 0
                · rw [if_pos c82] at H
                  have c82b0 : (t245 == 0) = true := beq_iff_eq.mpr c82
                  have c82b1 : (t245 != 0) = false := bne_eq_false_iff_eq.mpr c82
                  clear c82
                  replace H := Option.bind_eq_some_iff.mp H
                  obtain ⟨⟨t248, t249, t250⟩, A830, H⟩ := H
                  replace H : (some (t248 == 0)) = some r := H
                  have A83 := Aside0.mk A830
                  clear A830
                  obtain rfl := Option.some.inj H
                  go_wp2_with (first | ((with_reducible refine gate_callee (f := 27) rfl ?_); refine goesL_ (some 85) rfl rfl Try.func27 (by kernel_rfl) rfl #[.pointer (some ⟨g200, 0, none⟩)] rfl (by (try simp only [List.map_toArray, List.map_cons, List.map_nil]); first | done | rfl | (simp only [List.length_drop, List.length_take]; rfl)) ?_; (with_reducible refine (crc_Digest_Reset.calls g200 x201000_63 x201001_63 t243 t244 w _ ?side1 ?side2 A80.out).mono ?_); (case side1 => repeat (first | (with_reducible first | exact HI200.out | apply IsS60.alloc | apply IsS60.drewN | apply IsS60.drew | apply IsS60.set_0 | apply IsS60.set_1) | exact HI200.out)); (case side2 => repeat (first | (with_reducible first | exact HB.out | apply below_alloc | apply pw_below_drewN | apply below_drew1 | refine below_set ?_ (IsS60.ge HI200.out)) | exact HB.out)); rintro e w84 ⟨rfl, hi, hb, hk⟩; refine ⟨_, rfl, ?_⟩; have n0_ := Aside0.mk (hb); have n1_ := Aside0.mk (hi); clear HB; clear HI200; have HB := n0_; have HI200 := n1_; clear n0_ n1_; (try clear hb); (try clear hb2); (try clear hk); (try clear hi)) | ((with_reducible refine gate_callee (f := 25) rfl ?_); refine goesL_ (some 87) rfl rfl Try.func25 (by kernel_rfl) rfl #[.pointer (some ⟨g200, 0, none⟩)] rfl (by (try simp only [List.map_toArray, List.map_cons, List.map_nil]); first | done | rfl | (simp only [List.length_drop, List.length_take]; rfl)) ?_; (with_reducible refine (crc_Digest_Len.calls g200 t243 t244 t245 t246 t247 w _ ?side1 ?side2 A81.out).mono ?_); (case side1 => repeat (first | (with_reducible first | exact HI200.out | apply IsS60.alloc | apply IsS60.drewN | apply IsS60.drew | apply IsS60.set_0 | apply IsS60.set_1) | exact HI200.out)); (case side2 => repeat (first | (with_reducible first | exact HB.out | apply below_alloc | apply pw_below_drewN | apply below_drew1 | refine below_set ?_ (IsS60.ge HI200.out)) | exact HB.out)); rintro e w85 ⟨rfl, hi, hb, hk⟩; refine ⟨_, rfl, ?_⟩; have n0_ := Aside0.mk (hb); have n1_ := Aside0.mk (hi); clear HB; clear HI200; have HB := n0_; have HI200 := n1_; clear n0_ n1_; (try clear hb); (try clear hb2); (try clear hk); (try clear hi)) | (go_at_call 24; (with_reducible refine (crc_Digest_Sum.calls g200 t246 t247 t248 t249 t250 w _ ?side1 ?side2 A83.out).mono ?_); (case side1 => repeat (first | (with_reducible first | exact HI200.out | apply IsS60.alloc | apply IsS60.drewN | apply IsS60.drew | apply IsS60.set_0 | apply IsS60.set_1) | exact HI200.out)); (case side2 => repeat (first | (with_reducible first | exact HB.out | apply below_alloc | apply pw_below_drewN | apply below_drew1 | refine below_set ?_ (IsS60.ge HI200.out)) | exact HB.out)); rintro e w86 ⟨rfl, hi, hb, hk⟩; have n0_ := Aside0.mk (hb); have n1_ := Aside0.mk (hi); clear HB; clear HI200; have HB := n0_; have HI200 := n1_; clear n0_ n1_; (try clear hb); (try clear hb2); (try clear hk); (try clear hi)))
                  go_ret
                  exact ⟨by first | rfl | (simp [errW_none, errW_some] <;> rfl) | (simp [*, errW_none, errW_some] <;> rfl), by repeat (first | (with_reducible first | exact HB.out | apply below_alloc | apply pw_below_drewN | apply below_drew1 | refine below_set ?_ (IsS60.ge HI200.out)) | exact HB.out)⟩
                · rw [if_neg c82] at H
                  have c82b0 : (t245 == 0) = false := beq_eq_false_iff_ne.mpr c82
                  have c82b1 : (t245 != 0) = true := bne_iff_ne.mpr c82
                  obtain rfl := Option.some.inj H
                  go_wp2_with (first | ((with_reducible refine gate_callee (f := 27) rfl ?_); refine goesL_ (some 85) rfl rfl Try.func27 (by kernel_rfl) rfl #[.pointer (some ⟨g200, 0, none⟩)] rfl (by (try simp only [List.map_toArray, List.map_cons, List.map_nil]); first | done | rfl | (simp only [List.length_drop, List.length_take]; rfl)) ?_; (with_reducible refine (crc_Digest_Reset.calls g200 x201000_63 x201001_63 t243 t244 w _ ?side1 ?side2 A80.out).mono ?_); (case side1 => repeat (first | (with_reducible first | exact HI200.out | apply IsS60.alloc | apply IsS60.drewN | apply IsS60.drew | apply IsS60.set_0 | apply IsS60.set_1) | exact HI200.out)); (case side2 => repeat (first | (with_reducible first | exact HB.out | apply below_alloc | apply pw_below_drewN | apply below_drew1 | refine below_set ?_ (IsS60.ge HI200.out)) | exact HB.out)); rintro e w87 ⟨rfl, hi, hb, hk⟩; refine ⟨_, rfl, ?_⟩; have n0_ := Aside0.mk (hb); have n1_ := Aside0.mk (hi); clear HB; clear HI200; have HB := n0_; have HI200 := n1_; clear n0_ n1_; (try clear hb); (try clear hb2); (try clear hk); (try clear hi)) | ((with_reducible refine gate_callee (f := 25) rfl ?_); refine goesL_ (some 87) rfl rfl Try.func25 (by kernel_rfl) rfl #[.pointer (some ⟨g200, 0, none⟩)] rfl (by (try simp only [List.map_toArray, List.map_cons, List.map_nil]); first | done | rfl | (simp only [List.length_drop, List.length_take]; rfl)) ?_; (with_reducible refine (crc_Digest_Len.calls g200 t243 t244 t245 t246 t247 w _ ?side1 ?side2 A81.out).mono ?_); (case side1 => repeat (first | (with_reducible first | exact HI200.out | apply IsS60.alloc | apply IsS60.drewN | apply IsS60.drew | apply IsS60.set_0 | apply IsS60.set_1) | exact HI200.out)); (case side2 => repeat (first | (with_reducible first | exact HB.out | apply below_alloc | apply pw_below_drewN | apply below_drew1 | refine below_set ?_ (IsS60.ge HI200.out)) | exact HB.out)); rintro e w88 ⟨rfl, hi, hb, hk⟩; refine ⟨_, rfl, ?_⟩; have n0_ := Aside0.mk (hb); have n1_ := Aside0.mk (hi); clear HB; clear HI200; have HB := n0_; have HI200 := n1_; clear n0_ n1_; (try clear hb); (try clear hb2); (try clear hk); (try clear hi)))
                  go_ret
                  exact ⟨by first | rfl | (simp [errW_none, errW_some] <;> rfl) | (simp [*, errW_none, errW_some] <;> rfl), by repeat (first | (with_reducible first | exact HB.out | apply below_alloc | apply pw_below_drewN | apply below_drew1 | refine below_set ?_ (IsS60.ge HI200.out)) | exact HB.out)⟩
  · replace c4 := Bool.eq_false_iff.mpr c4
    subst c4
    have H1 : (some false) = some r := by rw [if_neg (show ¬ (false = true) by decide)] at H; exact H
    clear H
    have H := H1
    clear H1
    obtain rfl := Option.some.inj H
    go_enter Try.func7, Try.ntmps7
    go_wp2_with (first | ((with_reducible refine gate_callee (f := 20) rfl ?_); refine goesL_ (some 9) rfl rfl Try.func20 (by kernel_rfl) rfl #[] rfl (by (try simp only [List.map_toArray, List.map_cons, List.map_nil]); first | done | rfl | (simp only [List.length_drop, List.length_take]; rfl)) ?_; (with_reducible refine (amberlaw01_known.calls k  false _ A3.out).mono ?_); rintro e w89 ⟨rfl, hb⟩; refine ⟨_, rfl, ?_⟩; have n0_ := Aside0.mk (below_step (by repeat (first | (with_reducible first | exact HB.out | apply below_alloc | apply pw_below_drewN | apply below_drew1) | exact HB.out)) hb); clear HB; have HB := n0_; clear n0_; (try clear hb); (try clear hb2); (try clear hk); (try clear hi)))
    go_ret
    exact ⟨by first | rfl | (simp [errW_none, errW_some] <;> rfl) | (simp [*, errW_none, errW_some] <;> rfl), by repeat (first | (with_reducible first | exact HB.out | apply below_alloc | apply pw_below_drewN | apply below_drew1) | exact HB.out)⟩

/-- THE ONE PURE STATEMENT of amberlaw01_CrcPieces: yours. -/
def amberlaw01_CrcPieces.Pure : Prop := ∀ (l0 : List Int) (l1 : List Int), l0.length ≤ maxLen → l0.length * 1 ≤ 140737488351232 → (∀ x ∈ l0, (Lit.int .u8 x).wf = true) → l1.length ≤ maxLen → l1.length * 8 ≤ 140737488351232 → (∀ x ∈ l1, (Lit.int .i64 x).wf = true) → ∃ k, amberlaw01_CrcPieces.f k l0 l1 = some true
theorem amberlaw01_CrcPieces.walk (P : amberlaw01_CrcPieces.Pure) (a0 : Option Addr) (len0 cap0 : Nat) (z0 : List Int) (a1 : Option Addr) (len1 cap1 : Nat) (z1 : List Int) (w : World) (w0 : (a0 = none ∧ len0 = 0 ∧ cap0 = 0 ∧ z0 = []) ∨ ∃ x, a0 = some x ∧ len0 ≤ cap0 ∧ cap0 ≤ maxLen ∧ z0.length = cap0 ∧ (∀ i, i < z0.length → w.cell? (x.add i) = some (.int .u8 (z0.getD i 0))) ∧ ∀ n ∈ z0, (Lit.int .u8 n).wf = true) (y0 : len0 * 1 ≤ 140737488351232) (w1 : (a1 = none ∧ len1 = 0 ∧ cap1 = 0 ∧ z1 = []) ∨ ∃ x, a1 = some x ∧ len1 ≤ cap1 ∧ cap1 ≤ maxLen ∧ z1.length = cap1 ∧ (∀ i, i < z1.length → w.cell? (x.add i) = some (.int .i64 (z1.getD i 0))) ∧ ∀ n ∈ z1, (Lit.int .i64 n).wf = true) (y1 : len1 * 8 ≤ 140737488351232) :
    Calls Try.prog 7 #[.slice a0 len0 cap0, .slice a1 len1 cap1] w fun e w' => e = .returned (.bool true) ∧ Below w.heap.size w w' := by
  obtain ⟨l0, rfl, hr0, hm0, hw0, hc0⟩ := ReadsInt.ofRowC w0
  obtain ⟨l1, rfl, hr1, hm1, hw1, hc1⟩ := ReadsInt.ofRowC w1
  obtain ⟨k, h⟩ := P l0 l1 hm0 y0 hw0 hm1 y1 hw1
  refine (amberlaw01_CrcPieces.calls k _ _ l0 _ _ l1 true w (Kd.C_of_reads (d := (0 : Int)) (h1 := fun _ => rfl) hr0) hc0 (Kd.C_of_reads (d := (0 : Int)) (h1 := fun _ => rfl) hr1) hc1 h).mono ?_
  rintro e w' ⟨rfl, hd⟩
  exact ⟨rfl, hd⟩

end Go.Proofs.Ytcfnpippmdijaaa.PMore
