/- WireTellsBursts walked. -/
import Derived.Test.YtdmliaodacaefaaBurst
import Derived.Test.YtdmliaodacaefaaLay
import Derived.StillTailTactics
import Derived.IntWalk
import Derived.Deep.CutRange
namespace Go.Proofs.Ytdmliaodacaefaa.Bu
open Go.RowKit Go.Proofs.YtdmliaodacaefaaW.PrintWords Go.Proofs.YtdmliaodacaefaaW.PrintLast Go.Proofs.YtdmliaodacaefaaW.PrintMore Go.Proofs.Ytdmliaodacaefaa.Mem Go.Proofs.Ytdmliaodacaefaa.Sep Go.Proofs.Ytdmliaodacaefaa.Bridge Go.Proofs.Ytdmliaodacaefaa.Wr Go.Proofs.Ytdmliaodacaefaa.Ops Go.Proofs.Ytdmliaodacaefaa.Rd CrcM
set_option linter.unusedVariables false
set_option linter.unusedSimpArgs false
theorem clip_run (l : List UInt8) (h0 : ¬ (bl l).length = 0) (h : ((bl l).length : Int) ≤ 1048572) : clip (((bl l).length : Int) + 4) = l.length + 4 := by
  rw [bl_length] at *
  unfold clip; rw [if_neg (by omega), if_neg (by omega)]; omega
theorem wrap_bit (m : Nat) {y : UInt8} (h8 : m < 8) (hy : y = UInt8.ofNat (2 ^ m)) : IntKind.u8.wrap (2 ^ min m 8) = (y.toNat : Int) := by
  have h := shl1_byte m h8
  unfold shl at h
  rw [Int.toNat_natCast, Int.one_mul, show IntKind.bits .u8 = 8 from rfl, ← hy] at h
  exact h
theorem mark_put (l : List UInt8) (p : Nat) (mask : W) (k q m : Nat) (x y : UInt8) (hb : mask.getLsbD k = true) (hl : (p + k) / 8 < l.length) (hq : q = (p + k) / 8) (hm : m = (p + k) % 8)
    {hqm : q < (mark l (turn l (burst p (lows mask k)))).length} (hx : x = (mark l (turn l (burst p (lows mask k))))[q]'hqm) (hy : y = UInt8.ofNat (2 ^ m)) :
    (bl (mark l (turn l (burst p (lows mask k))))).set q (((x ^^^ y).toNat : Nat) : Int) = bl (mark l (turn l (burst p (lows mask (k + 1))))) := by
  subst hq hm hx hy
  have h1 := burst_on l p mask k hb hl
  rw [← h1, ← mark_set _ _ _ _ (by rw [turn_length]; exact hl)]
  have h2 : (mark l (turn l (burst p (lows mask k))))[(p + k) / 8]'hqm = (turn l (burst p (lows mask k)))[(p + k) / 8]'(by rw [turn_length]; exact hl) := List.getElem_append_left (by rw [turn_length]; exact hl)
  rw [h2]
  unfold bl
  rw [List.map_set]
theorem shrbit (mask : W) (k : Nat) (hlt : k < 32) : Go.bits .and .u32 (ui mask / 2 ^ k) 1 = if mask.getLsbD k = true then 1 else 0 := by
  rw [← shrbit_ui mask k hlt]
  unfold shr
  rw [Int.toNat_natCast, show min k (IntKind.bits .u32) = k from by simp [IntKind.bits]; omega]
set_option maxRecDepth 100000 in
set_option maxHeartbeats 8000000 in
theorem walk (A1 : Option Addr) (c1 : Nat) (l : List UInt8) (p0 : Int) (mask : W) (w : World)
    (hs1 : Sl.ok w ⟨A1, c1, l⟩) (hp0 : -9223372036854775808 ≤ p0 ∧ p0 ≤ 9223372036854775807) :
    Calls Try.prog 5 #[.slice A1 (bl l).length c1, .int .i64 p0, .int .u32 (ui mask)] w fun e w' => e = .returned (.bool true) ∧ Below w.heap.size w w' := by
  have HR := Lib.hid hs1.read
  have HSL := Lib.hid hs1
  have hc1 : (bl l).length ≤ c1 := hs1.cap
  have HL := Lib.hid hs1.len
  have hbl : ((bl l).length : Int) ≤ 140737488351232 := by rw [bl_length]; have := hs1.len; simp only at this; omega
  have HP0 := Lib.hid hp0
  have HU := Lib.hid (ui_range mask)
  clear hs1 hp0
  by_cases h0 : (bl l).length = 0
  · go_enter Try.func5, Try.ntmps5
    go_wp2_with fail
    go_ret
    exact ⟨rfl, Below.refl _ _⟩
  by_cases hbig : (1048572 : Int) < ((bl l).length : Int)
  · go_enter Try.func5, Try.ntmps5
    go_wp2_with fail
    go_ret
    exact ⟨rfl, Below.refl _ _⟩
  have HC := Lib.hid (clip_run l h0 (by omega))
  have HBL := Lib.hid (bl_length l)
  go_enter Try.func5, Try.ntmps5
  go_wp2_with fail
  refine (neww_calls _ _).mono ?_
  rintro e w1 ⟨rfl, h1, hb1⟩
  rw [HC.out] at h1
  obtain ⟨a, ha⟩ : ∃ a, a = w.heap.size := ⟨_, rfl⟩
  rw [← ha] at h1
  rw [← ha]
  have S1 : Hid (Since w [st objW a (WS.new (l.length + 4))] w1) := Lib.hid ((Since.start w).add hb1 (by rw [ha] at h1 ⊢; exact h1))
  clear h1 hb1 ha
  go_wp2_with fail
  obtain ⟨F2, g2, hu2, k2⟩ := Since.pick S1.out 0 (by simp)
  refine (open_calls a _ g2).mono ?_
  rintro e w2 ⟨rfl, ht⟩
  have S2 : Hid (Since w [st objW a (WS.new (l.length + 4)).open_] w2) := Lib.hid (k2 _ _ ht)
  clear ht g2 hu2 k2
  go_wp2_with fail
  obtain ⟨F3, g3, hu3, k3⟩ := Since.pick S2.out 0 (by simp)
  have hap := Sl.apart HSL.out hu3 S2.out.below
  refine (Wr.block_calls a _ A1 c1 l g3 (Kd.C_below HR.out S2.out.below) hc1 HL.out (fun h0 x hx => (hap h0 x hx).1)).mono ?_
  rintro e w3 ⟨rfl, ht⟩
  have S3 : Hid (Since w [st objW a ((WS.new (l.length + 4)).open_.put l)] w3) := Lib.hid (k3 _ _ ht)
  clear ht g3 hu3 k3 hap
  go_wp2_with fail
  obtain ⟨F4, g4, _, k4⟩ := Since.pick S3.out 0 (by simp)
  refine (seal_calls a _ g4).mono ?_
  rintro e w4 ⟨rfl, ht⟩
  have S4 : Hid (Since w [st objW a ⟨mark l l, l.length + 4, [], 0⟩] w4) := Lib.hid (by
    have h := k4 _ _ ht
    rw [run_state] at h
    exact h)
  clear ht g4 k4
  go_wp2_with fail
  obtain ⟨F5, g5, _, _⟩ := Since.pick S4.out 0 (by simp)
  refine (out_calls a _ g5).mono ?_
  rintro e w5 ⟨v5, rfl, hn⟩
  have hn : New w4 w5 v5 (bl (mark l l)) := hn
  have S5 : Hid (Since w [st objW a ⟨mark l l, l.length + 4, [], 0⟩, row 5 .u8 v5 (bl (mark l l))] w5) := Lib.hid (S4.out.add hn.2.2 (new_row hn))
  obtain ⟨A5, c5, e5, hc5, hC5, _⟩ := row_C (new_row hn)
  have HC5 := Lib.hid hC5
  have HC5c := Lib.hid hc5
  have hml : ((bl (mark l l)).length : Int) = ((bl l).length : Int) + 4 := by rw [bl_length, bl_length, mark_length]; omega
  have HML := Lib.hid (show (mark l l).length ≤ 140737488351232 by rw [mark_length]; rw [bl_length] at hbl hbig; omega)
  have HMB := Lib.hid (show (bl (mark l l)).length = l.length + 4 by rw [bl_length, mark_length])
  subst e5
  have e0 : (⟨mark l l, l.length + 4, [], 0⟩ : WS).told.2 = 0 := rfl
  rw [e0]
  clear hn g5 hc5 hC5 S1 S2 S3 S4 e0
  go_wp2_with fail
  refine (newp_calls A5 c5 (mark l l) w5 HC5.out HC5c.out HML.out).mono ?_
  rintro e w6 ⟨r, rfl, h6, hb6⟩
  have S6 : Hid (Since w [st objW a ⟨mark l l, l.length + 4, [], 0⟩, row 5 .u8 (.slice A5 (bl (mark l l)).length c5) (bl (mark l l)), rd 76 r (RS.new (mark l l))] w6) := Lib.hid (S5.out.add hb6 h6)
  clear h6 hb6
  go_wp2_with fail
  obtain ⟨G7, g7, _, k7⟩ := Since.pick S6.out 2 (by simp)
  have eN : ((bl l).length : Int) = (l.length : Int) := by rw [bl_length]
  rw [eN]
  refine (Rd.sealed_calls r _ (l.length : Int) g7).mono ?_
  rintro e w7 ⟨v7, rfl, ht⟩
  rw [sealedS_run l l rfl rfl, sealedL_run l l rfl rfl] at ht
  rw [← eN]
  have S7 : Hid (Since w [st objW a ⟨mark l l, l.length + 4, [], 0⟩, row 5 .u8 (.slice A5 (bl (mark l l)).length c5) (bl (mark l l)), rd 76 r ⟨mark l l, l.length + 4, 0⟩] w7) := Lib.hid (k7 _ _ (Turn.first ht))
  obtain ⟨Q7, q7⟩ := on_second ht.2
  obtain ⟨A7, c7, e7, hc7, hC7, _⟩ := row_C q7
  subst e7
  have HS7 := Lib.hid (same_calls A7 c7 w7 A1 c1 (bl l) (bl l) hC7 hc7 (Kd.C_below HR.out S7.out.below) hc1 rfl)
  clear ht g7 k7 q7 hC7 hc7 eN
  go_wp2_with fail
  refine HS7.out.mono ?_
  rintro e w8 ⟨rfl, hd⟩
  have S8 : Hid (Since w [st objW a ⟨mark l l, l.length + 4, [], 0⟩, row 5 .u8 (.slice A5 (bl (mark l l)).length c5) (bl (mark l l)), rd 76 r ⟨mark l l, l.length + 4, 0⟩] w8) := Lib.hid (S7.out.drawn hd)
  clear hd HS7
  go_wp2_with fail
  obtain ⟨G9, g9, _, _⟩ := Since.pick S8.out 2 (by simp)
  refine (Rd.end_calls r _ g9).mono ?_
  rintro e w9 ⟨rfl, hd⟩
  have t9 : (⟨mark l l, l.length + 4, 0⟩ : RS).endE = 0 := by unfold RS.endE RS.left; rw [if_neg (by simp [mark_length])]
  rw [t9]
  have S9 : Hid (Since w [row 5 .u8 (.slice A5 (bl (mark l l)).length c5) (bl (mark l l))] w9) := Lib.hid (by
    have h := S8.out.drawn hd
    obtain ⟨F, h1, h2⟩ := Since.at_ h 1 (by simp)
    exact ⟨Turn.alone ((row 5 .u8 _ _).up h1 h2), h.below⟩)
  clear t9 hd g9 S5 S6 S7 S8
  have HB8 := Lib.hid (show wrap64 (8 * ((bl l).length : Int)) = 8 * ((bl l).length : Int) by unfold wrap64; omega)
  obtain ⟨g, hg⟩ : ∃ g, A5 = some ⟨g, 0, none⟩ := by
    obtain ⟨F, h1, _⟩ := Since.at_ S9.out 0 (by simp)
    obtain ⟨g, c, e, _, _⟩ := (show (row 5 .u8 (.slice A5 (bl (mark l l)).length c5) (bl (mark l l))).on w9 F from h1).1.some (by rw [HMB.out]; omega)
    injection e with e1 e2 e3
    exact ⟨g, e1⟩
  subst hg
  clear HC5
  have t0 : ¬ (8 * ((bl l).length : Int)) = 0 := by omega
  have h80 : (0 : Int) < 8 * ((bl l).length : Int) := by omega
  obtain ⟨pm, hpm⟩ : ∃ z : Int, z = p0.tmod (8 * ((bl l).length : Int)) := ⟨_, rfl⟩
  have HPM := Lib.hid (show -(8 * ((bl l).length : Int)) < pm ∧ pm < 8 * ((bl l).length : Int) by
    rw [hpm]
    have h1 := Int.lt_tmod_of_pos p0 h80
    have h2 := Int.tmod_lt_of_pos p0 h80
    exact ⟨h1, h2⟩)
  go_upto_if 77 with fail
  rw [← hpm]
  clear hpm
  go_cut [1] from 78 to 80 (fun v1 wx => wx = w9 ∧ ∃ p : Nat, v1 = .int .i64 p ∧ p < 8 * l.length)
  case first =>
    by_cases hneg : pm < 0
    · have HPP := Lib.hid (show wrap64 (pm + 8 * ((bl l).length : Int)) = pm + 8 * ((bl l).length : Int) by have h1 := HPM.out; unfold wrap64; omega)
      go_wp2_with fail
      go_meet
      case rel =>
        obtain ⟨h1, h2⟩ := HPM.out
        obtain ⟨p, hp⟩ := Int.eq_ofNat_of_zero_le (show 0 ≤ pm + 8 * ((bl l).length : Int) by omega)
        exact ⟨rfl, p, by simp [← hp, HPP.out], by rw [bl_length] at *; omega⟩
    · go_wp2_with fail
      go_meet
      case rel =>
        obtain ⟨h1, h2⟩ := HPM.out
        obtain ⟨p, hp⟩ := Int.eq_ofNat_of_zero_le (show 0 ≤ pm by omega)
        exact ⟨rfl, p, by rw [hp], by rw [bl_length] at *; omega⟩
  case rest =>
    obtain ⟨hw, p, rfl, hp⟩ := hcut
    subst hw
    clear HPM HP0 h80
    have HPL := Lib.hid hp
    clear hp t0
    go_wp2_with fail
    go_loopw [12, 13] (fun v12 v13 wr => ∃ k : Nat, v13 = .int .i64 k ∧ v12 = .bool (decide (¬ lows mask k = BitVec.ofNat 32 0)) ∧ k ≤ 32 ∧ p + k ≤ 8 * l.length ∧ Since w [row 5 .u8 (.slice (some ⟨g, 0, none⟩) (bl (mark l l)).length c5) (bl (mark l (turn l (burst p (lows mask k)))))] wr) (fun _ v _ => 32 - (intOf v).toNat)
    case atStart => exact ⟨0, rfl, by rw [lows_nil]; simp, by omega, by have := HPL.out; omega, by rw [turn_none]; exact S9.out⟩
    case round =>
      obtain ⟨k, rfl, rfl, hk, hpk, hs⟩ := hrel
      have HS := Lib.hid hs
      have HK := Lib.hid hk
      have HPK := Lib.hid hpk
      have hpl : (p : Int) + (k : Int) ≤ 1125899906842624 := by have := HPK.out; have := HL.out; have := HBL.out; omega
      clear hs hk hpk
      by_cases hlt : k < 32
      · by_cases hin : (p : Int) + (k : Int) < 8 * ((bl l).length : Int)
        · have hq : (p + k) / 8 < l.length := by rw [bl_length] at hin; omega
          have HQ := Lib.hid hq
          clear hq
          by_cases hb : mask.getLsbD k = true
          · have tb : Go.bits .and .u32 (ui mask / 2 ^ k) 1 = 1 := by rw [shrbit mask k hlt, if_pos hb]
            obtain ⟨F, g1, hu1, k1⟩ := Since.pick HS.out 0 (by simp)
            have hRw := (show (row 5 .u8 (.slice (some ⟨g, 0, none⟩) (bl (mark l l)).length c5) (bl (mark l (turn l (burst p (lows mask k)))))).on wr F from g1).1
            have hFg := (show (row 5 .u8 (.slice (some ⟨g, 0, none⟩) (bl (mark l l)).length c5) (bl (mark l (turn l (burst p (lows mask k)))))).on wr F from g1).2
            obtain ⟨q, hq⟩ : ∃ q, q = (p + k) / 8 := ⟨_, rfl⟩
            obtain ⟨m, hm⟩ : ∃ m, m = (p + k) % 8 := ⟨_, rfl⟩
            have hqm : q < (mark l (turn l (burst p (lows mask k)))).length := by rw [mark_length, turn_length, hq]; have := HQ.out; omega
            have hqn : q < (bl (mark l l)).length := by rw [HMB.out, hq]; have := HQ.out; omega
            have hcell := Kd.R_celln (0 : Int) hRw (q : Int) (by omega) (by omega)
            rw [Int.toNat_natCast] at hcell
            have cx : wr.cell? ⟨g, q, none⟩ = some (.int .u8 (((mark l (turn l (burst p (lows mask k))))[q]).toNat : Int)) := hcell.1.trans (congrArg (fun z => some (Value.int .u8 z)) (rd_bl _ q hqm))
            have fx : wr.frozen? ⟨g, q, none⟩ = false := hcell.2
            clear hcell
            obtain ⟨x, hx⟩ : ∃ x : UInt8, x = (mark l (turn l (burst p (lows mask k))))[q] := ⟨_, rfl⟩
            obtain ⟨y, hy⟩ : ∃ y : UInt8, y = UInt8.ofNat (2 ^ m) := ⟨_, rfl⟩
            rw [← hx] at cx
            go_wp2_with fail
            obtain ⟨t, ht⟩ : ∃ t : Int, t = (p : Int) + (k : Int) := ⟨_, rfl⟩
            have e1 : IntKind.i64.wrap ((p : Int) + (k : Int)) = t := by rw [ht]; exact IntWalk.i64_in _ (by omega)
            have e2 : t.tdiv 8 = (q : Int) := by rw [ht, hq, ← Int.natCast_add, tdiv8]
            have e3 : t.tmod 8 = (m : Int) := by rw [ht, hm, ← Int.natCast_add, tmod8]
            have e4 : IntKind.u8.wrap (2 ^ min m 8) = (y.toNat : Int) := wrap_bit m (by omega) hy
            have e5 : Go.bits .xor .u8 (x.toNat : Int) (y.toNat : Int) = ((x ^^^ y).toNat : Int) := xor_byte x y
            have e6 : IntKind.i64.wrap (q : Int) = q := IntWalk.i64_in _ (by rw [hq]; omega)
            have e7 : (q : Int) < ((bl l).length : Int) + 4 := by omega
            have e8 : (0 : Int) ≤ (q : Int) := by omega
            have e9 : (0 : Int) ≤ (m : Int) := by omega
            have HX := Lib.hid hx
            have HY := Lib.hid hy
            have HQE := Lib.hid hq
            have HME := Lib.hid hm
            have HT := Lib.hid ht
            have HRW := Lib.hid hRw
            have HFG := Lib.hid hFg
            have HK1 := Lib.hid k1
            have HQN := Lib.hid hqn

            clear hx hy hq hm ht hRw hFg k1 hqn g1 hu1
            go_still_tail 19, (by kernel_rfl)
            clear e1 e2 e3 e4 e6 e7 e8 e9
            obtain ⟨w2, hw2⟩ : ∃ w2, w2 = wr.drew := ⟨_, rfl⟩
            change wpList _ _ _ _ _ wr.drew
            rw [← hw2]
            have S2 := HS.out.drawn (show Drawn0 wr w2 from ⟨1, hw2⟩)
            obtain ⟨F2, g2, hu2, k2⟩ := Since.pick S2 0 (by simp)
            have hRw2 := (show (row 5 .u8 (.slice (some ⟨g, 0, none⟩) (bl (mark l l)).length c5) (bl (mark l (turn l (burst p (lows mask k)))))).on w2 F2 from g2).1
            have hFg2 := (show (row 5 .u8 (.slice (some ⟨g, 0, none⟩) (bl (mark l l)).length c5) (bl (mark l (turn l (burst p (lows mask k)))))).on w2 F2 from g2).2
            have hc2 := Kd.R_celln (0 : Int) hRw2 (q : Int) (by omega) (by have := HQN.out; omega)
            rw [Int.toNat_natCast] at hc2
            have cx2 := hc2.1
            have fx2 : w2.frozen? ⟨g, q, none⟩ = false := hc2.2
            have S3 : Hid (Since w [row 5 .u8 (.slice (some ⟨g, 0, none⟩) (bl (mark l l)).length c5) (bl (mark l (turn l (burst p (lows mask (k + 1))))))] (w2.setCell ⟨g, q, none⟩ (.int .u8 ((x.toNat ^^^ y.toNat : Nat) : Int)))) := Lib.hid (by
              rw [← UInt8.toNat_xor]
              have h1 := (Kd.R_putg hRw2 (q : Int) ((x ^^^ y).toNat : Int)).1
              rw [Int.toNat_natCast, mark_put l p mask k q m x y hb HQ.out HQE.out HME.out HX.out HY.out] at h1
              have h2 := k2 _ _ (show Turn w2 (w2.setCell ⟨g, q, none⟩ (.int .u8 ((x ^^^ y).toNat : Int))) F2 (row 5 .u8 (.slice (some ⟨g, 0, none⟩) (bl (mark l l)).length c5) (bl (mark l (turn l (burst p (lows mask (k + 1))))))) from ⟨(Only.refl w2 F2).setCell (p := ⟨g, q, none⟩) (.inl (hFg2 g rfl)) _, ⟨h1, fun b hb2 => .inl (hFg2 b hb2)⟩⟩)
              exact h2)
            clear hc2 hRw2 hFg2 S2 g2 hu2 k2 e5 hw2
            go_wp2_with fail
            refine ⟨⟨k + 1, by simp, by rw [decide_eq_true (lows_on mask k hb)], by omega, by have := HBL.out; omega, ?_⟩, by simp [intOf]; omega⟩
            exact S3.out
          · have tb : Go.bits .and .u32 (ui mask / 2 ^ k) 1 = 0 := by rw [shrbit mask k hlt, if_neg hb]
            go_wp2_with fail
            refine ⟨⟨k + 1, by simp, by rw [lows_off mask k hlt (by simpa using hb)]; simp, by omega, by have := HBL.out; omega, ?_⟩, by simp [intOf]; omega⟩
            rw [lows_off mask k hlt (by simpa using hb)]
            exact HS.out
        · have HT := Lib.hid (told_turn l p (lows mask k) (by have := HPK.out; omega) (fun j hj => by
            rw [lows_bit] at hj
            have h1 : j < k := by simpa using (Bool.and_eq_true_iff.1 hj).1
            have := HPK.out; omega))
          obtain ⟨l2, hl2⟩ : ∃ l2, l2 = turn l (burst p (lows mask k)) := ⟨_, rfl⟩
          have HLL := Lib.hid (show l2.length = l.length by rw [hl2, turn_length])
          rw [← hl2] at HS HT
          clear hl2
          by_cases hz : lows mask k = BitVec.ofNat 32 0
          · go_wp2_with fail
            go_ret
            exact ⟨rfl, HS.out.below⟩
          · have HNE := Lib.hid (fun e => hz (HT.out.1 e))
            go_wp2_with fail
            obtain ⟨F1, g1, _⟩ := Since.at_ HS.out 0 (by simp)
            obtain ⟨B, d, eB, hcB, hCB, _⟩ := row_C (show (row 5 .u8 (.slice (some ⟨g, 0, none⟩) (bl (mark l l)).length c5) (bl (mark l l2))).on wr F1 from g1)
            rw [eB]
            have hn2 : (bl (mark l l2)).length = (bl (mark l l)).length := by rw [bl_length, bl_length, mark_length, mark_length, HLL.out]
            refine (newp_calls B d (mark l l2) wr hCB hcB (by rw [mark_length, HLL.out, ← mark_length]; exact HML.out)).mono ?_
            rintro e w10 ⟨s, rfl, h10, hb10⟩
            rw [← eB]
            have S10 : Hid (Since w [row 5 .u8 (.slice (some ⟨g, 0, none⟩) (bl (mark l l)).length c5) (bl (mark l l2)), rd 76 s (RS.new (mark l l2))] w10) := Lib.hid (HS.out.add hb10 h10)
            clear h10 hb10 g1 hCB hcB eB hn2
            go_wp2_with fail
            obtain ⟨G11, g11, _, k11⟩ := Since.pick S10.out 1 (by simp)
            have eN : ((bl l).length : Int) = (l.length : Int) := by rw [bl_length]
            rw [eN]
            refine (Rd.sealed_calls s _ (l.length : Int) g11).mono ?_
            rintro e w11 ⟨v11, rfl, ht⟩
            rw [sealedS_bad l l2 HLL.out HNE.out, sealedL_bad l l2 HLL.out HNE.out] at ht
            rw [← eN]
            have S11 : Hid (Since w [row 5 .u8 (.slice (some ⟨g, 0, none⟩) (bl (mark l l)).length c5) (bl (mark l l2)), rd 76 s ⟨mark l l2, 0, 21⟩] w11) := Lib.hid (k11 _ _ (Turn.first ht))
            obtain ⟨Q11, q11⟩ := on_second ht.2
            obtain ⟨A11, c11, e11, _, _, _⟩ := row_C q11
            have e12 : v11 = .slice A11 0 c11 := e11
            subst e12
            clear ht g11 k11 q11 e11 eN
            go_wp2_with fail
            obtain ⟨G12, g12, _, _⟩ := Since.pick S11.out 1 (by simp)
            refine (Rd.rerr_calls s _ g12).mono ?_
            rintro e w12 ⟨rfl, rfl⟩
            have t12 : (⟨mark l l2, 0, 21⟩ : RS).err = 21 := rfl
            rw [t12]
            clear g12 t12
            go_wp2_with fail
            obtain ⟨G13, g13, _, _⟩ := Since.pick S11.out 1 (by simp)
            refine (Rd.left_calls s _ g13).mono ?_
            rintro e w13 ⟨rfl, hd⟩
            have t13 : (((⟨mark l l2, 0, 21⟩ : RS).left : Nat) : Int) = ((bl (mark l l)).length : Int) := by rw [HMB.out]; unfold RS.left; simp only [mark_length, HLL.out]; omega
            rw [t13]
            have S13 : Hid (Since w [row 5 .u8 (.slice (some ⟨g, 0, none⟩) (bl (mark l l)).length c5) (bl (mark l l2)), rd 76 s ⟨mark l l2, 0, 21⟩] w13) := Lib.hid (S11.out.drawn hd)
            clear g13 t13 hd
            go_wp2_with fail
            go_ret
            exact ⟨by simp, S13.out.below⟩
      · have HT := Lib.hid (told_turn l p (lows mask k) (by have := HPK.out; omega) (fun j hj => by
          rw [lows_bit] at hj
          have h1 : j < k := by simpa using (Bool.and_eq_true_iff.1 hj).1
          have := HPK.out; omega))
        obtain ⟨l2, hl2⟩ : ∃ l2, l2 = turn l (burst p (lows mask k)) := ⟨_, rfl⟩
        have HLL := Lib.hid (show l2.length = l.length by rw [hl2, turn_length])
        rw [← hl2] at HS HT
        clear hl2
        by_cases hz : lows mask k = BitVec.ofNat 32 0
        · go_wp2_with fail
          go_ret
          exact ⟨rfl, HS.out.below⟩
        · have HNE := Lib.hid (fun e => hz (HT.out.1 e))
          go_wp2_with fail
          obtain ⟨F1, g1, _⟩ := Since.at_ HS.out 0 (by simp)
          obtain ⟨B, d, eB, hcB, hCB, _⟩ := row_C (show (row 5 .u8 (.slice (some ⟨g, 0, none⟩) (bl (mark l l)).length c5) (bl (mark l l2))).on wr F1 from g1)
          rw [eB]
          have hn2 : (bl (mark l l2)).length = (bl (mark l l)).length := by rw [bl_length, bl_length, mark_length, mark_length, HLL.out]
          refine (newp_calls B d (mark l l2) wr hCB hcB (by rw [mark_length, HLL.out, ← mark_length]; exact HML.out)).mono ?_
          rintro e w10 ⟨s, rfl, h10, hb10⟩
          rw [← eB]
          have S10 : Hid (Since w [row 5 .u8 (.slice (some ⟨g, 0, none⟩) (bl (mark l l)).length c5) (bl (mark l l2)), rd 76 s (RS.new (mark l l2))] w10) := Lib.hid (HS.out.add hb10 h10)
          clear h10 hb10 g1 hCB hcB eB hn2
          go_wp2_with fail
          obtain ⟨G11, g11, _, k11⟩ := Since.pick S10.out 1 (by simp)
          have eN : ((bl l).length : Int) = (l.length : Int) := by rw [bl_length]
          rw [eN]
          refine (Rd.sealed_calls s _ (l.length : Int) g11).mono ?_
          rintro e w11 ⟨v11, rfl, ht⟩
          rw [sealedS_bad l l2 HLL.out HNE.out, sealedL_bad l l2 HLL.out HNE.out] at ht
          rw [← eN]
          have S11 : Hid (Since w [row 5 .u8 (.slice (some ⟨g, 0, none⟩) (bl (mark l l)).length c5) (bl (mark l l2)), rd 76 s ⟨mark l l2, 0, 21⟩] w11) := Lib.hid (k11 _ _ (Turn.first ht))
          obtain ⟨Q11, q11⟩ := on_second ht.2
          obtain ⟨A11, c11, e11, _, _, _⟩ := row_C q11
          have e12 : v11 = .slice A11 0 c11 := e11
          subst e12
          clear ht g11 k11 q11 e11 eN
          go_wp2_with fail
          obtain ⟨G12, g12, _, _⟩ := Since.pick S11.out 1 (by simp)
          refine (Rd.rerr_calls s _ g12).mono ?_
          rintro e w12 ⟨rfl, rfl⟩
          have t12 : (⟨mark l l2, 0, 21⟩ : RS).err = 21 := rfl
          rw [t12]
          clear g12 t12
          go_wp2_with fail
          obtain ⟨G13, g13, _, _⟩ := Since.pick S11.out 1 (by simp)
          refine (Rd.left_calls s _ g13).mono ?_
          rintro e w13 ⟨rfl, hd⟩
          have t13 : (((⟨mark l l2, 0, 21⟩ : RS).left : Nat) : Int) = ((bl (mark l l)).length : Int) := by rw [HMB.out]; unfold RS.left; simp only [mark_length, HLL.out]; omega
          rw [t13]
          have S13 : Hid (Since w [row 5 .u8 (.slice (some ⟨g, 0, none⟩) (bl (mark l l)).length c5) (bl (mark l l2)), rd 76 s ⟨mark l l2, 0, 21⟩] w13) := Lib.hid (S11.out.drawn hd)
          clear g13 t13 hd
          go_wp2_with fail
          go_ret
          exact ⟨by simp, S13.out.below⟩
theorem walk' (A1 : Option Addr) (c1 : Nat) (l : List UInt8) (p0 m : Int) (w : World)
    (hs1 : Sl.ok w ⟨A1, c1, l⟩) (hp0 : (Lit.int .i64 p0).wf = true) (hm : (Lit.int .u32 m).wf = true) :
    Calls Try.prog 5 #[.slice A1 (bl l).length c1, .int .i64 p0, .int .u32 m] w fun e w' => e = .returned (.bool true) ∧ Below w.heap.size w w' := by
  obtain ⟨A, rfl⟩ := of_u32 hm
  exact walk A1 c1 l p0 A w hs1 (by simpa [Lit.wf, IntKind.min, IntKind.max, IntKind.signed, IntKind.bits] using hp0)
end Go.Proofs.Ytdmliaodacaefaa.Bu
