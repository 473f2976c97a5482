/- WireFirstErrorStays walked. -/
import Derived.Test.YtdmliaodacaefaaLay
import Derived.Test.YtdmliaodacaefaaReadsWalk
namespace Go.Proofs.Ytdmliaodacaefaa.Fe
open Go.RowKit Go.Proofs.YtdmliaodacaefaaW.PrintWords Go.Proofs.YtdmliaodacaefaaW.PrintLast Go.Proofs.YtdmliaodacaefaaW.PrintMore Go.Proofs.Ytdmliaodacaefaa.Mem Go.Proofs.Ytdmliaodacaefaa.Sep Go.Proofs.Ytdmliaodacaefaa.Bridge Go.Proofs.Ytdmliaodacaefaa.Wr Go.Proofs.Ytdmliaodacaefaa.Ops Go.Proofs.Ytdmliaodacaefaa.Rd
set_option linter.unusedVariables false
set_option linter.unusedSimpArgs false
theorem put_err {s : WS} (h : ¬ s.err = 0) (l : List UInt8) : s.put l = s := by unfold WS.put; rw [if_neg h]
theorem open_err {s : WS} (h : ¬ s.err = 0) : s.open_ = s := by unfold WS.open_; rw [if_neg h]
theorem seal_err {s : WS} (h : ¬ s.err = 0) : s.seal = s := by unfold WS.seal; rw [if_neg h]
theorem num_err {s : WS} (h : ¬ s.err = 0) (v : Int) (m n : Nat) : s.num v m n = s := by unfold WS.num; rw [if_neg (fun h2 => h h2.1), put_err h]
theorem lay_err {s : WS} (h : ¬ s.err = 0) (k n : Int) (l : List UInt8) : s.lay k n l = s := by
  unfold WS.lay
  rw [num_err h, num_err h, put_err h, put_err h, put_err h, open_err h, put_err h, seal_err h]
  split <;> (try rfl)
  split <;> (try rfl)
  split <;> (try rfl)
  split <;> (try rfl)
  split <;> (try rfl)
  split <;> rfl
theorem has_no {s : RS} (h : ¬ s.err = 0) (n : Int) : s.hasB n = false := by unfold RS.hasB; simp [h]
theorem hasS_no {s : RS} (h : ¬ s.err = 0) (n : Int) : s.hasS n = s := by unfold RS.hasS; rw [if_neg h]
theorem take_err {s : RS} (h : ¬ s.err = 0) (n : Int) : s.takeS n = s := by unfold RS.takeS; rw [has_no h]; exact hasS_no h n
theorem takeV_err {s : RS} (h : ¬ s.err = 0) (n : Nat) : s.takeV n = 0 := by unfold RS.takeV; rw [has_no h]; rfl
theorem blockL_err {s : RS} (h : ¬ s.err = 0) (n : Int) : s.blockL n = [] := by unfold RS.blockL; rw [has_no h]; rfl
theorem sealedS_err {s : RS} (h : ¬ s.err = 0) (n : Int) : s.sealedS n = s := by unfold RS.sealedS; rw [has_no h]; exact hasS_no h n
theorem sealedL_err {s : RS} (h : ¬ s.err = 0) (n : Int) : s.sealedL n = [] := by unfold RS.sealedL; rw [has_no h]; rfl
theorem first_state (l : List UInt8) (hl : l.length ≤ 1048476) : ((WS.new (clip ((l.length : Int) + 100))).put l).num 65536 65535 2 = ⟨l, l.length + 100, [], 1⟩ := by
  have hc : clip ((l.length : Int) + 100) = l.length + 100 := by unfold clip; rw [if_neg (by omega), if_neg (by omega)]; omega
  rw [hc]
  have h1 : (WS.new (l.length + 100)).put l = ⟨l, l.length + 100, [], 0⟩ := by
    unfold WS.put
    rw [if_pos (show (WS.new (l.length + 100)).err = 0 from rfl), if_pos (by show 0 + l.length ≤ l.length + 100; omega)]
    rfl
  rw [h1]
  unfold WS.num
  rw [if_pos ⟨rfl, .inr (by decide)⟩]
  rfl
theorem wz : wrap64 ((0 : Nat) : Int) = 0 := by unfold wrap64; omega
set_option maxRecDepth 100000 in
set_option maxHeartbeats 8000000 in
theorem walk (A1 : Option Addr) (c1 : Nat) (l : List UInt8) (A : Option Addr) (len cap : Nat) (ops : List OpR) (w : World)
    (hs1 : Sl.ok w ⟨A1, c1, l⟩) (h : Script w A len ops) :
    Calls Try.prog 7 #[.slice A1 (bl l).length c1, .slice A len cap] w fun e w' => e = .returned (.bool true) ∧ Below w.heap.size w w' := by
  have H := Lib.hid h
  have HM := Lib.hid h.max
  have HR := Lib.hid hs1.read
  have HSL := Lib.hid hs1
  have hc1 : (bl l).length ≤ c1 := hs1.cap
  have HL := Lib.hid hs1.len
  have hbl : ((bl l).length : Int) ≤ 140737488351232 := by rw [bl_length]; have := hs1.len; simp only at this; omega
  by_cases hbig : (1048476 : Int) < ((bl l).length : Int)
  · clear h hs1
    go_enter Try.func7, Try.ntmps7
    go_wp2_with fail
    go_ret
    exact ⟨rfl, Below.refl _ _⟩
  · have HSM := Lib.hid (show l.length ≤ 1048476 by rw [bl_length] at hbig; omega)
    have HBL := Lib.hid (bl_length l)
    clear h hs1
    go_enter Try.func7, Try.ntmps7
    go_wp2_with fail
    refine (neww_calls _ _).mono ?_
    rintro e w1 ⟨rfl, h1, hb1⟩
    have S1 : Hid (Since w [st objW w.heap.size (WS.new (clip (((bl l).length : Int) + 100)))] w1) := Lib.hid ((Since.start w).add hb1 h1)
    clear h1 hb1
    go_wp2_with fail
    refine (newp_calls A1 c1 l w1 (Kd.C_below HR.out S1.out.below) hc1 HL.out).mono ?_
    rintro e w2 ⟨r, rfl, h2, hb2⟩
    obtain ⟨a, ha⟩ : ∃ a, a = w.heap.size := ⟨_, rfl⟩
    rw [← ha] at S1
    rw [← ha]
    have S2 : Hid (Since w [st objW a (WS.new (clip (((bl l).length : Int) + 100))), rd 76 r (RS.new l)] w2) := Lib.hid (S1.out.add hb2 h2)
    clear h2 hb2 ha
    go_wp2_with fail
    obtain ⟨F3, g3, hu3, k3⟩ := Since.pick S2.out 0 (by simp)
    have hap := Sl.apart HSL.out hu3 S2.out.below
    refine (Wr.block_calls a _ A1 c1 l g3 (Kd.C_below HR.out S2.out.below) hc1 HL.out (fun h0 x hx => (hap h0 x hx).1)).mono ?_
    rintro e w3 ⟨rfl, ht⟩
    have S3 : Hid (Since w [st objW a ((WS.new (clip (((bl l).length : Int) + 100))).put l), rd 76 r (RS.new l)] w3) := Lib.hid (k3 _ _ ht)
    clear ht g3 hu3 k3 hap
    go_wp2_with fail
    obtain ⟨F4, g4, _, k4⟩ := Since.pick S3.out 0 (by simp)
    refine (wu16_calls a _ 65536 g4 (by omega)).mono ?_
    rintro e w4 ⟨rfl, ht⟩
    have S4 : Hid (Since w [st objW a ⟨l, l.length + 100, [], 1⟩, rd 76 r (RS.new l)] w4) := Lib.hid (by
      have h := k4 _ _ ht
      have e := first_state l HSM.out
      rw [HBL.out] at h
      rw [e] at h
      exact h)
    clear ht g4 k4
    go_wp2_with fail
    obtain ⟨F5, g5, _, k5⟩ := Since.pick S4.out 1 (by simp)
    refine (Rd.block_calls r _ (-1) g5).mono ?_
    rintro e w5 ⟨vb, rfl, ht⟩
    have S5 : Hid (Since w [st objW a ⟨l, l.length + 100, [], 1⟩, rd 76 r ⟨l, 0, 1⟩] w5) := Lib.hid (k5 _ _ (Turn.first ht))
    clear ht g5 k5 S1 S2 S3 S4
    go_wp2_with fail
    obtain ⟨sw, hsw⟩ : ∃ s : WS, s = ⟨l, l.length + 100, [], 1⟩ := ⟨_, rfl⟩
    obtain ⟨sr, hsr⟩ : ∃ s : RS, s = ⟨l, 0, 1⟩ := ⟨_, rfl⟩
    rw [← hsw, ← hsr] at S5
    have HSW := Lib.hid (show ¬ sw.err = 0 by rw [hsw]; show ¬ (1 : Int) = 0; decide)
    have HSR := Lib.hid (show ¬ sr.err = 0 by rw [hsr]; show ¬ (1 : Int) = 0; decide)
    have ESW := Lib.hid hsw
    have ESR := Lib.hid hsr
    clear hsw hsr
    go_loopw [7, 8] (fun v7 v8 wr => ∃ k : Nat, v7 = .int .i64 k ∧ k ≤ len ∧ Since w [st objW a sw, rd 76 r sr] wr) (fun v _ _ => len - (intOf v).toNat)
    case atStart => exact ⟨0, rfl, Nat.zero_le _, S5.out⟩
    case round =>
      obtain ⟨k, rfl, hk, hs⟩ := hrel
      have HS := Lib.hid hs
      clear hs
      by_cases hlt : k < len
      · obtain ⟨xb, xo, rfl, o, _, d0, d1, d2, d3, hok, hrng⟩ := H.out.cells HS.out.below k hlt
        have hkm : k ≤ 140737488351232 := Nat.le_trans hk HM.out
        obtain ⟨otwo, okind, on, oA, oc, ol⟩ := o
        dsimp only [Sl.val] at d0 d1 d2 d3 hok hrng
        have HOK := Lib.hid hok
        have HRNG := Lib.hid hrng
        have HLT := Lib.hid (show k < len from hlt)
        have HB := Lib.hid (HS.out.boxed (.cells #[.bool otwo, .int .i64 okind, .int .i64 on, .slice oA (bl ol).length oc] 29))
        clear hok hrng
        go_wp2_with fail
        obtain ⟨F6, g6, hu6, k6⟩ := Since.pick HB.out 0 (by simp)
        refine (lay_calls a sw otwo okind on oA oc ol g6 HRNG.out (Kd.C_below HOK.out.read HB.out.below) HOK.out.cap HOK.out.len (Sl.apart HOK.out hu6 HB.out.below)).mono ?_
        rintro e w6 ⟨rfl, ht⟩
        rw [lay_err HSW.out] at ht
        have S6 : Hid (Since w [st objW a sw, rd 76 r sr, box wr.heap.size (.cells #[.bool otwo, .int .i64 okind, .int .i64 on, .slice oA (bl ol).length oc] 29)] w6) := Lib.hid (k6 _ _ ht)
        have hbx := Since.heap S6.out 2 (by simp) rfl
        have e1 : w6.cell? ⟨wr.heap.size, 1, none⟩ = some (.int .i64 okind) := cell_of hbx rfl
        have e2 : w6.cell? ⟨wr.heap.size, 2, none⟩ = some (.int .i64 on) := cell_of hbx rfl
        clear g6 hu6 k6 ht hbx HB
        by_cases h7 : okind = 7
        · subst h7
          go_wp2_with fail
          obtain ⟨F7, g7, _, k7⟩ := Since.pick S6.out 0 (by simp)
          refine (seal_calls a sw g7).mono ?_
          rintro e w7 ⟨rfl, ht⟩
          rw [seal_err HSW.out] at ht
          have S7 : Hid (Since w [st objW a sw, rd 76 r sr, box wr.heap.size (.cells #[.bool otwo, .int .i64 7, .int .i64 on, .slice oA (bl ol).length oc] 29)] w7) := Lib.hid (k7 _ _ ht)
          clear ht g7 k7
          go_wp2_with fail
          obtain ⟨G8, g8, _, k8⟩ := Since.pick S7.out 1 (by simp)
          refine (Rd.u8_calls r sr g8).mono ?_
          rintro e w8 ⟨he, ht⟩
          have he2 : e = .returned (.int .i64 0) := by rw [he, takeV_err HSR.out, wz]
          subst he2
          clear he
          rw [take_err HSR.out] at ht
          have S8 : Hid (Since w [st objW a sw, rd 76 r sr, box wr.heap.size (.cells #[.bool otwo, .int .i64 7, .int .i64 on, .slice oA (bl ol).length oc] 29)] w8) := Lib.hid (k8 _ _ ht)
          clear ht g8 k8
          go_wp2_with fail
          obtain ⟨G9, g9, _, k9⟩ := Since.pick S8.out 1 (by simp)
          refine (Rd.u16_calls r sr g9).mono ?_
          rintro e w9 ⟨he, ht⟩
          have he2 : e = .returned (.int .i64 0) := by rw [he, takeV_err HSR.out, wz]
          subst he2
          clear he
          rw [take_err HSR.out] at ht
          have S9 : Hid (Since w [st objW a sw, rd 76 r sr, box wr.heap.size (.cells #[.bool otwo, .int .i64 7, .int .i64 on, .slice oA (bl ol).length oc] 29)] w9) := Lib.hid (k9 _ _ ht)
          clear ht g9 k9
          go_wp2_with fail
          obtain ⟨G10, g10, _, k10⟩ := Since.pick S9.out 1 (by simp)
          refine (Rd.u32_calls r sr g10).mono ?_
          rintro e w10 ⟨he, ht⟩
          have he2 : e = .returned (.int .u32 0) := by rw [he, takeV_err HSR.out]; rfl
          subst he2
          clear he
          rw [take_err HSR.out] at ht
          have S10 : Hid (Since w [st objW a sw, rd 76 r sr, box wr.heap.size (.cells #[.bool otwo, .int .i64 7, .int .i64 on, .slice oA (bl ol).length oc] 29)] w10) := Lib.hid (k10 _ _ ht)
          clear ht g10 k10
          go_wp2_with fail
          obtain ⟨G11, g11, _, k11⟩ := Since.pick S10.out 1 (by simp)
          refine (Rd.u64_calls r sr g11).mono ?_
          rintro e w11 ⟨he, ht⟩
          have he2 : e = .returned (.int .i64 0) := by rw [he, takeV_err HSR.out, wz]
          subst he2
          clear he
          rw [take_err HSR.out] at ht
          have S11 : Hid (Since w [st objW a sw, rd 76 r sr, box wr.heap.size (.cells #[.bool otwo, .int .i64 7, .int .i64 on, .slice oA (bl ol).length oc] 29)] w11) := Lib.hid (k11 _ _ ht)
          clear ht g11 k11
          have hbx := Since.heap S11.out 2 (by simp) rfl
          have e2 : w11.cell? ⟨wr.heap.size, 2, none⟩ = some (.int .i64 on) := cell_of hbx rfl
          clear hbx
          go_wp2_with fail
          obtain ⟨G12, g12, _, k12⟩ := Since.pick S11.out 1 (by simp)
          refine (Rd.block_calls r sr on g12).mono ?_
          rintro e w12 ⟨v12, rfl, ht⟩
          rw [take_err HSR.out, blockL_err HSR.out] at ht
          have S12 : Hid (Since w [st objW a sw, rd 76 r sr, box wr.heap.size (.cells #[.bool otwo, .int .i64 7, .int .i64 on, .slice oA (bl ol).length oc] 29)] w12) := Lib.hid (k12 _ _ (Turn.first ht))
          obtain ⟨Q12, q12⟩ := on_second ht.2
          obtain ⟨A12, c12, e12, _, _, _⟩ := row_C q12
          have e13 : v12 = .slice A12 0 c12 := e12
          subst e13
          have hbx := Since.heap S12.out 2 (by simp) rfl
          have e2 : w12.cell? ⟨wr.heap.size, 2, none⟩ = some (.int .i64 on) := cell_of hbx rfl
          clear ht g12 k12 q12 e12 hbx
          go_wp2_with fail
          obtain ⟨G13, g13, _, k13⟩ := Since.pick S12.out 1 (by simp)
          refine (Rd.sealed_calls r sr on g13).mono ?_
          rintro e w13 ⟨v13, rfl, ht⟩
          rw [sealedS_err HSR.out, sealedL_err HSR.out] at ht
          have S13 : Hid (Since w ([st objW a sw, rd 76 r sr] ++ [box wr.heap.size (.cells #[.bool otwo, .int .i64 7, .int .i64 on, .slice oA (bl ol).length oc] 29)]) w13) := Lib.hid (k13 _ _ (Turn.first ht))
          obtain ⟨Q13, q13⟩ := on_second ht.2
          obtain ⟨A13, c13, e13, _, _, _⟩ := row_C q13
          have e14 : v13 = .slice A13 0 c13 := e13
          subst e14
          clear ht g13 k13 q13 e13
          go_wp2_with fail
          have hlt := HLT.out
          exact ⟨⟨k + 1, by simp, by omega, S13.out.drop⟩, by simp [intOf]; omega⟩
        · have t7 : (okind == 7) = false := by simpa using h7
          clear h7
          go_wp2_with fail
          have S7 : Hid (Since w [st objW a sw, rd 76 r sr, box wr.heap.size (.cells #[.bool otwo, .int .i64 okind, .int .i64 on, .slice oA (bl ol).length oc] 29)] w6) := S6
          obtain ⟨G8, g8, _, k8⟩ := Since.pick S7.out 1 (by simp)
          refine (Rd.u8_calls r sr g8).mono ?_
          rintro e w8 ⟨he, ht⟩
          have he2 : e = .returned (.int .i64 0) := by rw [he, takeV_err HSR.out, wz]
          subst he2
          clear he
          rw [take_err HSR.out] at ht
          have S8 : Hid (Since w [st objW a sw, rd 76 r sr, box wr.heap.size (.cells #[.bool otwo, .int .i64 okind, .int .i64 on, .slice oA (bl ol).length oc] 29)] w8) := Lib.hid (k8 _ _ ht)
          clear ht g8 k8
          go_wp2_with fail
          obtain ⟨G9, g9, _, k9⟩ := Since.pick S8.out 1 (by simp)
          refine (Rd.u16_calls r sr g9).mono ?_
          rintro e w9 ⟨he, ht⟩
          have he2 : e = .returned (.int .i64 0) := by rw [he, takeV_err HSR.out, wz]
          subst he2
          clear he
          rw [take_err HSR.out] at ht
          have S9 : Hid (Since w [st objW a sw, rd 76 r sr, box wr.heap.size (.cells #[.bool otwo, .int .i64 okind, .int .i64 on, .slice oA (bl ol).length oc] 29)] w9) := Lib.hid (k9 _ _ ht)
          clear ht g9 k9
          go_wp2_with fail
          obtain ⟨G10, g10, _, k10⟩ := Since.pick S9.out 1 (by simp)
          refine (Rd.u32_calls r sr g10).mono ?_
          rintro e w10 ⟨he, ht⟩
          have he2 : e = .returned (.int .u32 0) := by rw [he, takeV_err HSR.out]; rfl
          subst he2
          clear he
          rw [take_err HSR.out] at ht
          have S10 : Hid (Since w [st objW a sw, rd 76 r sr, box wr.heap.size (.cells #[.bool otwo, .int .i64 okind, .int .i64 on, .slice oA (bl ol).length oc] 29)] w10) := Lib.hid (k10 _ _ ht)
          clear ht g10 k10
          go_wp2_with fail
          obtain ⟨G11, g11, _, k11⟩ := Since.pick S10.out 1 (by simp)
          refine (Rd.u64_calls r sr g11).mono ?_
          rintro e w11 ⟨he, ht⟩
          have he2 : e = .returned (.int .i64 0) := by rw [he, takeV_err HSR.out, wz]
          subst he2
          clear he
          rw [take_err HSR.out] at ht
          have S11 : Hid (Since w [st objW a sw, rd 76 r sr, box wr.heap.size (.cells #[.bool otwo, .int .i64 okind, .int .i64 on, .slice oA (bl ol).length oc] 29)] w11) := Lib.hid (k11 _ _ ht)
          clear ht g11 k11
          have hbx := Since.heap S11.out 2 (by simp) rfl
          have e2 : w11.cell? ⟨wr.heap.size, 2, none⟩ = some (.int .i64 on) := cell_of hbx rfl
          clear hbx
          go_wp2_with fail
          obtain ⟨G12, g12, _, k12⟩ := Since.pick S11.out 1 (by simp)
          refine (Rd.block_calls r sr on g12).mono ?_
          rintro e w12 ⟨v12, rfl, ht⟩
          rw [take_err HSR.out, blockL_err HSR.out] at ht
          have S12 : Hid (Since w [st objW a sw, rd 76 r sr, box wr.heap.size (.cells #[.bool otwo, .int .i64 okind, .int .i64 on, .slice oA (bl ol).length oc] 29)] w12) := Lib.hid (k12 _ _ (Turn.first ht))
          obtain ⟨Q12, q12⟩ := on_second ht.2
          obtain ⟨A12, c12, e12, _, _, _⟩ := row_C q12
          have e13 : v12 = .slice A12 0 c12 := e12
          subst e13
          have hbx := Since.heap S12.out 2 (by simp) rfl
          have e2 : w12.cell? ⟨wr.heap.size, 2, none⟩ = some (.int .i64 on) := cell_of hbx rfl
          clear ht g12 k12 q12 e12 hbx
          go_wp2_with fail
          obtain ⟨G13, g13, _, k13⟩ := Since.pick S12.out 1 (by simp)
          refine (Rd.sealed_calls r sr on g13).mono ?_
          rintro e w13 ⟨v13, rfl, ht⟩
          rw [sealedS_err HSR.out, sealedL_err HSR.out] at ht
          have S13 : Hid (Since w ([st objW a sw, rd 76 r sr] ++ [box wr.heap.size (.cells #[.bool otwo, .int .i64 okind, .int .i64 on, .slice oA (bl ol).length oc] 29)]) w13) := Lib.hid (k13 _ _ (Turn.first ht))
          obtain ⟨Q13, q13⟩ := on_second ht.2
          obtain ⟨A13, c13, e13, _, _, _⟩ := row_C q13
          have e14 : v13 = .slice A13 0 c13 := e13
          subst e14
          clear ht g13 k13 q13 e13
          go_wp2_with fail
          have hlt := HLT.out
          exact ⟨⟨k + 1, by simp, by omega, S13.out.drop⟩, by simp [intOf]; omega⟩
      · clear hk
        go_wp2_with fail
        obtain ⟨G6, g6, _, _⟩ := Since.pick HS.out 0 (by simp)
        refine (out_calls a sw g6).mono ?_
        rintro e w6 ⟨v6, rfl, hnew⟩
        have et : sw.told = ([], 1) := by rw [ESW.out]; rfl
        rw [et] at hnew
        rw [et]
        have S6 : Hid (Since w [st objW a sw, rd 76 r sr] w6) := Lib.hid (HS.out.after hnew.2.2)
        obtain ⟨A6, c6, e6, _, _, _⟩ := row_C (new_row hnew)
        have e7 : v6 = .slice A6 0 c6 := e6
        subst e7
        clear hnew g6 et e6
        go_wp2_with fail
        obtain ⟨G7, g7, _, _⟩ := Since.pick S6.out 0 (by simp)
        refine (werr_calls a sw g7).mono ?_
        rintro e w7 ⟨rfl, rfl⟩
        have t1 : sw.err = 1 := by rw [ESW.out]
        rw [t1]
        clear g7 t1
        go_wp2_with fail
        obtain ⟨G8, g8, _, _⟩ := Since.pick S6.out 0 (by simp)
        refine (wlen_calls a sw g8).mono ?_
        rintro e w8 ⟨rfl, rfl⟩
        have t2 : ((sw.out.length : Nat) : Int) = ((bl l).length : Int) := by rw [ESW.out, HBL.out]
        rw [t2]
        clear g8 t2
        go_wp2_with fail
        obtain ⟨G9, g9, _, _⟩ := Since.pick S6.out 1 (by simp)
        refine (Rd.rerr_calls r sr g9).mono ?_
        rintro e w9 ⟨rfl, rfl⟩
        have t3 : sr.err = 1 := by rw [ESR.out]
        rw [t3]
        clear g9 t3
        go_wp2_with fail
        obtain ⟨G10, g10, _, _⟩ := Since.pick S6.out 1 (by simp)
        refine (Rd.end_calls r sr g10).mono ?_
        rintro e w10 ⟨rfl, hd⟩
        have t4 : sr.endE = 1 := by rw [ESR.out]; rfl
        rw [t4]
        have S10 : Hid (Since w [st objW a sw, rd 76 r sr] w10) := Lib.hid (S6.out.drawn hd)
        clear g10 t4 hd
        go_wp2_with fail
        obtain ⟨G11, g11, _, _⟩ := Since.pick S10.out 1 (by simp)
        refine (Rd.left_calls r sr g11).mono ?_
        rintro e w11 ⟨rfl, hd⟩
        have t5 : ((sr.left : Nat) : Int) = ((bl l).length : Int) := by rw [ESR.out, HBL.out]; rfl
        rw [t5]
        have S11 : Hid (Since w [st objW a sw, rd 76 r sr] w11) := Lib.hid (S10.out.drawn hd)
        clear g11 t5 hd
        go_wp2_with fail
        go_ret
        exact ⟨by simp, S11.out.below⟩
end Go.Proofs.Ytdmliaodacaefaa.Fe
