/- WireGivesBack walked. -/
import Derived.Test.YtdmliaodacaefaaMeets
namespace Go.Proofs.Ytdmliaodacaefaa.Gb
open Go.RowKit Go.Proofs.YtdmliaodacaefaaW.PrintWords Go.Proofs.YtdmliaodacaefaaW.PrintLast Go.Proofs.YtdmliaodacaefaaW.PrintMore Go.Proofs.Ytdmliaodacaefaa.Mem Go.Proofs.Ytdmliaodacaefaa.Sep Go.Proofs.Ytdmliaodacaefaa.Bridge Go.Proofs.Ytdmliaodacaefaa.Wr Go.Proofs.Ytdmliaodacaefaa.Ops Go.Proofs.Ytdmliaodacaefaa.Rd
set_option linter.unusedVariables false
set_option linter.unusedSimpArgs false
theorem part_le (kind n : Int) (l : List UInt8) : (part kind n l).length ≤ l.length + 8 := by
  unfold part
  split
  · rw [little_length]; omega
  split
  · rw [little_length]; omega
  split
  · rw [little_length]; omega
  split
  · rw [little_length]; omega
  split
  · omega
  split
  · rw [Bu.mark_length]; omega
  · simp
theorem clip_n (n : Nat) (h : n ≤ 1048576) : clip (n : Int) = n := by unfold clip; split <;> (try split) <;> omega
theorem since_one {w w1 : World} {l : List Asr} (h : Since w l w1) (i : Nat) (hi : i < l.length) : Since w [l[i]] w1 := by
  obtain ⟨F, h1, h2⟩ := Since.at_ h i hi
  exact ⟨Turn.alone (l[i].up h1 h2), h.below⟩
set_option maxRecDepth 100000 in
set_option maxHeartbeats 8000000 in
theorem walk (A : Option Addr) (len cap : Nat) (ops : List OpR) (w : World) (h : Script w A len ops) :
    Calls Try.prog 6 #[.slice A len cap] w fun e w' => e = .returned (.bool true) ∧ Below w.heap.size w w' := by
  have H := Lib.hid h
  have HM := Lib.hid h.max
  have HZ := Lib.hid h.size
  clear h
  go_enter Try.func6, Try.ntmps6
  go_wp2_with fail
  go_loopw [3, 4] (fun v3 v4 wr => ∃ k : Nat, v4 = .int .i64 k ∧ v3 = .int .i64 ((cat ops k).length : Nat) ∧ k ≤ len ∧ (cat ops k).length ≤ 1048576 ∧ Since w [] wr) (fun _ v _ => len - (intOf v).toNat)
  case atStart => exact ⟨0, rfl, rfl, Nat.zero_le _, by rw [cat_zero]; simp, Since.start w⟩
  case round =>
    obtain ⟨k, rfl, rfl, hk, hcap, hs⟩ := hrel
    have HS := Lib.hid hs
    clear hs
    have hkm : k ≤ 140737488351232 := Nat.le_trans hk HM.out
    by_cases hlt : k < len
    · obtain ⟨xb, xo, rfl, o, hq, d0, d1, d2, d3, hok, hrng⟩ := H.out.cells HS.out.below k hlt
      obtain ⟨otwo, okind, on, oA, oc, ol⟩ := o
      dsimp only [Sl.val] at d0 d1 d2 d3 hok hrng
      have HOK := Lib.hid hok
      have HQ := Lib.hid (cat_succ ops k _ hq)
      have HLT := Lib.hid hlt
      clear hok hrng hq
      go_wp2_with fail
      refine (PWire.amberlaw02_width.calls otwo okind on oA oc (bl ol) _ _ (Kd.C_below HOK.out.read HS.out.below) HOK.out.cap (width_part otwo okind on ol HOK.out.len)).mono ?_
      rintro e w1 ⟨rfl, hb⟩
      have S1 := Lib.hid (HS.out.after hb)
      clear hb
      have HCN : Hid ((cat ops (k + 1)).length = (cat ops k).length + (part okind on ol).length) := Lib.hid (by have := HQ.out; rw [this, List.length_append]; rfl)
      have hpl : (part okind on ol).length ≤ 140737488351240 := by have h1 := part_le okind on ol; have h2 : ol.length ≤ 140737488351232 := HOK.out.len; omega
      by_cases hbig : (1048576 : Int) < ((cat ops k).length : Int) + ((part okind on ol).length : Int)
      · go_wp2_with fail
        go_ret
        exact ⟨rfl, S1.out.below⟩
      · go_wp2_with fail
        have hlt := HLT.out
        have hcn := HCN.out
        exact ⟨⟨k + 1, by simp, by rw [hcn]; simp, by omega, by omega, S1.out⟩, by simp [intOf]; omega⟩
    · have hkl : k = len := by omega
      subst hkl
      have HCAP := Lib.hid hcap
      obtain ⟨N, hN⟩ : ∃ N, N = (cat ops k).length := ⟨_, rfl⟩
      rw [← hN] at hcap HCAP
      rw [← hN]
      have HN := Lib.hid hN
      clear hN hk
      go_wp2_with fail
      refine (neww_calls _ _).mono ?_
      rintro e w1 ⟨rfl, h1, hb1⟩
      rw [clip_n N HCAP.out] at h1
      obtain ⟨a, ha⟩ : ∃ a, a = wr.heap.size := ⟨_, rfl⟩
      rw [← ha] at h1
      rw [← ha]
      have S1 : Hid (Since w [st objW a ⟨cat ops 0, N, [], 0⟩] w1) := Lib.hid (HS.out.add hb1 (by rw [ha] at h1 ⊢; exact h1))
      clear h1 hb1 ha HS
      go_wp2_with fail
      go_loopw [6] (fun v6 wr => ∃ j : Nat, v6 = .int .i64 j ∧ j ≤ k ∧ Since w [st objW a ⟨cat ops j, N, [], 0⟩] wr) (fun v _ => k - (intOf v).toNat)
      case atStart => exact ⟨0, rfl, Nat.zero_le _, S1.out⟩
      case round =>
        obtain ⟨j, rfl, hj, hs⟩ := hrel
        have HS := Lib.hid hs
        clear hs
        have hjm : j ≤ 140737488351232 := Nat.le_trans hj hkm
        by_cases hlt2 : j < k
        · obtain ⟨xb, xo, rfl, o, hq, d0, d1, d2, d3, hok, hrng⟩ := H.out.cells HS.out.below j hlt2
          obtain ⟨otwo, okind, on, oA, oc, ol⟩ := o
          dsimp only [Sl.val] at d0 d1 d2 d3 hok hrng
          have HOK := Lib.hid hok
          have HRNG := Lib.hid hrng
          have HQ := Lib.hid (cat_succ ops j _ hq)
          have HQM := Lib.hid (cat_mono ops j _ hq)
          have HLT := Lib.hid hlt2
          clear hok hrng hq
          go_wp2_with fail
          obtain ⟨F6, g6, hu6, k6⟩ := Since.pick HS.out 0 (by simp)
          refine (lay_calls a _ otwo okind on oA oc ol g6 HRNG.out (Kd.C_below HOK.out.read HS.out.below) HOK.out.cap HOK.out.len (Sl.apart HOK.out hu6 HS.out.below)).mono ?_
          rintro e w6 ⟨rfl, ht⟩
          rw [lay_part rfl rfl okind on ol (by
            have h1 := HQM.out
            have h2 := HN.out
            have h3 := HZ.out
            show (cat ops j).length + (part okind on ol).length ≤ N
            rw [h3, ← h2] at h1
            exact h1)] at ht
          have S6 : Hid (Since w [st objW a ⟨cat ops (j + 1), N, [], 0⟩] w6) := Lib.hid (by
            have h := k6 _ _ ht
            rw [HQ.out]
            exact h)
          clear ht g6 hu6 k6
          go_wp2_with fail
          have hlt2 := HLT.out
          exact ⟨⟨j + 1, by simp, by omega, S6.out⟩, by simp [intOf]; omega⟩
        · have hjk : j = k := by omega
          subst hjk
          clear hj
          go_wp2_with fail
          obtain ⟨G5, g5, _⟩ := Since.at_ HS.out 0 (by simp)
          refine (out_calls a _ g5).mono ?_
          rintro e w5 ⟨v5, rfl, hn⟩
          have e0 : (⟨cat ops j, N, [], 0⟩ : WS).told.2 = 0 := rfl
          rw [e0]
          have hn : New _ w5 v5 (bl (cat ops j)) := hn
          have S5 : Hid (Since w [st objW a ⟨cat ops j, N, [], 0⟩, row 5 .u8 v5 (bl (cat ops j))] w5) := Lib.hid (HS.out.add hn.2.2 (new_row hn))
          obtain ⟨A5, c5, e5, hc5, hC5, _⟩ := row_C (new_row hn)
          subst e5
          have HC5 := Lib.hid hC5
          have HC5c := Lib.hid hc5
          have hbn : ((bl (cat ops j)).length : Int) = (N : Int) := by rw [bl_length, ← HN.out]
          have HNL := Lib.hid (show (cat ops j).length ≤ 140737488351232 by rw [← HN.out]; omega)
          clear hn g5 e0 hC5 hc5
          go_wp2_with fail
          obtain ⟨G6, g6, _⟩ := Since.at_ S5.out 0 (by simp)
          refine (werr_calls a _ g6).mono ?_
          rintro e w6 ⟨rfl, rfl⟩
          have t6 : (⟨cat ops j, N, [], 0⟩ : WS).err = 0 := rfl
          rw [t6]
          clear g6 t6
          go_wp2_with fail
          obtain ⟨G7, g7, _⟩ := Since.at_ S5.out 0 (by simp)
          refine (wlen_calls a _ g7).mono ?_
          rintro e w7 ⟨rfl, rfl⟩
          have t7 : (((⟨cat ops j, N, [], 0⟩ : WS).out.length : Nat) : Int) = (N : Int) := by rw [HN.out]
          rw [t7]
          clear g7 t7
          go_wp2_with fail
          refine (newp_calls A5 c5 (cat ops j) _ HC5.out HC5c.out HNL.out).mono ?_
          rintro e w8 ⟨r, rfl, h8, hb8⟩
          have S8 : Hid (Since w [rd 76 r (RS.new (cat ops j))] w8) := Lib.hid (since_one (S5.out.add hb8 h8) 2 (by simp))
          clear h8 hb8 HC5 HC5c
          go_wp2_with fail
          go_loopw [10, 11] (fun v10 v11 wr => ∃ i : Nat, v10 = .int .i64 i ∧ i ≤ j ∧ Since w [rd 76 r ⟨cat ops j, (cat ops i).length, 0⟩] wr) (fun v _ _ => j - (intOf v).toNat)
          case atStart => exact ⟨0, rfl, Nat.zero_le _, S8.out⟩
          case round =>
            obtain ⟨i, rfl, hi, hs⟩ := hrel
            have HS := Lib.hid hs
            clear hs
            have him : i ≤ 140737488351232 := Nat.le_trans hi hkm
            by_cases hlt3 : i < j
            · obtain ⟨xb, xo, rfl, o, hq, d0, d1, d2, d3, hok, hrng⟩ := H.out.cells HS.out.below i hlt3
              obtain ⟨otwo, okind, on, oA, oc, ol⟩ := o
              dsimp only [Sl.val] at d0 d1 d2 d3 hok hrng
              have HOK := Lib.hid hok
              have HRNG := Lib.hid hrng
              have HQ := Lib.hid (cat_succ ops i _ hq)
              have HLT := Lib.hid hlt3
              have HQI := Lib.hid hq
              have HPC := Lib.hid (cat_le ops (i + 1))
              clear hok hrng hq
              go_wp2_with fail
              obtain ⟨G9, g9, _⟩ := Since.at_ HS.out 0 (by simp)
              refine (Rd.end_calls r _ g9).mono ?_
              rintro e w9 ⟨rfl, hd⟩
              obtain ⟨post, hpost⟩ := HPC.out
              rw [HZ.out, HQ.out] at hpost
              replace hpost : cat ops j = cat ops i ++ part okind on ol ++ post := hpost
              have HPO := Lib.hid hpost
              have S9 := Lib.hid (HS.out.drawn hd)
              have hleft : (⟨cat ops j, (cat ops i).length, 0⟩ : RS).left = (part okind on ol).length + post.length := left_part (s := ⟨cat ops j, (cat ops i).length, 0⟩) rfl hpost rfl
              clear hpost
              obtain ⟨nd, rfl⟩ := hd
              by_cases hpos : 0 < (part okind on ol).length + post.length
              · rw [end_no (by rw [hleft]; exact hpos) rfl]
                clear hleft hpos g9
                go_wp2_with fail
                obtain ⟨F11, g11, hu11, k11⟩ := Since.pick S9.out 0 (by simp)
                refine (found_calls r _ otwo okind on oA oc ol (cat ops i) post g11 HRNG.out (Kd.C_below HOK.out.read S9.out.below) HOK.out.cap (fun h0 x hx => (Sl.apart HOK.out hu11 S9.out.below h0 x hx).1) rfl HPO.out rfl).mono ?_
                rintro e w11 ⟨rfl, ht⟩
                have S11 : Hid (Since w [rd 76 r ⟨cat ops j, (cat ops (i + 1)).length, 0⟩] w11) := Lib.hid (by
                  have h := k11 _ _ ht
                  rw [HQ.out, List.length_append]
                  exact h)
                clear ht g11 hu11 k11
                go_wp2_with fail
                have hlt3 := HLT.out
                exact ⟨⟨i + 1, by simp, by omega, S11.out⟩, by simp [intOf]; omega⟩
              · have e0 : (⟨cat ops j, (cat ops i).length, 0⟩ : RS).endE = 0 := by unfold RS.endE; rw [if_neg (by rw [hleft]; omega)]
                rw [e0]
                have hz : (((part okind on ol).length : Nat) : Int) = 0 := by omega
                have HW := Lib.hid (width_part otwo okind on ol HOK.out.len)
                rw [hz] at HW
                clear hleft hpos g9 e0 hz
                go_wp2_with fail
                refine (PWire.amberlaw02_width.calls otwo okind on oA oc (bl ol) _ _ (Kd.C_below HOK.out.read S9.out.below) HOK.out.cap HW.out).mono ?_
                rintro e w10 ⟨rfl, hb⟩
                obtain ⟨xb', xo', eX, o', hq', d0', d1', d2', d3', _, _⟩ := H.out.cells (S9.out.after hb).below i HLT.out
                have eo := Option.some.inj (HQI.out.symm.trans hq')
                subst eo
                have eX2 := Option.some.inj eX
                injection eX2 with q1 q2 _
                subst q1 q2
                dsimp only [Sl.val] at d0' d1' d2' d3'
                have S10 := Lib.hid (S9.out.after hb)
                clear hb hq' eX S9 d0 d1 d2 d3
                go_wp2_with fail
                obtain ⟨F11, g11, hu11, k11⟩ := Since.pick S10.out 0 (by simp)
                refine (found_calls r _ otwo okind on oA oc ol (cat ops i) post g11 HRNG.out (Kd.C_below HOK.out.read S10.out.below) HOK.out.cap (fun h0 x hx => (Sl.apart HOK.out hu11 S10.out.below h0 x hx).1) rfl HPO.out rfl).mono ?_
                rintro e w11 ⟨rfl, ht⟩
                have S11 : Hid (Since w [rd 76 r ⟨cat ops j, (cat ops (i + 1)).length, 0⟩] w11) := Lib.hid (by
                  have h := k11 _ _ ht
                  rw [HQ.out, List.length_append]
                  exact h)
                clear ht g11 hu11 k11
                go_wp2_with fail
                have hlt3 := HLT.out
                exact ⟨⟨i + 1, by simp, by omega, S11.out⟩, by simp [intOf]; omega⟩
            · have hij : i = j := by omega
              subst hij
              clear hi
              go_wp2_with fail
              have hb0 : (⟨cat ops i, (cat ops i).length, 0⟩ : RS).takeS 0 = ⟨cat ops i, (cat ops i).length, 0⟩ := by
                unfold RS.takeS RS.hasB RS.left RS.go; simp
              obtain ⟨F12, g12, _, k12⟩ := Since.pick HS.out 0 (by simp)
              refine (Rd.block_calls r _ 0 g12).mono ?_
              rintro e w12 ⟨v12, rfl, ht⟩
              rw [hb0] at ht
              have S12 : Hid (Since w [rd 76 r ⟨cat ops i, (cat ops i).length, 0⟩] w12) := Lib.hid (k12 _ _ (Turn.first ht))
              clear ht g12 k12 hb0
              go_wp2_with fail
              obtain ⟨G13, g13, _⟩ := Since.at_ S12.out 0 (by simp)
              refine (Rd.rerr_calls r _ g13).mono ?_
              rintro e w13 ⟨rfl, rfl⟩
              have t13 : (⟨cat ops i, (cat ops i).length, 0⟩ : RS).err = 0 := rfl
              rw [t13]
              clear t13
              go_wp2_with fail
              have t14 : (⟨cat ops i, (cat ops i).length, 0⟩ : RS).left = 0 := by unfold RS.left; simp
              refine (Rd.left_calls r _ g13).mono ?_
              rintro e w14 ⟨rfl, hd⟩
              rw [t14]
              have S14 := Lib.hid (S12.out.drawn hd)
              clear hd g13
              go_wp2_with fail
              obtain ⟨G15, g15, _⟩ := Since.at_ S14.out 0 (by simp)
              refine (Rd.end_calls r _ g15).mono ?_
              rintro e w15 ⟨rfl, hd⟩
              have t15 : (⟨cat ops i, (cat ops i).length, 0⟩ : RS).endE = 0 := by unfold RS.endE; rw [if_neg (by rw [t14]; omega)]
              rw [t15]
              have S15 := Lib.hid (S14.out.drawn hd)
              clear hd g15 t14 t15
              go_wp2_with fail
              go_ret
              exact ⟨by simp, S15.out.below⟩
end Go.Proofs.Ytdmliaodacaefaa.Gb
