/- The reference's reader: Sealed. By walks. -/
import Derived.Test.YtdmliaodacaefaaRdr
namespace Go.Proofs.Ytdmliaodacaefaa.Rd
open Go.RowKit Go.Proofs.YtdmliaodacaefaaW.PrintWords Go.Proofs.YtdmliaodacaefaaW.PrintLast Go.Proofs.YtdmliaodacaefaaW.PrintMore Go.Proofs.Ytdmliaodacaefaa.Mem Go.Proofs.Ytdmliaodacaefaa.Sep Go.Proofs.Ytdmliaodacaefaa.Bridge Go.Proofs.Ytdmliaodacaefaa.Wr
set_option linter.unusedVariables false
set_option linter.unusedSimpArgs false
set_option maxRecDepth 100000 in
set_option maxHeartbeats 4000000 in
theorem rsealed_calls {w : World} {F : Blks} (a : Nat) (s : RS) (n : Int) (h : (rd 78 a s).on w F) (hn2 : n ≤ 9223372036854775807) :
    Calls Try.prog 73 #[.pointer (some ⟨a, 0, none⟩), .int .i64 n] w fun e w' => Got 78 w w' F a (s.sealedS n) e (s.sealedL n) := by
  have H := Lib.hid h
  obtain ⟨v, hI, hF⟩ := h
  have hok := hI.ok
  obtain ⟨A, c, rfl, hcap, hCA⟩ := hI.inp.reads
  have c0 : w.cell? ⟨a, 0, none⟩ = some (.slice A (bl s.inp).length c) := cell_of hI.blk rfl
  have c1 : w.cell? ⟨a, 1, none⟩ = some (.int .i64 s.pos) := cell_of hI.blk rfl
  have c2 : w.cell? ⟨a, 2, none⟩ = some (.int .i64 s.err) := cell_of hI.blk rfl
  have f2 := frozen_of hI.blk 2
  have HI := Lib.hid hI
  have HF := Lib.hid hF
  have hbl := bl_length s.inp
  have hpl : s.pos ≤ (bl s.inp).length := by rw [hbl]; exact hok.pos
  have hll : (bl s.inp).length ≤ 140737488351232 := by rw [hbl]; exact hok.len
  have hdf : ((bl s.inp).length : Int) - (s.pos : Int) = (s.left : Int) := by unfold RS.left; have := hok.pos; rw [hbl]; omega
  have hleft : (s.left : Int) ≤ 140737488351232 := by have := hok.len; unfold RS.left; omega
  have hleft0 : (0 : Int) ≤ (s.left : Int) := by omega
  clear hI hF
  by_cases he : s.err = 0
  · have t0 : (s.err != 0) = false := by simp [he]
    by_cases hn : n < 0
    · have hb : s.hasB n = false := by unfold RS.hasB; simp; omega
      have E := Lib.hid (show s.sealedL n = [] ∧ s.sealedS n = s.fail 1 from ⟨by unfold RS.sealedL; rw [hb]; rfl, by unfold RS.sealedS RS.hasS; rw [hb, if_pos he, if_pos hn]; rfl⟩)
      clear he hCA hb hbl hdf
      go_enter Try.func73, Try.ntmps73
      go_wp2_with fail
      go_ret
      rw [E.out.1, E.out.2]
      exact ⟨_, rfl, Turn.with_nil (turn_err HI.out HF.out 1)⟩
    · by_cases hl : (s.left : Int) - n < 4
      · have E := Lib.hid (show s.sealedL n = [] ∧ s.sealedS n = s.fail 20 from by
          unfold RS.sealedL RS.sealedS
          cases hb : s.hasB n
          · unfold RS.hasB at hb
            simp only [decide_eq_false_iff_not] at hb
            unfold RS.hasS
            rw [if_neg (by simp), if_neg (by simp), if_pos he, if_neg hn, if_pos (by omega)]
            exact ⟨rfl, rfl⟩
          · rw [if_pos rfl, if_pos rfl, if_pos hl, if_pos hl]
            exact ⟨rfl, rfl⟩)
        obtain ⟨lf, hlf⟩ : ∃ lf : Int, lf = (s.left : Int) := ⟨_, rfl⟩
        have hdf2 : ((bl s.inp).length : Int) - (s.pos : Int) = lf := by omega
        rw [← hlf] at hl hleft hleft0
        have HD := Lib.hid hdf2
        clear he hCA hbl hdf hlf hdf2
        by_cases h4 : lf < 4
        · have h4' : ((bl s.inp).length : Int) - (s.pos : Int) < 4 := by have := HD.out; omega
          go_enter Try.func73, Try.ntmps73
          go_wp2_with fail
          go_quiet (fail)
          go_wp2_with fail
          go_ret
          rw [E.out.1, E.out.2]
          exact ⟨_, rfl, Turn.with_nil ((Turn.drewN H.out _).trans (turn_err (HI.out.drewN _) (fun b hb => .inl (HF.out b hb)) 20))⟩
        · have h4' : ¬ ((bl s.inp).length : Int) - (s.pos : Int) < 4 := by have := HD.out; omega
          have h5 : ((bl s.inp).length : Int) - (s.pos : Int) - 4 < n := by have := HD.out; omega
          go_enter Try.func73, Try.ntmps73
          go_wp2_with fail
          go_quiet (fail)
          go_wp2_with fail
          go_ret
          rw [E.out.1, E.out.2]
          exact ⟨_, rfl, Turn.with_nil ((Turn.drewN H.out _).trans (turn_err (HI.out.drewN _) (fun b hb => .inl (HF.out b hb)) 20))⟩
      · have hb : s.hasB n = true := by unfold RS.hasB; simp; omega
        obtain ⟨_, k, rfl, hpk, hkl, _⟩ := has_true hok hb
        have hpk4 : s.pos + k + 4 ≤ s.inp.length := by unfold RS.left at hl; omega
        have hE : s.sealedL k = (if worth ((s.go (s.pos + k)).next 4) = (CrcM.sum (s.next k)).toNat then s.next k else []) ∧ s.sealedS k = (if worth ((s.go (s.pos + k)).next 4) = (CrcM.sum (s.next k)).toNat then s.go (s.pos + k + 4) else s.fail 21) := by
          unfold RS.sealedL RS.sealedS
          rw [hb, if_pos rfl, if_pos rfl, if_neg hl, if_neg hl, Int.toNat_natCast]
          exact ⟨rfl, rfl⟩
        -- the body
        have hcut := fun wx => cut5m A (bl s.inp).length c s.pos (s.pos + k) ((s.pos : Int) + (k : Int)) (by omega) (by omega) (by rw [hbl]; exact hpk) hcap wx
        obtain ⟨A2, hA2⟩ : ∃ A2 : Option Addr, A2 = (if c = s.pos then A else A.map (·.add s.pos)) := ⟨_, rfl⟩
        have hC2 := mid_C hCA (show s.pos ≤ s.pos + k by omega) hpk hcap
        rw [next_mid s k hpk, ← hA2, show s.pos + k - s.pos = k by omega] at hC2
        rw [← hA2, show s.pos + k - s.pos = k by omega] at hcut
        have hnl : (bl (s.next k)).length = k := by rw [bl_length]; exact s.next_length k hkl hok.pos
        have hnk : (s.next k).length ≤ 140737488351232 := by have h1 := s.next_length k hkl hok.pos; have h2 := hok.len; omega
        have HCOP := Lib.hid (fun (n : Nat) => show Calls Try.prog 67 #[.slice A2 k (c - s.pos)] (w.drewN n) fun e w' => ∃ v, e = .returned v ∧ New (w.drewN n) w' v (bl (s.next k)) from by
          have h1 := copied_calls A2 (c - s.pos) (s.next k) (w.drewN n) (by rw [hnl]; exact C_only hC2 ((Only.refl w (fun _ => False)).drewN n) (fun _ _ _ h => h)) (by rw [hnl]; rw [hbl] at hcap; omega) hnk
          rw [hnl] at h1
          exact h1)
        -- the sum behind it
        have hcut4 := fun wx => cut5m A (bl s.inp).length c (s.pos + k) (s.pos + k + 4) ((s.pos : Int) + (k : Int) + 4) (by omega) (by omega) (by rw [hbl]; exact hpk4) hcap wx
        obtain ⟨A4, hA4⟩ : ∃ A4 : Option Addr, A4 = (if c = s.pos + k then A else A.map (·.add (s.pos + k))) := ⟨_, rfl⟩
        have hC4 := mid_C hCA (show s.pos + k ≤ s.pos + k + 4 by omega) hpk4 hcap
        have hn4 : (s.inp.take (s.pos + k + 4)).drop (s.pos + k) = (s.go (s.pos + k)).next 4 := next_mid (s.go (s.pos + k)) 4 hpk4
        rw [hn4, ← hA4, show s.pos + k + 4 - (s.pos + k) = 4 by omega] at hC4
        rw [← hA4, show s.pos + k + 4 - (s.pos + k) = 4 by omega, show (((s.pos + k : Nat) : Int)) = (s.pos : Int) + (k : Int) by omega] at hcut4
        have hn4l : ((s.go (s.pos + k)).next 4).length = 4 := (s.go (s.pos + k)).next_length 4 (by unfold RS.left RS.go; simp; omega) (by show s.pos + k ≤ s.inp.length; omega)
        have hn4b : (bl ((s.go (s.pos + k)).next 4)).length = 4 := by rw [bl_length]; exact hn4l
        have hsumlt := (CrcM.sum (s.next k)).isLt
        obtain ⟨y, hy⟩ : ∃ y : Nat, y = (CrcM.sum (s.next k)).toNat := ⟨_, rfl⟩
        obtain ⟨z, hz⟩ : ∃ z : Nat, z = worth ((s.go (s.pos + k)).next 4) := ⟨_, rfl⟩
        rw [← hy] at hsumlt
        have HWOR := Lib.hid (fun (wx : World) (hk : Kd.C (Kd.int .u8) wx A4 4 (bl ((s.go (s.pos + k)).next 4))) => show Calls Try.prog 88 #[.slice A4 4 (c - (s.pos + k))] wx fun e w' => e = .returned (.int .u64 (z : Int)) ∧ Drawn0 wx w' from by
          have h1 := worth_calls A4 (c - (s.pos + k)) ((s.go (s.pos + k)).next 4) wx (by rw [hn4b]; exact hk) (by rw [hn4b]; rw [hbl] at hcap; omega) (by rw [hn4l]; omega)
          rw [hn4b, ← hz] at h1
          exact h1)
        have HSUM := Lib.hid (fun (wx : World) (A5 : Option Addr) (c5 : Nat) (hC5 : Kd.C (Kd.int .u8) wx A5 (bl (s.next k)).length (bl (s.next k))) (hc5 : (bl (s.next k)).length ≤ c5) => show Calls Try.prog 89 #[.slice A5 (bl (s.next k)).length c5] wx fun e w' => e = .returned (.int .u32 (y : Int)) ∧ Drawn0 wx w' from by
          have h1 := rsum_calls A5 c5 (s.next k) wx hC5 hc5 (by unfold maxLen; omega)
          unfold ui at h1
          rw [← hy] at h1
          exact h1)
        have HC4 := Lib.hid hC4
        have hpb : s.pos ≤ 140737488351232 := Nat.le_trans hok.pos hok.len
        have hkb : k ≤ 140737488351232 := by have h2 := hok.len; omega
        have HP := Lib.hid hpk4
        have HOK := Lib.hid hok
        rw [← hy, ← hz] at hE
        have HEE := Lib.hid hE
        clear hE
        have q1 : IntKind.i64.wrap ((s.pos : Int) + (k : Int)) = (s.pos : Int) + (k : Int) := IntWalk.i64_in _ (by omega)
        have q2 : IntKind.i64.wrap ((s.pos : Int) + (k : Int) + 4) = (s.pos : Int) + (k : Int) + 4 := IntWalk.i64_in _ (by omega)
        have Q1 := Lib.hid q1
        have Q2 := Lib.hid q2
        have h4' : ¬ ((bl s.inp).length : Int) - (s.pos : Int) < 4 := by omega
        have h5 : ¬ ((bl s.inp).length : Int) - (s.pos : Int) - 4 < (k : Int) := by omega
        have HYE := Lib.hid hy
        have HD := Lib.hid hdf
        clear he hCA hb hbl hdf hC2 hA2 hnl hcap hpk hkl hok hA4 hC4 hn4 hn4l hn4b hy hz hpk4 hl hsumlt hnk q1 q2
        clear hn2
        go_enter Try.func73, Try.ntmps73
        go_wp2_with fail
        go_quiet (fail)
        clear hn
        go_wp2_with fail
        have q1 := Q1.out
        go_region_with (go_at_call 67; refine (HCOP.out _).mono ?_; rintro e w2 ⟨v1, rfl, hnew⟩; have HNEW := Lib.hid hnew; clear hnew)
        all_goals
          clear q1
          have T2 : Hid (Turn w w2 F (all [rd 78 a s, row 5 .u8 v1 (bl (s.next k))])) := Lib.hid (Turn.add (Turn.one (Turn.drewN H.out _)) HNEW.out.2.2 (new_row HNEW.out))
          obtain ⟨F2, h2, _⟩ := All.at_ (show All _ w2 _ from T2.out.2) 1 (by simp)
          obtain ⟨A5, c5, rfl, hc5, hC5, _⟩ := row_C (show (row 5 .u8 v1 (bl (s.next k))).on w2 F2 from h2)
          have HS5 := Lib.hid (HSUM.out w2 A5 c5 hC5 hc5)
          clear h2 hC5
          go_wp2_with fail
          refine HS5.out.mono ?_
          rintro e w3 ⟨rfl, hd⟩
          have T3 : Hid (Turn w w3 F (all [rd 78 a s, row 5 .u8 (.slice A5 (bl (s.next k)).length c5) (bl (s.next k))])) := Lib.hid (T2.out.then_drawn hd)
          have HD3 := Lib.hid hd
          clear hd HS5
          have HBW : Hid (Only w w3 (fun _ => False)) := Lib.hid ((Only.of_below HNEW.out.2.2 (fun _ => False)).trans (S2 := fun _ => False) (by obtain ⟨k, rfl⟩ := HD3.out; exact (Only.refl _ _).drewN k) (fun _ h => h.elim) |> fun h => ((Only.refl w (fun _ => False)).drewN _).trans (S2 := fun _ => False) h (fun _ h => h.elim))
          have HI3 := Lib.hid (HI.out.keep (fun b _ hl => HBW.out.block b hl (fun h => h)))
          have HWO := Lib.hid (fun n => HWOR.out (w3.drewN n) (C_only HC4.out (HBW.out.drewN n) (fun _ _ _ h => h)))
          have d0 : w3.cell? ⟨a, 0, none⟩ = some (.slice A (bl s.inp).length c) := cell_of HI3.out.blk rfl
          have d1 : w3.cell? ⟨a, 1, none⟩ = some (.int .i64 s.pos) := cell_of HI3.out.blk rfl
          have d2 : w3.cell? ⟨a, 2, none⟩ = some (.int .i64 s.err) := cell_of HI3.out.blk rfl
          have f1 := frozen_of HI3.out.blk 1
          have f2 := frozen_of HI3.out.blk 2
          by_cases hzy : z = y
          · have hE := HEE.out
            rw [if_pos hzy, if_pos hzy] at hE
            have E := Lib.hid hE
            clear hE
            subst hzy
            have t7 : ((z : Int) != (z : Int)) = false := by simp
            go_wp2_with fail
            have q1 := Q1.out
            have q2 := Q2.out
            have q3 : IntKind.u64.wrap (z : Int) = (z : Int) := by have h1 := HYE.out; have h2 := (CrcM.sum (s.next k)).isLt; simp [IntKind.wrap, IntKind.signed, IntKind.bits]; omega
            go_quiet ((go_at_call 88; exact Calls.quiet_of ((HWO.out _).mono fun _ _ ⟨h1, h2⟩ => ⟨h1, h2.out⟩)))
            clear q1 q2 q3
            go_wp2_with fail
            go_ret
            rw [E.out.1, E.out.2]
            refine ⟨_, rfl, ?_⟩
            have T4 := T3.out.then_drawn (w2 := w3.drewN nq) ⟨⟨_, rfl⟩⟩
            obtain ⟨F1, h1, _, k1⟩ := Turn.pick T4 0 (by simp)
            obtain ⟨v2, hI2, hF2⟩ := h1
            have hc : (s.pos : Int) + (k : Int) + 4 = ((s.pos + k + 4 : Nat) : Int) := by omega
            rw [hc]
            exact k1 _ _ (turn_pos hI2 hF2 _ HP.out)
          · have t7 : ((z : Int) != (y : Int)) = true := by simp; omega
            have hE := HEE.out
            rw [if_neg hzy, if_neg hzy] at hE
            have E := Lib.hid hE
            clear hE hzy
            go_wp2_with fail
            have q1 := Q1.out
            have q2 := Q2.out
            have q3 : IntKind.u64.wrap (y : Int) = (y : Int) := by have h1 := HYE.out; have h2 := (CrcM.sum (s.next k)).isLt; simp [IntKind.wrap, IntKind.signed, IntKind.bits]; omega
            go_quiet ((go_at_call 88; exact Calls.quiet_of ((HWO.out _).mono fun _ _ ⟨h1, h2⟩ => ⟨h1, h2.out⟩)))
            clear q1 q2 q3
            go_wp2_with fail
            go_ret
            rw [E.out.1, E.out.2]
            refine ⟨_, rfl, ?_⟩
            have T4 := Turn.first (T3.out.then_drawn (w2 := w3.drewN nq) ⟨⟨_, rfl⟩⟩)
            obtain ⟨v2, hI2, hF2⟩ := T4.2
            exact Turn.with_nil (T4.trans (turn_err hI2 hF2 21))
  · have t0 : (s.err != 0) = true := by simpa using he
    have hb : s.hasB n = false := by unfold RS.hasB; simp [he]
    have E := Lib.hid (show s.sealedL n = [] ∧ s.sealedS n = s from ⟨by unfold RS.sealedL; rw [hb]; rfl, by unfold RS.sealedS RS.hasS; rw [hb, if_neg he]; rfl⟩)
    clear he hCA hb hbl hdf
    go_enter Try.func73, Try.ntmps73
    go_wp2_with fail
    go_ret
    rw [E.out.1, E.out.2]
    exact ⟨_, rfl, Turn.with_nil (Turn.same H.out)⟩
end Go.Proofs.Ytdmliaodacaefaa.Rd
