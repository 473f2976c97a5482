/- The reference's reader, call by call. By walks. -/
import Derived.Test.YtdmliaodacaefaaRdb
namespace Go.Proofs.Ytdmliaodacaefaa.Rd
open Go.RowKit Go.Proofs.YtdmliaodacaefaaW.PrintWords Go.Proofs.YtdmliaodacaefaaW.PrintLast Go.Proofs.YtdmliaodacaefaaW.PrintMore Go.Proofs.Ytdmliaodacaefaa.Mem Go.Proofs.Ytdmliaodacaefaa.Sep Go.Proofs.Ytdmliaodacaefaa.Bridge Go.Proofs.Ytdmliaodacaefaa.Wr
set_option linter.unusedVariables false
set_option linter.unusedSimpArgs false
theorem rleft_calls {w : World} {F : Blks} (a : Nat) (s : RS) (h : (rd 78 a s).on w F) :
    Calls Try.prog 74 #[.pointer (some ⟨a, 0, none⟩)] w fun e w' => e = .returned (.int .i64 (s.left : Nat)) ∧ Drawn0 w w' := by
  obtain ⟨v, hI, hF⟩ := h
  obtain ⟨A, c, rfl, _, _⟩ := hI.inp.reads
  have c0 : w.cell? ⟨a, 0, none⟩ = some (.slice A (bl s.inp).length c) := cell_of hI.blk rfl
  have c1 : w.cell? ⟨a, 1, none⟩ = some (.int .i64 s.pos) := cell_of hI.blk rfl
  have HE := Lib.hid (show (((bl s.inp).length : Int) - (s.pos : Int)) = ((s.left : Nat) : Int) by unfold RS.left; have := hI.ok.pos; rw [bl_length]; omega)
  have hp : s.pos ≤ (bl s.inp).length := by rw [bl_length]; exact hI.ok.pos
  have hl : (bl s.inp).length ≤ 140737488351232 := by rw [bl_length]; exact hI.ok.len
  clear hI hF
  go_enter Try.func74, Try.ntmps74
  go_wp2_with fail
  go_quiet (fail)
  go_wp2_with fail
  go_ret
  exact ⟨by rw [← HE.out]; rfl, ⟨⟨_, rfl⟩⟩⟩
theorem rrerr_calls {w : World} {F : Blks} (a : Nat) (s : RS) (h : (rd 78 a s).on w F) :
    Calls Try.prog 75 #[.pointer (some ⟨a, 0, none⟩)] w fun e w' => e = .returned (.int .i64 s.err) ∧ w = w' := by
  obtain ⟨v, hI, hF⟩ := h
  have c2 : w.cell? ⟨a, 2, none⟩ = some (.int .i64 s.err) := cell_of hI.blk rfl
  clear hI hF
  go_enter Try.func75, Try.ntmps75
  go_wp2_with fail
  go_ret
  exact ⟨rfl, rfl⟩
theorem rnew_calls (A : Option Addr) (c : Nat) (l : List UInt8) (w : World) (hr : Kd.C (Kd.int .u8) w A (bl l).length (bl l)) (hc : (bl l).length ≤ c) (hl : l.length ≤ 140737488351232) :
    Calls Try.prog 18 #[.slice A (bl l).length c] w fun e w' => NewRd 78 w w' e l := by
  have HC := Lib.hid (copied_calls A c l w hr hc hl)
  have HL := Lib.hid hl
  clear hr hl
  go_enter Try.func18, Try.ntmps18
  go_wp2_with fail
  refine HC.out.mono ?_
  rintro e w1 ⟨v, rfl, hnew⟩
  obtain ⟨A1, c1, e1, _, _⟩ := hnew.1.reads
  obtain ⟨n1, hn1⟩ : ∃ n1 : Nat, n1 = (bl l).length := ⟨_, rfl⟩
  rw [← hn1] at e1
  subst e1
  have HNEW := Lib.hid hnew
  clear hnew hn1
  go_wp2_with fail
  go_ret
  exact ⟨w1.heap.size, rfl, newrd 78 HNEW.out HL.out, HNEW.out.2.2.alloc HNEW.out.2.2.size _⟩
theorem rend_calls {w : World} {F : Blks} (a : Nat) (s : RS) (h : (rd 78 a s).on w F) :
    Calls Try.prog 76 #[.pointer (some ⟨a, 0, none⟩)] w fun e w' => e = .returned (.int .i64 s.endE) ∧ Drawn0 w w' := by
  obtain ⟨v, hI, hF⟩ := h
  obtain ⟨A, c, rfl, _, _⟩ := hI.inp.reads
  have c0 : w.cell? ⟨a, 0, none⟩ = some (.slice A (bl s.inp).length c) := cell_of hI.blk rfl
  have c1 : w.cell? ⟨a, 1, none⟩ = some (.int .i64 s.pos) := cell_of hI.blk rfl
  have c2 : w.cell? ⟨a, 2, none⟩ = some (.int .i64 s.err) := cell_of hI.blk rfl
  have hok := hI.ok
  have hbl := bl_length s.inp
  clear hI hF
  by_cases he : s.err = 0
  · have t0 : (s.err != 0) = false := by simp [he]
    by_cases hl : 0 < s.left
    · have E := Lib.hid (show s.endE = 22 by unfold RS.endE; rw [if_pos ⟨he, hl⟩])
      have hl2 : (s.pos : Int) < ((bl s.inp).length : Int) := by unfold RS.left at hl; omega
      clear he hbl hl hok
      go_enter Try.func76, Try.ntmps76
      go_wp2_with fail
      go_quiet (fail)
      go_wp2_with fail
      go_ret
      rw [E.out]
      exact ⟨rfl, ⟨⟨_, rfl⟩⟩⟩
    · have E := Lib.hid (show s.endE = 0 by unfold RS.endE; rw [if_neg (by omega)]; exact he)
      have hl2 : ¬ (s.pos : Int) < ((bl s.inp).length : Int) := by unfold RS.left at hl; have := hok.pos; omega
      clear he hbl hl hok
      go_enter Try.func76, Try.ntmps76
      go_wp2_with fail
      go_quiet (fail)
      go_wp2_with fail
      go_ret
      rw [E.out]
      exact ⟨rfl, ⟨⟨_, rfl⟩⟩⟩
  · have t0 : (s.err != 0) = true := by simpa using he
    have E := Lib.hid (show s.endE = s.err by unfold RS.endE; rw [if_neg (by omega)])
    clear he hbl hok
    go_enter Try.func76, Try.ntmps76
    go_wp2_with fail
    go_ret
    rw [E.out]
    exact ⟨rfl, ⟨⟨0, rfl⟩⟩⟩
set_option maxHeartbeats 1000000 in
theorem rblock_calls {w : World} {F : Blks} (a : Nat) (s : RS) (n : Int) (h : (rd 78 a s).on w F) :
    Calls Try.prog 72 #[.pointer (some ⟨a, 0, none⟩), .int .i64 n] w fun e w' => Got 78 w w' F a (s.takeS n) e (s.blockL n) := by
  have H := Lib.hid h
  obtain ⟨v, hI, hF⟩ := h
  have hok := hI.ok
  obtain ⟨A, c, rfl, hcap, hCA⟩ := hI.inp.reads
  have c0 : w.cell? ⟨a, 0, none⟩ = some (.slice A (bl s.inp).length c) := cell_of hI.blk rfl
  have c1 : w.cell? ⟨a, 1, none⟩ = some (.int .i64 s.pos) := cell_of hI.blk rfl
  have c2 : w.cell? ⟨a, 2, none⟩ = some (.int .i64 s.err) := cell_of hI.blk rfl
  have f2 := frozen_of hI.blk 2
  have HI := Lib.hid hI
  have HF := Lib.hid hF
  have hbl := bl_length s.inp
  have hpl : s.pos ≤ (bl s.inp).length := by rw [hbl]; exact hok.pos
  have hll : (bl s.inp).length ≤ 140737488351232 := by rw [hbl]; exact hok.len
  have hdf : ((bl s.inp).length : Int) - (s.pos : Int) = (s.left : Int) := by unfold RS.left; have := hok.pos; rw [hbl]; omega
  clear hI hF
  by_cases he : s.err = 0
  · have t0 : (s.err != 0) = false := by simp [he]
    by_cases hn : n < 0
    · have hb : s.hasB n = false := by unfold RS.hasB; simp; omega
      have E := Lib.hid (show s.blockL n = [] ∧ s.takeS n = s.fail 1 from ⟨by unfold RS.blockL; rw [hb]; rfl, by unfold RS.takeS RS.hasS; rw [hb, if_pos he, if_pos hn]; rfl⟩)
      clear he hCA hb hbl hdf
      go_enter Try.func72, Try.ntmps72
      go_wp2_with fail
      go_ret
      rw [E.out.1, E.out.2]
      exact ⟨_, rfl, Turn.with_nil (turn_err HI.out HF.out 1)⟩
    · by_cases hl : (s.left : Int) < n
      · have hb : s.hasB n = false := by unfold RS.hasB; simp; omega
        have E := Lib.hid (show s.blockL n = [] ∧ s.takeS n = s.fail 20 from ⟨by unfold RS.blockL; rw [hb]; rfl, by unfold RS.takeS RS.hasS; rw [hb, if_pos he, if_neg hn, if_pos hl]; rfl⟩)
        have hl2 : ((bl s.inp).length : Int) - (s.pos : Int) < n := by omega
        clear he hCA hb hbl hdf
        go_enter Try.func72, Try.ntmps72
        go_wp2_with fail
        go_quiet (fail)
        go_wp2_with fail
        go_ret
        rw [E.out.1, E.out.2]
        exact ⟨_, rfl, Turn.with_nil ((Turn.drewN H.out _).trans (turn_err (HI.out.drewN _) (fun b hb => .inl (HF.out b hb)) 20))⟩
      · have hb : s.hasB n = true := by unfold RS.hasB; simp; omega
        obtain ⟨_, k, rfl, hpk, hkl, _⟩ := has_true hok hb
        have E := Lib.hid (show s.blockL k = s.next k ∧ s.takeS k = s.go (s.pos + k) from ⟨by unfold RS.blockL; rw [hb]; simp, by unfold RS.takeS; rw [hb]; simp⟩)
        have hl2 : ¬ ((bl s.inp).length : Int) - (s.pos : Int) < (k : Int) := by omega
        have hcut := fun wx => cut5m A (bl s.inp).length c s.pos (s.pos + k) ((s.pos : Int) + (k : Int)) (by omega) (by omega) (by rw [hbl]; exact hpk) hcap wx
        obtain ⟨A2, hA2⟩ : ∃ A2 : Option Addr, A2 = (if c = s.pos then A else A.map (·.add s.pos)) := ⟨_, rfl⟩
        have hC2 := mid_C hCA (show s.pos ≤ s.pos + k by omega) hpk hcap
        rw [next_mid s k hpk, ← hA2, show s.pos + k - s.pos = k by omega] at hC2
        rw [← hA2, show s.pos + k - s.pos = k by omega] at hcut
        have hnl : (bl (s.next k)).length = k := by rw [bl_length]; exact s.next_length k hkl hok.pos
        have HCOP := Lib.hid (fun (n : Nat) => show Calls Try.prog 67 #[.slice A2 k (c - s.pos)] (w.drewN n) fun e w' => ∃ v, e = .returned v ∧ New (w.drewN n) w' v (bl (s.next k)) from by
          have h1 := copied_calls A2 (c - s.pos) (s.next k) (w.drewN n) (by rw [hnl]; exact C_only hC2 ((Only.refl w (fun _ => False)).drewN n) (fun _ _ _ h => h)) (by rw [hnl]; rw [hbl] at hcap; omega) (by have h1 := s.next_length k hkl hok.pos; have h2 := hok.len; omega)
          rw [hnl] at h1
          exact h1)
        have hpb : s.pos ≤ 140737488351232 := Nat.le_trans hok.pos hok.len
        have hkb : k ≤ 140737488351232 := by have h2 := hok.len; omega
        have HP := Lib.hid hpk
        have q1 : IntKind.i64.wrap ((s.pos : Int) + (k : Int)) = (s.pos : Int) + (k : Int) := IntWalk.i64_in _ (by omega)
        clear he hCA hb hbl hdf hC2 hA2 hnl hcap hpk hkl hok
        go_enter Try.func72, Try.ntmps72
        go_wp2_with fail
        go_quiet (fail)
        go_wp2_with fail
        go_region_with (go_at_call 67; refine (HCOP.out _).mono ?_; rintro e w2 ⟨v1, rfl, hnew⟩; have HNEW := Lib.hid hnew; clear hnew)
        all_goals
          clear q1
          have T2 : Hid (Turn w w2 F (all [rd 78 a s, row 5 .u8 v1 (bl (s.next k))])) := Lib.hid (Turn.add (Turn.one (Turn.drewN H.out _)) HNEW.out.2.2 (new_row HNEW.out))
          obtain ⟨v2, hI2, hF2⟩ := (Turn.first T2.out).2
          have d1 : w2.cell? ⟨a, 1, none⟩ = some (.int .i64 s.pos) := cell_of hI2.blk rfl
          have f1 := frozen_of hI2.blk 1
          clear hI2 hF2
          go_wp2_with fail
          go_ret
          rw [E.out.1, E.out.2]
          refine ⟨v1, rfl, ?_⟩
          obtain ⟨F1, h1, _, k1⟩ := Turn.pick T2.out 0 (by simp)
          obtain ⟨v2, hI2, hF2⟩ := h1
          have hc : (s.pos : Int) + (k : Int) = ((s.pos + k : Nat) : Int) := by omega
          rw [hc]
          exact k1 _ _ (turn_pos hI2 hF2 _ HP.out)
  · have t0 : (s.err != 0) = true := by simpa using he
    have hb : s.hasB n = false := by unfold RS.hasB; simp [he]
    have E := Lib.hid (show s.blockL n = [] ∧ s.takeS n = s from ⟨by unfold RS.blockL; rw [hb]; rfl, by unfold RS.takeS RS.hasS; rw [hb, if_neg he]; rfl⟩)
    clear he hCA hb hbl hdf
    go_enter Try.func72, Try.ntmps72
    go_wp2_with fail
    go_ret
    rw [E.out.1, E.out.2]
    exact ⟨_, rfl, Turn.with_nil (Turn.same H.out)⟩
theorem blockL_length (s : RS) (n : Nat) (hok : s.Ok) (hn : n ≤ 8) : (s.blockL n).length ≤ 8 := by
  unfold RS.blockL
  split
  · unfold RS.next
    rw [List.length_take]
    simp
    omega
  · simp
theorem worth_block (s : RS) (n : Nat) : worth (s.blockL n) = s.takeV n := by
  unfold RS.blockL RS.takeV
  split
  · simp
  · rfl
theorem rnum_calls {w : World} {F : Blks} (a : Nat) (s : RS) (n : Nat) (h : (rd 78 a s).on w F) (hn : n ≤ 8) :
    Calls Try.prog 101 #[.pointer (some ⟨a, 0, none⟩), .int .i64 n] w fun e w' => e = .returned (.int .u64 (s.takeV n : Nat)) ∧ Turn w w' F (rd 78 a (s.takeS n)) := by
  have HB := Lib.hid (rblock_calls a s n h)
  have hok : s.Ok := by obtain ⟨v, hI, _⟩ := h; exact hI.ok
  have HL := Lib.hid (blockL_length s n hok hn)
  have HW := Lib.hid (worth_block s n)
  clear h hok hn
  go_enter Try.func101, Try.ntmps101
  go_wp2_with fail
  refine HB.out.mono ?_
  rintro e w1 ⟨v, rfl, ht⟩
  have HT := Lib.hid ht
  clear ht
  obtain ⟨F2, h2, _⟩ := All.at_ (show All _ w1 _ from HT.out.2) 1 (by simp)
  obtain ⟨A1, c1, rfl, hc1, hC1, _⟩ := row_C (show (row 5 .u8 v (bl (s.blockL n))).on w1 F2 from h2)
  have HWC := Lib.hid (worth_calls A1 c1 (s.blockL n) w1 hC1 hc1 HL.out)
  clear h2 hC1
  go_wp2_with fail
  refine HWC.out.mono ?_
  rintro e w2 ⟨rfl, hd⟩
  have HT2 := Lib.hid ((Turn.first HT.out).then_drawn hd)
  clear hd
  go_wp2_with fail
  go_ret
  exact ⟨by rw [HW.out]; rfl, HT2.out⟩
theorem ru8_calls {w : World} {F : Blks} (a : Nat) (s : RS) (h : (rd 78 a s).on w F) :
    Calls Try.prog 68 #[.pointer (some ⟨a, 0, none⟩)] w fun e w' => e = .returned (.int .i64 (wrap64 (s.takeV 1 : Nat))) ∧ Turn w w' F (rd 78 a (s.takeS 1)) := by
  have HP := Lib.hid (rnum_calls a s 1 h (by omega))
  clear h
  go_enter Try.func68, Try.ntmps68
  go_wp2_with fail
  refine HP.out.mono ?_
  rintro e w1 ⟨rfl, ht⟩
  go_wp2_with fail
  go_ret
  exact ⟨rfl, ht⟩
theorem ru16_calls {w : World} {F : Blks} (a : Nat) (s : RS) (h : (rd 78 a s).on w F) :
    Calls Try.prog 69 #[.pointer (some ⟨a, 0, none⟩)] w fun e w' => e = .returned (.int .i64 (wrap64 (s.takeV 2 : Nat))) ∧ Turn w w' F (rd 78 a (s.takeS 2)) := by
  have HP := Lib.hid (rnum_calls a s 2 h (by omega))
  clear h
  go_enter Try.func69, Try.ntmps69
  go_wp2_with fail
  refine HP.out.mono ?_
  rintro e w1 ⟨rfl, ht⟩
  go_wp2_with fail
  go_ret
  exact ⟨rfl, ht⟩
theorem ru32_calls {w : World} {F : Blks} (a : Nat) (s : RS) (h : (rd 78 a s).on w F) :
    Calls Try.prog 70 #[.pointer (some ⟨a, 0, none⟩)] w fun e w' => e = .returned (.int .u32 ((s.takeV 4 : Nat) % 4294967296 : Int)) ∧ Turn w w' F (rd 78 a (s.takeS 4)) := by
  have HP := Lib.hid (rnum_calls a s 4 h (by omega))
  clear h
  go_enter Try.func70, Try.ntmps70
  go_wp2_with fail
  refine HP.out.mono ?_
  rintro e w1 ⟨rfl, ht⟩
  go_wp2_with fail
  go_ret
  exact ⟨rfl, ht⟩
theorem ru64_calls {w : World} {F : Blks} (a : Nat) (s : RS) (h : (rd 78 a s).on w F) :
    Calls Try.prog 71 #[.pointer (some ⟨a, 0, none⟩)] w fun e w' => e = .returned (.int .i64 (wrap64 (s.takeV 8 : Nat))) ∧ Turn w w' F (rd 78 a (s.takeS 8)) := by
  have HP := Lib.hid (rnum_calls a s 8 h (by omega))
  clear h
  go_enter Try.func71, Try.ntmps71
  go_wp2_with fail
  refine HP.out.mono ?_
  rintro e w1 ⟨rfl, ht⟩
  go_wp2_with fail
  go_ret
  exact ⟨rfl, ht⟩
end Go.Proofs.Ytdmliaodacaefaa.Rd
