/- The reference's writer: its other calls. By walks. -/
import Derived.Test.YtdmliaodacaefaaRrw
namespace Go.Proofs.Ytdmliaodacaefaa.Wr
open Go.RowKit Go.Proofs.YtdmliaodacaefaaW.PrintWords Go.Proofs.YtdmliaodacaefaaW.PrintLast Go.Proofs.YtdmliaodacaefaaW.PrintMore Go.Proofs.Ytdmliaodacaefaa.Mem Go.Proofs.Ytdmliaodacaefaa.Sep Go.Proofs.Ytdmliaodacaefaa.Bridge
set_option linter.unusedVariables false
set_option linter.unusedSimpArgs false
theorem ru8_calls {w : World} {F : Blks} (a : Nat) (s : WS) (v : Int) (h : (st objV a s).on w F) (hv : -9223372036854775808 ≤ v ∧ v ≤ 9223372036854775807) :
    Calls Try.prog 55 #[.pointer (some ⟨a, 0, none⟩), .int .i64 v] w fun e w' => e = .returned (.tuple #[]) ∧ Turn w w' F (st objV a (s.num v 255 1)) := by
  have HP := Lib.hid (rnum_calls a s v 255 1 h (by omega) hv)
  clear h hv
  go_enter Try.func55, Try.ntmps55
  go_wp2_with fail
  refine HP.out.mono ?_
  rintro e w1 ⟨rfl, ht⟩
  go_wp2_with fail
  go_end0
  exact ⟨rfl, ht⟩
theorem ru16_calls {w : World} {F : Blks} (a : Nat) (s : WS) (v : Int) (h : (st objV a s).on w F) (hv : -9223372036854775808 ≤ v ∧ v ≤ 9223372036854775807) :
    Calls Try.prog 56 #[.pointer (some ⟨a, 0, none⟩), .int .i64 v] w fun e w' => e = .returned (.tuple #[]) ∧ Turn w w' F (st objV a (s.num v 65535 2)) := by
  have HP := Lib.hid (rnum_calls a s v 65535 2 h (by omega) hv)
  clear h hv
  go_enter Try.func56, Try.ntmps56
  go_wp2_with fail
  refine HP.out.mono ?_
  rintro e w1 ⟨rfl, ht⟩
  go_wp2_with fail
  go_end0
  exact ⟨rfl, ht⟩
theorem ru32_calls {w : World} {F : Blks} (a : Nat) (s : WS) (v : Nat) (h : (st objV a s).on w F) (hv : v < 4294967296) :
    Calls Try.prog 58 #[.pointer (some ⟨a, 0, none⟩), .int .u32 v] w fun e w' => e = .returned (.tuple #[]) ∧ Turn w w' F (st objV a (s.put (little 4 v))) := by
  have HLC := Lib.hid (fun wx => little_calls wx 4 v (by omega) (by omega))
  have HT := Lib.hid (Turn.same h)
  have hv1 : (v : Int) < 4294967296 := by omega
  clear h
  go_enter Try.func58, Try.ntmps58
  go_wp2_with fail
  refine (HLC.out _).mono ?_
  rintro e w1 ⟨u, rfl, hnew⟩
  have HNEW := Lib.hid hnew
  clear hnew
  go_wp2_with fail
  refine (rput_new HT.out HNEW.out (by omega)).mono ?_
  rintro e w2 ⟨rfl, ht⟩
  go_wp2_with fail
  go_end0
  exact ⟨rfl, ht⟩
theorem ru64_calls {w : World} {F : Blks} (a : Nat) (s : WS) (v : Int) (h : (st objV a s).on w F) (hv : -9223372036854775808 ≤ v ∧ v ≤ 9223372036854775807) :
    Calls Try.prog 60 #[.pointer (some ⟨a, 0, none⟩), .int .i64 v] w fun e w' => e = .returned (.tuple #[]) ∧ Turn w w' F (st objV a (s.put (little 8 (v % 18446744073709551616).toNat))) := by
  have hl := fun wx => little_calls wx 8 (v % 18446744073709551616).toNat (by omega) (by omega)
  rw [← u64_of] at hl
  have HLC := Lib.hid hl
  have HT := Lib.hid (Turn.same h)
  clear h hv hl
  go_enter Try.func60, Try.ntmps60
  go_wp2_with fail
  refine (HLC.out _).mono ?_
  rintro e w1 ⟨u, rfl, hnew⟩
  have HNEW := Lib.hid hnew
  clear hnew
  go_wp2_with fail
  refine (rput_new HT.out HNEW.out (by omega)).mono ?_
  rintro e w2 ⟨rfl, ht⟩
  go_wp2_with fail
  go_end0
  exact ⟨rfl, ht⟩
theorem rblock_calls {w : World} {F : Blks} (a : Nat) (s : WS) (A : Option Addr) (c : Nat) (l : List UInt8) (h : (st objV a s).on w F) (hr : Kd.C (Kd.int .u8) w A (bl l).length (bl l)) (hc : (bl l).length ≤ c) (hl : l.length ≤ 140737488351232) (hA : 0 < (bl l).length → ∀ x, A = some x → ¬ F x.block) :
    Calls Try.prog 61 #[.pointer (some ⟨a, 0, none⟩), .slice A (bl l).length c] w fun e w' => e = .returned (.tuple #[]) ∧ Turn w w' F (st objV a (s.put l)) := by
  have HP := Lib.hid (rput_calls a s A c l h hr hc hl hA)
  clear h hr hA hl
  go_enter Try.func61, Try.ntmps61
  go_wp2_with fail
  refine HP.out.mono ?_
  rintro e w1 ⟨rfl, ht⟩
  go_wp2_with fail
  go_end0
  exact ⟨rfl, ht⟩
theorem rlen_calls {w : World} {F : Blks} (a : Nat) (s : WS) (h : (st objV a s).on w F) :
    Calls Try.prog 64 #[.pointer (some ⟨a, 0, none⟩)] w fun e w' => e = .returned (.int .i64 (s.out.length : Nat)) ∧ w = w' := by
  obtain ⟨vo, vp, hI, hF⟩ := h
  obtain ⟨A, c, rfl, _, _⟩ := hI.out.reads
  have c0 : w.cell? ⟨a, 1, none⟩ = some (.slice A (bl s.out).length c) := cell_of hI.blk rfl
  have HLL := Lib.hid (bl_length s.out)
  clear hI hF
  go_enter Try.func64, Try.ntmps64
  go_wp2_with fail
  go_ret
  exact ⟨by rw [HLL.out]; rfl, rfl⟩
theorem rerr_calls {w : World} {F : Blks} (a : Nat) (s : WS) (h : (st objV a s).on w F) :
    Calls Try.prog 65 #[.pointer (some ⟨a, 0, none⟩)] w fun e w' => e = .returned (.int .i64 s.err) ∧ w = w' := by
  obtain ⟨vo, vp, hI, hF⟩ := h
  have c3 : w.cell? ⟨a, 3, none⟩ = some (.int .i64 s.err) := cell_of hI.blk rfl
  clear hI hF
  go_enter Try.func65, Try.ntmps65
  go_wp2_with fail
  go_ret
  exact ⟨rfl, rfl⟩
theorem rout_calls {w : World} {F : Blks} (a : Nat) (s : WS) (h : (st objV a s).on w F) :
    Calls Try.prog 66 #[.pointer (some ⟨a, 0, none⟩)] w fun e w' => Told w w' e s.told := by
  obtain ⟨vo, vp, hI, hF⟩ := h
  obtain ⟨A, c, rfl, hcap, hCA⟩ := hI.out.reads
  obtain ⟨B, d, rfl, _, _⟩ := hI.opn.reads
  have c0 : w.cell? ⟨a, 1, none⟩ = some (.slice A (bl s.out).length c) := cell_of hI.blk rfl
  have c2 : w.cell? ⟨a, 2, none⟩ = some (.slice B (nl s.opn).length d) := cell_of hI.blk rfl
  have c3 : w.cell? ⟨a, 3, none⟩ = some (.int .i64 s.err) := cell_of hI.blk rfl
  have hl1 := hI.ok.len
  have hl2 := hI.ok.lim
  have HC := Lib.hid (copied_calls A c s.out w hCA hcap (by omega))
  have hnl : (nl s.opn).length = s.opn.length := nl_length _
  clear hI hF hCA hl1 hl2
  by_cases he : s.err = 0
  · have t0 : (s.err != 0) = false := by simp [he]
    by_cases h4 : s.opn = []
    · have hz : (nl s.opn).length = 0 := by rw [hnl, h4]; rfl
      rw [hz] at c2
      have E := Lib.hid (show s.told = (s.out, 0) by unfold WS.told; rw [if_pos he, if_pos h4])
      clear he h4 hnl hz
      go_enter Try.func66, Try.ntmps66
      go_wp2_with fail
      refine HC.out.mono ?_
      rintro e w1 ⟨u, rfl, hnew⟩
      go_wp2_with fail
      go_ret2
      rw [E.out]
      exact ⟨_, rfl, hnew⟩
    · have t1 : (0 : Int) < ((nl s.opn).length : Int) := by rw [hnl]; have := List.length_pos_iff.2 h4; omega
      have E := Lib.hid (show s.told = ([], 23) by unfold WS.told; rw [if_pos he, if_neg h4])
      clear he h4 hnl
      go_enter Try.func66, Try.ntmps66
      go_wp2_with fail
      go_ret2
      rw [E.out]
      exact ⟨_, rfl, new_nil _⟩
  · have t0 : (s.err != 0) = true := by simpa using he
    have E := Lib.hid (show s.told = ([], s.err) by unfold WS.told; rw [if_neg he])
    clear he hnl
    go_enter Try.func66, Try.ntmps66
    go_wp2_with fail
    go_quiet (fail)
    go_wp2_with fail
    go_ret2
    rw [E.out]
    exact ⟨_, rfl, new_nilN _ _⟩
theorem new_onV (w : World) (n : Nat) (hn : n ≤ 1048576) : (st objV w.heap.size (WS.new n)).on (w.alloc (.cells #[.int .i64 n, .slice none 0 0, .slice none 0 0, .int .i64 0] 73)) (fun b => w.heap.size ≤ b) := by
  refine ⟨.slice none 0 0, .slice none 0 0, ⟨heap_alloc_new w _, Rw.nil _ _ _, Rw.nil _ _ _, by simp [Value.ownBlock], by simp [Value.ownBlock], fun b h => by simp [Value.ownBlock] at h, ⟨Nat.zero_le _, hn, Nat.zero_le _, fun x hx => by simp [WS.new] at hx⟩⟩, ?_⟩
  rintro b (rfl | hb | hb)
  · exact Nat.le_refl _
  · simp [Value.ownBlock] at hb
  · simp [Value.ownBlock] at hb
theorem newr_calls (w : World) (n : Int) :
    Calls Try.prog 13 #[.int .i64 n] w fun e w' => NewSt objV w w' e (clip n) := by
  have hb : ∀ o, Below w.heap.size w (w.alloc o) := fun o => below_alloc (Below.refl _ _) o
  by_cases h1 : n < 0
  · have H := Lib.hid (show NewSt objV w (w.alloc (.cells #[.int .i64 0, .slice none 0 0, .slice none 0 0, .int .i64 0] 73)) (.returned (.pointer (some ⟨w.heap.size, 0, none⟩))) (clip n) from by
      unfold clip; rw [if_pos h1]; exact ⟨rfl, new_onV w 0 (by omega), hb _⟩)
    go_enter Try.func13, Try.ntmps13
    go_wp2_with fail
    all_goals first | (go_ret; exact H.out) | omega
  · by_cases h2 : 1048576 < n
    · have H := Lib.hid (show NewSt objV w (w.alloc (.cells #[.int .i64 1048576, .slice none 0 0, .slice none 0 0, .int .i64 0] 73)) (.returned (.pointer (some ⟨w.heap.size, 0, none⟩))) (clip n) from by
        unfold clip; rw [if_neg h1, if_pos h2]; exact ⟨rfl, new_onV w 1048576 (by omega), hb _⟩)
      go_enter Try.func13, Try.ntmps13
      go_wp2_with fail
      all_goals first | (go_ret; exact H.out) | omega
    · obtain ⟨k, rfl⟩ : ∃ k : Nat, n = (k : Int) := ⟨n.toNat, by omega⟩
      have H := Lib.hid (show NewSt objV w (w.alloc (.cells #[.int .i64 k, .slice none 0 0, .slice none 0 0, .int .i64 0] 73)) (.returned (.pointer (some ⟨w.heap.size, 0, none⟩))) (clip k) from by
        unfold clip; rw [if_neg h1, if_neg h2, Int.toNat_natCast]; exact ⟨rfl, new_onV w k (by omega), hb _⟩)
      go_enter Try.func13, Try.ntmps13
      go_wp2_with fail
      all_goals first | (go_ret; exact H.out) | omega
end Go.Proofs.Ytdmliaodacaefaa.Wr
