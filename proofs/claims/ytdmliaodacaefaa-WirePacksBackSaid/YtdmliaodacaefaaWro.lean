/- The program's writer: Out and NewWriter. By walks. -/
import Derived.Test.YtdmliaodacaefaaWrw
import Derived.BigQuiet
import Derived.Deep.QuietTactic
namespace Go.Proofs.Ytdmliaodacaefaa.Wr
open Go.RowKit Go.Proofs.YtdmliaodacaefaaW.PrintWords Go.Proofs.YtdmliaodacaefaaW.PrintLast Go.Proofs.YtdmliaodacaefaaW.PrintMore Go.Proofs.Ytdmliaodacaefaa.Mem Go.Proofs.Ytdmliaodacaefaa.Sep Go.Proofs.Ytdmliaodacaefaa.Bridge
set_option linter.unusedVariables false
set_option linter.unusedSimpArgs false
/-- what Out tells: the bytes, the error. -/
def WS.told (s : WS) : List UInt8 × Int := if s.err = 0 then (if s.opn = [] then (s.out, 0) else ([], 23)) else ([], s.err)
/-- what Out answers: a row in new memory, and an error. -/
def Told (w w' : World) (e : Ending) (o : List UInt8 × Int) : Prop := ∃ v, e = .returned (.tuple #[v, .int .i64 o.2]) ∧ New w w' v (bl o.1)
theorem new_nil (w : World) : New w w (.slice none 0 0) (bl []) := ⟨Rw.nil _ _ _, fun b h => by simp [Value.ownBlock] at h, Below.refl _ _⟩
theorem new_nilN (w : World) (n : Nat) : New w (w.drewN n) (.slice none 0 0) (bl []) := ⟨Rw.nil _ _ _, fun b h => by simp [Value.ownBlock] at h, pw_below_drewN (Below.refl _ _) n⟩
theorem out_calls {w : World} {F : Blks} (a : Nat) (s : WS) (h : (st objW a s).on w F) :
    Calls Try.prog 25 #[.pointer (some ⟨a, 0, none⟩)] w fun e w' => Told w w' e s.told := by
  have H := Lib.hid h
  obtain ⟨vo, vp, hI, hF⟩ := h
  obtain ⟨A, c, rfl, hcap, hCA⟩ := hI.out.reads
  obtain ⟨B, d, rfl, _, _⟩ := hI.opn.reads
  have c0 : w.cell? ⟨a, 0, none⟩ = some (.slice A (bl s.out).length c) := cell_of hI.blk rfl
  have c2 : w.cell? ⟨a, 2, none⟩ = some (.slice B (nl s.opn).length d) := cell_of hI.blk rfl
  have c3 : w.cell? ⟨a, 3, none⟩ = some (.int .i64 s.err) := cell_of hI.blk rfl
  have HLEN := Lib.hid (show (([] : List Int).length + (bl s.out).length) * 1 ≤ 140737488355328 by
    have h1 := hI.ok.len
    have h2 := hI.ok.lim
    rw [bl_length]
    simp
    omega)
  have hnl : (nl s.opn).length = s.opn.length := nl_length _
  have HC := Lib.hid hCA
  clear hI hF hCA
  by_cases he : s.err = 0
  · have t0 : (s.err != 0) = false := by simp [he]
    by_cases h4 : s.opn = []
    · have hz : (nl s.opn).length = 0 := by rw [hnl, h4]; rfl
      rw [hz] at c2
      have E := Lib.hid (show s.told = (s.out, 0) by unfold WS.told; rw [if_pos he, if_pos h4])
      clear he h4 hnl hz
      go_enter Try.func25, Try.ntmps25
      go_wp2_with (first | ((with_reducible refine gate_builtin (b := .append) (xs := #[.const (.slice none 0 0), .tmp 22]) rfl ?_); refine app_list rfl (.const (.slice none 0 0)) (.tmp 22) 27 5 .u8 1 rfl Try.underlying27 info5 (by decide) (.slice none 0 0) [] (bl s.out) A (bl s.out).length c rfl rfl (Rw.nil _ _ _) HC.out HLEN.out ?_; intro v1 w2 ho1 hg1 hat1; have HO1 := Lib.hid ho1; have HG1 := Lib.hid hg1; have HAT1 := Lib.hid hat1; clear ho1 hg1 hat1))
      go_ret2
      rw [E.out]
      have hbel : Below w.heap.size w w2 := ⟨HG1.out.os, HG1.out.tape, HG1.out.output, HG1.out.size, fun b hb => HG1.out.block b hb (by simp [Value.ownBlock])⟩
      refine ⟨v1, rfl, HO1.out, fun b hb => ?_, hbel⟩
      rcases HAT1.out with h | ⟨b', h1, h2⟩
      · rw [hb] at h; simp [Value.ownBlock] at h
      · have : b' = b := Option.some.inj (h1.symm.trans hb)
        omega
    · have t1 : (0 : Int) < ((nl s.opn).length : Int) := by rw [hnl]; have := List.length_pos_iff.2 h4; omega
      have E := Lib.hid (show s.told = ([], 23) by unfold WS.told; rw [if_pos he, if_neg h4])
      clear he h4 hnl
      go_enter Try.func25, Try.ntmps25
      go_wp2_with fail
      go_ret2
      rw [E.out]
      exact ⟨_, rfl, new_nil _⟩
  · have t0 : (s.err != 0) = true := by simpa using he
    have E := Lib.hid (show s.told = ([], s.err) by unfold WS.told; rw [if_neg he])
    clear he hnl
    go_enter Try.func25, Try.ntmps25
    go_wp2_with fail
    go_quiet (fail)
    go_wp2_with fail
    go_ret2
    rw [E.out]
    exact ⟨_, rfl, new_nilN _ _⟩
def WS.new (n : Nat) : WS := ⟨[], n, [], 0⟩
/-- a bound, brought into its range. -/
def clip (n : Int) : Nat := if n < 0 then 0 else if 1048576 < n then 1048576 else n.toNat
theorem clip_le (n : Int) : clip n ≤ 1048576 := by unfold clip; split; omega; split <;> omega
theorem new_on (w : World) (n : Nat) (hn : n ≤ 1048576) : (st objW w.heap.size (WS.new n)).on (w.alloc (.cells #[.slice none 0 0, .int .i64 n, .slice none 0 0, .int .i64 0] 71)) (fun b => w.heap.size ≤ b) := by
  refine ⟨.slice none 0 0, .slice none 0 0, ⟨heap_alloc_new w _, Rw.nil _ _ _, Rw.nil _ _ _, by simp [Value.ownBlock], by simp [Value.ownBlock], fun b h => by simp [Value.ownBlock] at h, ⟨Nat.zero_le _, hn, Nat.zero_le _, fun x hx => by simp [WS.new] at hx⟩⟩, ?_⟩
  rintro b (rfl | hb | hb)
  · exact Nat.le_refl _
  · simp [Value.ownBlock] at hb
  · simp [Value.ownBlock] at hb
/-- a new writer, in new memory. -/
def NewSt (m : ObjOf) (w w' : World) (e : Ending) (n : Nat) : Prop := e = .returned (.pointer (some ⟨w.heap.size, 0, none⟩)) ∧ (st m w.heap.size (WS.new n)).on w' (fun b => w.heap.size ≤ b) ∧ Below w.heap.size w w'
theorem neww_calls (w : World) (n : Int) :
    Calls Try.prog 12 #[.int .i64 n] w fun e w' => NewSt objW w w' e (clip n) := by
  have hb : ∀ o, Below w.heap.size w (w.alloc o) := fun o => below_alloc (Below.refl _ _) o
  by_cases h1 : n < 0
  · have H := Lib.hid (show NewSt objW w (w.alloc (.cells #[.slice none 0 0, .int .i64 0, .slice none 0 0, .int .i64 0] 71)) (.returned (.pointer (some ⟨w.heap.size, 0, none⟩))) (clip n) from by
      unfold clip; rw [if_pos h1]; exact ⟨rfl, new_on w 0 (by omega), hb _⟩)
    go_enter Try.func12, Try.ntmps12
    go_wp2_with fail
    all_goals first | (go_ret; exact H.out) | omega
  · by_cases h2 : 1048576 < n
    · have H := Lib.hid (show NewSt objW w (w.alloc (.cells #[.slice none 0 0, .int .i64 1048576, .slice none 0 0, .int .i64 0] 71)) (.returned (.pointer (some ⟨w.heap.size, 0, none⟩))) (clip n) from by
        unfold clip; rw [if_neg h1, if_pos h2]; exact ⟨rfl, new_on w 1048576 (by omega), hb _⟩)
      go_enter Try.func12, Try.ntmps12
      go_wp2_with fail
      all_goals first | (go_ret; exact H.out) | omega
    · obtain ⟨k, rfl⟩ : ∃ k : Nat, n = (k : Int) := ⟨n.toNat, by omega⟩
      have H := Lib.hid (show NewSt objW w (w.alloc (.cells #[.slice none 0 0, .int .i64 k, .slice none 0 0, .int .i64 0] 71)) (.returned (.pointer (some ⟨w.heap.size, 0, none⟩))) (clip k) from by
        unfold clip; rw [if_neg h1, if_neg h2, Int.toNat_natCast]; exact ⟨rfl, new_on w k (by omega), hb _⟩)
      by_cases h3 : 0 < (k : Int)
      · go_enter Try.func12, Try.ntmps12
        go_wp2_with fail
        all_goals first | (go_ret; exact H.out) | omega
      · obtain rfl : k = 0 := by omega
        go_enter Try.func12, Try.ntmps12
        go_wp2_with fail
        all_goals first | (go_ret; exact H.out) | omega
end Go.Proofs.Ytdmliaodacaefaa.Wr
