/- Package crc's back, for every register and every byte: the register ahead of the byte. By walks of table and back. -/
import Derived.Test.YtcfnpippmdijaaaPAllx1
import Derived.Test.YtcfnpippmdijaaaBridge
import Derived.Test.YtcfnpippmdijaaaJoin
import Derived.Deep.OwnRows
import Derived.Laws.CopyOwn
import Derived.Laws.CopyRow
import Derived.Lib.Hide
namespace Go.Proofs.Ytcfnpippmdijaaa.Back
open Go.RowKit Go.Proofs.YtcfnpippmdijaaaW.PrintWords Go.Proofs.YtcfnpippmdijaaaW.PrintLast Go.Proofs.YtcfnpippmdijaaaW.PrintMore Go.Proofs.Ytcfnpippmdijaaa.Bridge
theorem entry_calls (b : UInt8) (w : World) : Calls Try.prog 45 #[.int .u8 (b.toNat : Int)] w fun e w' => e = .returned (.int .u32 (ui (CrcM.entry b))) ∧ Drawn0 w w' := by
  obtain ⟨k, hk⟩ := Ev.rounds (entry_ev b)
  exact Go.Proofs.Ytcfnpippmdijaaa.PAll.crc_entry.calls k _ _ w hk
theorem entryN_calls (k : Nat) (hk : k < 256) (w : World) : Calls Try.prog 45 #[.int .u8 (k : Int)] w fun e w' => e = .returned (.int .u32 (ui (CrcM.entry (UInt8.ofNat k)))) ∧ Drawn0 w w' := by
  have h := entry_calls (UInt8.ofNat k) w
  have hu : ((UInt8.ofNat k).toNat : Int) = (k : Int) := by rw [UInt8.toNat_ofNat']; omega
  rw [hu] at h
  exact h
def rowT (w : World) (b : Nat) (f : Nat → CrcM.W) : Prop := w.rowIs b 69 256 (fun i => .int .u32 (ui (f i)))
def firstsT (k : Nat) (i : Nat) : CrcM.W := if i < k then CrcM.entry (UInt8.ofNat i) else BitVec.ofNat 32 0
def zerosT : Array Value := Array.replicate 256 (.int .u32 0)
theorem zeros69 (w : World) : (zeroValue 69).run Try.prog w = .ok (.agg zerosT) w := by kernel_rfl
theorem size69 : (Try.prog.info? 69).map (·.size) = some 256 := by kernel_rfl
theorem rowT.zeros (w : World) : rowT (w.alloc (.cells zerosT 69)) w.heap.size (firstsT 0) := by
  refine ⟨_, heap_alloc_new w _, by simp [zerosT], ?_⟩
  intro i hi
  unfold zerosT firstsT
  rw [Array.getElem?_replicate, if_pos hi]; simp; rfl
theorem rowT.next {w : World} {b k : Nat} (h : rowT w b (firstsT k)) : rowT (w.setCell ⟨b, k, none⟩ (.int .u32 (ui (CrcM.entry (UInt8.ofNat k))))) b (firstsT (k + 1)) :=
  (World.rowIs.set h k (.int .u32 (ui (CrcM.entry (UInt8.ofNat k))))).congr (fun j _ => by
    unfold firstsT
    by_cases e : j = k
    · subst e; simp
    · by_cases h1 : j < k
      · simp [e, h1, show j < k + 1 by omega]
      · simp [e, h1, show ¬ j < k + 1 by omega])
def isTab (c : Array Value) : Prop := c.size = 256 ∧ (∀ i, i < 256 → c[i]? = some (.int .u32 (ui (CrcM.entry (UInt8.ofNat i))))) ∧ c.all (·.oneCell') = true
theorem rowT.arr {w : World} {b : Nat} (h : rowT w b (firstsT 256)) : ∃ c, w.heap[b]? = some (.cells c 69 (0, 0)) ∧ isTab c := by
  obtain ⟨c, h1, h2, h3⟩ := h
  have h4 : ∀ i, i < 256 → c[i]? = some (.int .u32 (ui (CrcM.entry (UInt8.ofNat i)))) := fun i hi => by rw [h3 i hi]; simp [firstsT, hi]
  refine ⟨c, h1, h2, h4, ?_⟩
  rw [Array.all_eq_true]
  intro i hi
  have := h4 i (by omega)
  rw [Array.getElem?_eq_getElem hi] at this
  rw [Option.some.inj this]; rfl
attribute [local irreducible] CrcM.entry
set_option maxRecDepth 100000 in
set_option maxHeartbeats 1000000 in
theorem table_any (w : World) : Calls Try.prog 46 #[] w fun e w' => ∃ c : Array Value, e = .returned (.agg c) ∧ isTab c ∧ Below w.heap.size w w' := by
  have hz := zeros69
  go_enter Try.func46, Try.ntmps46
  go_wp2_with fail
  go_loopw [2] (fun i wr => ∃ k : Nat, k ≤ 256 ∧ i = .int .i64 k ∧ rowT wr w.heap.size (firstsT k) ∧ Below w.heap.size w wr) (fun i _ => 256 - (intOf i).toNat)
  case atStart =>
    refine ⟨0, by omega, rfl, rowT.zeros w, ?_⟩
    exact (Below.refl _ _).alloc (Nat.le_refl _) _
  case round =>
    obtain ⟨k, hk, rfl, hr, hbel⟩ := hrel
    by_cases hlt : k < 256
    · have hc1 : wr.cell? ⟨w.heap.size, k, none⟩ = some (.int .u32 (ui (firstsT k k))) := World.rowIs.cell hr hlt
      have hc2 := World.rowIs.frozen hr k
      have HR := Lib.hid hr
      clear hr hz
      go_wp2_with fail
      refine (entryN_calls k hlt _).mono ?_
      rintro e w' ⟨rfl, ⟨nd, rfl⟩⟩
      go_wp2_with fail
      refine ⟨⟨k + 1, by omega, by go_num, ?_, ?_⟩, by simp [intOf]; omega⟩
      · exact rowT.next (w := wr.drewN nd) HR.out
      · exact (pw_below_drewN hbel nd).setCell (Nat.le_refl _) _
    · obtain ⟨c, hg, hca⟩ := rowT.arr (by have hk : k = 256 := by omega
                                          rw [hk] at hr; exact hr)
      have hs : (Try.prog.info? 69).map (·.size) = some c.size := size69.trans (congrArg some hca.1.symm)
      have hpost : isTab c ∧ Below w.heap.size w (wr.setRow w.heap.size c) := ⟨hca, below_setRow hbel (Nat.le_refl _) c⟩
      have hres := setRow_heap wr w.heap.size c c 69 (0, 0) hg
      have h1c := hca.2.2
      have HP := Lib.hid hpost
      have HS := Lib.hid hs
      have HG := Lib.hid hg
      have HC := Lib.hid h1c
      have HR := Lib.hid hres
      clear hpost hs hg h1c hr hca hbel hres hz
      go_wp2_with (first | ((with_reducible refine gate_dst (N := 11) rfl ?_); refine wpList_load_row rfl 69 (.tmp 0) rfl w.heap.size rfl 69 c (0, 0) (.array 256 22) HG.out Try.underlying69 rfl HS.out ?_) | ((with_reducible refine gate_store (p := 0) rfl ?_); refine wpList_store_row rfl 69 (.tmp 0) (.tmp 11) rfl w.heap.size c rfl rfl 69 c HG.out HS.out rfl HC.out ?_))
      refine bodyPost_ret (v := .agg c) ?_ rfl ⟨c, rfl, HP.out.1, HP.out.2⟩
      exact results_cell_row rfl _ _ w.heap.size 69 c (0, 0) (.array 256 22) rfl HR.out Try.underlying69 rfl HS.out

theorem run_index69 (c : Array Value) (k : Nat) (x : Value) (w : World) (hk : k < 256) (h : c[k]? = some x) : (Instr.index 69 (.agg c) (.int .i64 (k : Int))).run Try.prog w = .ok x w := by
  have h1 : (0 : Int) ≤ (k : Int) ∧ (k : Int) < 256 := by omega
  simp [Instr.index, Go.run_underlying Try.underlying69, asIntOf, h1, go_sem, h, hk]
theorem shr24_ui (s : CrcM.W) : ui s / 16777216 = (CrcM.top s : Int) := by unfold ui CrcM.top; omega
theorem or_ui (a b : CrcM.W) : Go.bits .or .u32 (ui a) (ui b) = ui (a ||| b) := by
  unfold ui; rw [u32_or_nat _ _ a.isLt b.isLt, BitVec.toNat_or]
theorem shl8_ui (a : CrcM.W) : ui a * (256 : Int) % (4294967296 : Int) = ui (a <<< 8) := by
  unfold ui; rw [BitVec.toNat_shiftLeft, Nat.shiftLeft_eq]; omega
theorem back_value (s : CrcM.W) (b : UInt8) (k : Nat) (hk : k = (CrcM.low (CrcM.ys 8 s)).toNat) :
    Go.bits .or .u32 (Go.bits .xor .u32 (ui s) (ui (CrcM.entry (UInt8.ofNat k))) * 256 % 4294967296) (Go.bits .xor .u8 (k : Int) (b.toNat : Int) % 4294967296) = ui (CrcM.bk s b) := by
  subst hk
  rw [show UInt8.ofNat (CrcM.low (CrcM.ys 8 s)).toNat = CrcM.low (CrcM.ys 8 s) from UInt8.ofNat_toNat]
  rw [xor_ui, shl8_ui, xor_byte, byte_mod, or_ui, CrcM.bk_table s b _ ((CrcM.top_of s _).2 rfl)]
theorem back_test (s : CrcM.W) (k : Nat) (hk : k < 256) : ((CrcM.top (CrcM.entry (UInt8.ofNat k)) : Int) == ui s / 16777216) = decide (k = (CrcM.low (CrcM.ys 8 s)).toNat) := by
  rw [shr24_ui, Bool.eq_iff_iff, beq_iff_eq, decide_eq_true_iff]
  have h := CrcM.top_of s (UInt8.ofNat k)
  have e : (UInt8.ofNat k).toNat = k := by rw [UInt8.toNat_ofNat']; omega
  constructor
  · intro h2
    have h3 := h.1 (by omega)
    rw [← h3, e]
  · intro h2
    have h3 := h.2 (by rw [h2]; exact UInt8.ofNat_toNat)
    omega
set_option maxRecDepth 100000 in
set_option maxHeartbeats 1000000 in
theorem back_any (s : CrcM.W) (b : UInt8) (w : World) : Calls Try.prog 43 #[.int .u32 (ui s), .int .u8 (b.toNat : Int)] w fun e w' => e = .returned (.int .u32 (ui (CrcM.bk s b))) ∧ Below w.heap.size w w' := by
  go_enter Try.func43, Try.ntmps43
  go_wp2_with fail
  refine (table_any _).mono ?_
  rintro e w' ⟨c, rfl, hc, hbel⟩
  go_wp2_with fail
  go_loopw [8] (fun i wr => ∃ k : Nat, k ≤ (CrcM.low (CrcM.ys 8 s)).toNat ∧ i = .int .i64 k ∧ wr = w') (fun i _ => 256 - (intOf i).toNat)
  case atStart => exact ⟨0, by omega, rfl, rfl⟩
  case round =>
    obtain ⟨k, hk, rfl, rfl⟩ := hrel
    have hl := (CrcM.low (CrcM.ys 8 s)).toNat_lt
    have hlt : k < 256 := by omega
    have hix := run_index69 c k _ wr hlt (hc.2.1 k hlt)
    have e1 : ui (CrcM.entry (UInt8.ofNat k)) / 16777216 = (CrcM.top (CrcM.entry (UInt8.ofNat k)) : Int) := shr24_ui _
    have ht := back_test s k hlt
    by_cases h : k = (CrcM.low (CrcM.ys 8 s)).toNat
    · rw [decide_eq_true h] at ht
      have hv := back_value s b k h
      have HV := Lib.hid hv
      clear hv h
      go_wp2_with fail
      go_ret
      exact ⟨by rw [← HV.out]; rfl, hbel⟩
    · rw [decide_eq_false h] at ht
      have hk2 : k + 1 ≤ (CrcM.low (CrcM.ys 8 s)).toNat := by omega
      clear h hk
      go_wp2_with fail
      exact ⟨⟨k + 1, hk2, by go_num, trivial⟩, by simp [intOf]; omega⟩
end Go.Proofs.Ytcfnpippmdijaaa.Back
namespace Go.Proofs.Ytcfnpippmdijaaa.PGiven
open Go.RowKit Go.Proofs.YtcfnpippmdijaaaW.PrintWords Go.Proofs.YtcfnpippmdijaaaW.PrintLast Go.Proofs.YtcfnpippmdijaaaW.PrintMore Go.Proofs.Ytcfnpippmdijaaa.Bridge Go.Proofs.Ytcfnpippmdijaaa.Back
def isU8 (a : Int) : Bool := decide (0 ≤ a) && decide (a ≤ 255)
def crc_back.f (a0 : Int) (a1 : Int) : Option Int := if (isU32 a0 && isU8 a1) = true then some (ui (CrcM.bk (iw a0) (UInt8.ofNat a1.toNat))) else none
theorem crc_back.calls (a0 : Int) (a1 : Int) (r : Int) (w : World) (h : crc_back.f a0 a1 = some r) :
    Calls Try.prog 43 #[.int .u32 a0, .int .u8 a1] w fun e w' => e = .returned (.int .u32 r) ∧ Below w.heap.size w w' := by
  unfold crc_back.f at h
  by_cases h3 : (isU32 a0 && isU8 a1) = true
  · rw [if_pos h3] at h
    obtain rfl := Option.some.inj h
    have h4 : (0 ≤ a0 ∧ a0 ≤ 4294967295) ∧ (0 ≤ a1 ∧ a1 ≤ 255) := by simpa [isU32, isU8] using h3
    have := back_any (iw a0) (UInt8.ofNat a1.toNat) w
    rw [ui_iw a0 h4.1, show ((UInt8.ofNat a1.toNat).toNat : Int) = a1 by rw [UInt8.toNat_ofNat']; omega] at this
    exact this
  · rw [if_neg h3] at h
    exact absurd h (by simp)
theorem crc_back.f_ui (s : CrcM.W) (b : UInt8) : crc_back.f (ui s) (b.toNat : Int) = some (ui (CrcM.bk s b)) := by
  unfold crc_back.f
  have hb : isU8 (b.toNat : Int) = true := by unfold isU8; have := b.toNat_lt; simp; omega
  rw [isU32_ui, hb, iw_ui, Int.toNat_natCast, UInt8.ofNat_toNat]; rfl
theorem crc_Join.f_ui (a b : CrcM.W) (n : Nat) (hn : n ≤ 1099511627776) : crc_Join.f (ui a) (ui b) (n : Int) = some (ui (CrcM.join a b n), 0) := by
  unfold crc_Join.f
  rw [if_neg (by omega), if_neg (by omega), isU32_ui, isU32_ui, iw_ui, iw_ui, Int.toNat_natCast]; rfl
end Go.Proofs.Ytcfnpippmdijaaa.PGiven
