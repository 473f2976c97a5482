/- Digests in memory: the calls of crc's Digest and of the reference's, by walks, for every state and every list of bytes. -/
import Derived.Test.YtcfnpippmdijaaaMem
import Derived.Test.YtcfnpippmdijaaaBridge
import Derived.Test.YtcfnpippmdijaaaPMorex2
import Derived.Deep.RegionHeld3
import Derived.OneCell
import Derived.Lib.Hide
namespace Go.Proofs.Ytcfnpippmdijaaa.Dig
open Go.RowKit Go.Proofs.YtcfnpippmdijaaaW.PrintWords Go.Proofs.YtcfnpippmdijaaaW.PrintLast Go.Proofs.YtcfnpippmdijaaaW.PrintMore Go.Proofs.Ytcfnpippmdijaaa.Bridge Go.Proofs.Ytcfnpippmdijaaa.Mem

set_option linter.unusedVariables false
set_option linter.unusedSimpArgs false
theorem info5 : (Try.prog.info? 5).map (fun i => (i.zero, i.size, i.bytes)) = some (some (.int .u8 0), 1, 1) := by kernel_rfl
theorem cell_of {w : World} {b i : Nat} {C : Array Value} {T : TypeId} {v : Value} (h : w.heap[b]? = some (.cells C T (0, 0))) (hi : C[i]? = some v) : w.cell? ⟨b, i, none⟩ = some v := by
  rw [cell_of_row w b i C T (0, 0) h]; exact hi
theorem frozen_of {w : World} {b : Nat} {C : Array Value} {T : TypeId} (h : w.heap[b]? = some (.cells C T (0, 0))) (i : Nat) : w.frozen? ⟨b, i, none⟩ = false := by simp [World.frozen?, h]
theorem heap_set {w : World} {b i : Nat} {C : Array Value} {T : TypeId} (h : w.heap[b]? = some (.cells C T (0, 0))) (u : Value) : (w.setCell ⟨b, i, none⟩ u).heap[b]? = some (.cells (C.setIfInBounds i u) T (0, 0)) := by
  simp [World.setCell, Array.getElem?_modify, h]
theorem block_lt {w : World} {b : Nat} {o : Obj} (h : w.heap[b]? = some o) : b < w.heap.size := lt_of_block h

/-- a digest of package crc. -/
def IsD (w : World) (a : Nat) (s : CrcM.W) (n : Nat) : Prop := w.heap[a]? = some (.cells #[.int .u32 (ui s), .int .i64 n] 60 (0, 0))
/-- the reference's digest. -/
def IsR (w : World) (a : Nat) (v : Value) (all : List UInt8) : Prop := w.heap[a]? = some (.cells #[v] 38 (0, 0)) ∧ Rw w 5 .u8 v (bl all) ∧ v.ownBlock ≠ some a
theorem IsD.only {w w' : World} {a : Nat} {s : CrcM.W} {n : Nat} {S : Nat → Prop} (h : IsD w a s n) (ho : Only w w' S) (hs : ¬ S a) : IsD w' a s n := (ho.block a (block_lt h) hs).trans h
theorem IsR.only {w w' : World} {a : Nat} {v : Value} {all : List UInt8} {S : Nat → Prop} (h : IsR w a v all) (ho : Only w w' S) (ha : ¬ S a) (hv : ∀ b, v.ownBlock = some b → ¬ S b) : IsR w' a v all :=
  ⟨(ho.block a (block_lt h.1) ha).trans h.1, h.2.1.only ho hv, h.2.2⟩

theorem sum_calls (A : Option Addr) (c : Nat) (l : List UInt8) (w : World) (hr : Kd.C (Kd.int .u8) w A (bl l).length (bl l)) (hc : (bl l).length ≤ c) (hl : l.length ≤ maxLen) :
    Calls Try.prog 15 #[.slice A (bl l).length c] w fun e w' => e = .returned (.int .u32 (ui (CrcM.sum l))) ∧ Drawn0 w w' := by
  obtain ⟨k, hk⟩ := Ev.rounds (sum_ev l hl)
  exact PAll.crc_Sum.calls k A c (bl l) _ w hr hc hk
theorem rsum_calls (A : Option Addr) (c : Nat) (l : List UInt8) (w : World) (hr : Kd.C (Kd.int .u8) w A (bl l).length (bl l)) (hc : (bl l).length ≤ c) (hl : l.length ≤ maxLen) :
    Calls Try.prog 18 #[.slice A (bl l).length c] w fun e w' => e = .returned (.int .u32 (ui (CrcM.sum l))) ∧ Drawn0 w w' := by
  obtain ⟨k, hk⟩ := Ev.rounds (rsum_ev l hl)
  exact PAll.amberref01_Sum.calls k A c (bl l) _ w hr hc hk
theorem update_calls (s : CrcM.W) (A : Option Addr) (c : Nat) (l : List UInt8) (w : World) (hr : Kd.C (Kd.int .u8) w A (bl l).length (bl l)) (hc : (bl l).length ≤ c) (hl : l.length ≤ maxLen) :
    Calls Try.prog 17 #[.int .u32 (ui s), .slice A (bl l).length c] w fun e w' => e = .returned (.int .u32 (ui (CrcM.upd s l))) ∧ Drawn0 w w' := by
  obtain ⟨k, hk⟩ := Ev.rounds (update_ev s l hl)
  exact PAll.crc_Update.calls k _ A c (bl l) _ w hr hc hk
theorem copied_calls (A : Option Addr) (c : Nat) (l : List UInt8) (w : World) (hr : Kd.C (Kd.int .u8) w A (bl l).length (bl l)) (hc : (bl l).length ≤ c) (hl : l.length ≤ 140737488351232) :
    Calls Try.prog 16 #[.slice A (bl l).length c] w fun e w' => ∃ v, e = .returned v ∧ Rw w' 5 .u8 v (bl l) ∧ (∀ b, v.ownBlock = some b → w.heap.size ≤ b) ∧ Below w.heap.size w w' := by
  have h := PAll.amberlaw01_copied.calls A c (bl l) (bl l) w hr hc (copied_eq _ (by rw [bl_length]; exact hl))
  refine h.mono ?_
  rintro e w' ⟨v, rfl, hR, hb⟩
  exact ⟨v, rfl, Rw.of hR, fun b hv => ((Kd.R_bound hR).1 b hv).2.1, hb⟩
theorem same_calls (A : Option Addr) (c : Nat) (l : List Int) (A' : Option Addr) (c' : Nat) (l' : List Int) (w : World) (hr : Kd.C (Kd.int .u8) w A l.length l) (hc : l.length ≤ c) (hr' : Kd.C (Kd.int .u8) w A' l'.length l') (hc' : l'.length ≤ c') (e : l = l') :
    Calls Try.prog 33 #[.slice A l.length c, .slice A' l'.length c'] w fun e w' => e = .returned (.bool true) ∧ Drawn0 w w' := by
  subst e
  exact PMore.amberlaw01_same.calls A c l A' c' l true w hr hc hr' hc' (by unfold PMore.amberlaw01_same.f; rw [beq_self_eq_true])

theorem new_calls (w : World) : Calls Try.prog 22 #[] w fun e w' => e = .returned (.pointer (some ⟨w.heap.size, 0, none⟩)) ∧ w' = w.alloc (.cells #[.int .u32 0, .int .i64 0] 60) := by
  go_enter Try.func22, Try.ntmps22
  go_wp2_with fail
  go_ret
  exact ⟨rfl, rfl⟩
theorem dsum_calls (a : Nat) (s : CrcM.W) (n : Nat) (w : World) (h : IsD w a s n) : Calls Try.prog 24 #[.pointer (some ⟨a, 0, none⟩)] w fun e w' => e = .returned (.int .u32 (ui s)) ∧ w = w' := by
  have h0 : w.cell? ⟨a, 0, none⟩ = some (.int .u32 (ui s)) := cell_of h rfl
  go_enter Try.func24, Try.ntmps24
  go_wp2_with fail
  go_ret
  exact ⟨rfl, rfl⟩
theorem dlen_calls (a : Nat) (s : CrcM.W) (n : Nat) (w : World) (h : IsD w a s n) : Calls Try.prog 25 #[.pointer (some ⟨a, 0, none⟩)] w fun e w' => e = .returned (.int .i64 n) ∧ w = w' := by
  have h0 : w.cell? ⟨a, 1, none⟩ = some (.int .i64 n) := cell_of h rfl
  go_enter Try.func25, Try.ntmps25
  go_wp2_with fail
  go_ret
  exact ⟨rfl, rfl⟩
theorem dwrite_calls (a : Nat) (s : CrcM.W) (n : Nat) (A : Option Addr) (c : Nat) (l : List UInt8) (w : World) (h : IsD w a s n) (hr : Kd.C (Kd.int .u8) w A (bl l).length (bl l)) (hc : (bl l).length ≤ c) (hl : l.length ≤ maxLen) (hn : n + l.length ≤ 9223372036854775807) :
    Calls Try.prog 26 #[.pointer (some ⟨a, 0, none⟩), .slice A (bl l).length c] w fun e w' => e = .returned (.tuple #[]) ∧ IsD w' a (CrcM.upd s l) (n + l.length) ∧ Only w w' (fun b => b = a) := by
  have h0 : w.cell? ⟨a, 0, none⟩ = some (.int .u32 (ui s)) := cell_of h rfl
  have h1 : w.cell? ⟨a, 1, none⟩ = some (.int .i64 n) := cell_of h rfl
  have f0 := frozen_of h 0
  have f1 := frozen_of h 1
  have hlen : (bl l).length = l.length := bl_length l
  have HLEN := Lib.hid hlen
  have HI := Lib.hid h
  clear hlen h
  go_enter Try.func26, Try.ntmps26
  go_wp2_with fail
  refine (update_calls s A c l w hr hc hl).mono ?_
  rintro e w' ⟨rfl, ⟨nd, rfl⟩⟩
  go_wp2_with fail
  go_end0
  refine ⟨rfl, ?_, ?_⟩
  · have e2 : wrap64 ((n : Int) + ((bl l).length : Int)) = ((n + l.length : Nat) : Int) := by rw [HLEN.out]; unfold wrap64; omega
    rw [e2]
    have h2 := heap_set (i := 1) (heap_set (w := w.drewN nd) (i := 0) HI.out (.int .u32 (ui (CrcM.upd s l)))) (.int .i64 ((n + l.length : Nat) : Int))
    exact h2
  · exact (((Only.refl w (fun b => b = a)).drewN nd).setCell (p := ⟨a, 0, none⟩) (.inl rfl) _).setCell (p := ⟨a, 1, none⟩) (.inl rfl) _
theorem size60 : (Try.prog.info? 60).map (·.size) = some 2 := by kernel_rfl
theorem dreset_calls (a : Nat) (s : CrcM.W) (n : Nat) (w : World) (h : IsD w a s n) :
    Calls Try.prog 27 #[.pointer (some ⟨a, 0, none⟩)] w fun e w' => e = .returned (.tuple #[]) ∧ IsD w' a (CrcM.sum []) 0 ∧ Only w w' (fun b => b = a) := by
  have h0 : w.cell? ⟨a, 0, none⟩ = some (.int .u32 (ui s)) := cell_of h rfl
  have h1 : w.cell? ⟨a, 1, none⟩ = some (.int .i64 n) := cell_of h rfl
  have f0 := frozen_of h 0
  have f1 := frozen_of h 1
  have HI := Lib.hid h
  clear h
  go_enter Try.func27, Try.ntmps27
  go_wp2_with fail
  go_end0
  refine ⟨rfl, ?_, ?_⟩
  · have e : ui (CrcM.sum []) = 0 := by decide
    have h2 := heap_set (i := 1) (heap_set (i := 0) HI.out (.int .u32 0)) (.int .i64 0)
    show _ = some (Obj.cells #[.int .u32 (ui (CrcM.sum [])), _] _ _)
    rw [e]
    exact h2
  · exact ((Only.refl w (fun b => b = a)).setCell (p := ⟨a, 0, none⟩) (.inl rfl) _).setCell (p := ⟨a, 1, none⟩) (.inl rfl) _
theorem rwrite_calls (a : Nat) (v : Value) (all : List UInt8) (A : Option Addr) (c : Nat) (l : List UInt8) (w : World) (h : IsR w a v all) (hr : Kd.C (Kd.int .u8) w A (bl l).length (bl l)) (hc : (bl l).length ≤ c) (hl : all.length + l.length < 140737488355328) :
    Calls Try.prog 37 #[.pointer (some ⟨a, 0, none⟩), .slice A (bl l).length c] w fun e w' => e = .returned (.tuple #[]) ∧ ∃ v', IsR w' a v' (all ++ l) ∧ Only w w' (fun b => b = a ∨ v.ownBlock = some b) ∧ (∀ b, v'.ownBlock = some b → v.ownBlock = some b ∨ w.heap.size ≤ b) := by
  obtain ⟨hh, hR, hne⟩ := h
  have h0 : w.cell? ⟨a, 0, none⟩ = some v := cell_of hh rfl
  have f0 := frozen_of hh 0
  have HH := Lib.hid hh
  have HR := Lib.hid hR
  have HC := Lib.hid hr
  have HNE := Lib.hid hne
  have hlen : (bl all).length + (bl l).length < 140737488355328 := by rw [bl_length, bl_length]; exact hl
  clear hh hR hr hne
  go_enter Try.func37, Try.ntmps37
  go_wp2_with (first | ((with_reducible refine gate_builtin (b := .append) (xs := #[.tmp 8, .tmp 9]) rfl ?_); refine Kd.R_append_row (Value.int .u8) (0 : Int) (h1 := fun _ => rfl) (w0 := w) 0 rfl (.tmp 8) (.tmp 9) 23 5 (.int .u8 0) 1 rfl Try.underlying23 info5 rfl (by decide) v (bl all) (bl l) A _ c (fun _ => True) rfl rfl (fun _ _ => trivial) HR.out HC.out (Below.refl 0 w |>.mono (Nat.zero_le _)) (Nat.zero_le _) (by omega) ?_; intro v1 w1 ho hb hg hat; obtain ⟨A1, c1, e1, _, _⟩ := Kd.R_reads ho; obtain ⟨n1, hn1⟩ : ∃ n : Nat, n = (bl all ++ bl l).length := ⟨_, rfl⟩; rw [← hn1] at e1; subst e1; clear hn1; (have hblk : w1.heap[a]? = some (.cells #[v] 38 (0, 0)) := (hg.block a (block_lt HH.out) (fun e => HNE.out e.symm)).trans HH.out); (have h2 : w1.cell? ⟨a, 0, none⟩ = some v := cell_of hblk rfl); have f2 := frozen_of hblk 0; have HO := Lib.hid ho; have HG := Lib.hid hg; have HAT := Lib.hid hat; have HBL := Lib.hid hblk; clear ho hb hg hat hblk))
  go_end0
  have hset := heap_set (i := 0) HBL.out (.slice A1 n1 c1)
  have hne1 : (Value.slice A1 n1 c1).ownBlock ≠ some a := by
    intro e
    rcases HAT.out with h3 | ⟨b, h3, h4⟩
    · exact HNE.out (h3.symm.trans e)
    · have : b = a := Option.some.inj (h3.symm.trans e)
      have := block_lt HH.out
      omega
  have eapp : bl (all ++ l) = bl all ++ bl l := by simp [bl]
  refine ⟨rfl, _, ⟨hset, ?_, hne1⟩, ?_, ?_⟩
  · rw [eapp]
    refine (Rw.of HO.out).step (fun b hb _ => Below.heap_setCell _ _ _ _ (fun e => ?_))
    exact hne1 (hb.trans (congrArg some e))
  · exact ((Only.refl w _).grown HG.out (fun k hk => .inl (.inr hk))).setCell (p := ⟨a, 0, none⟩) (.inl (.inl rfl)) _
  · intro b hb
    rcases HAT.out with h3 | ⟨b', h3, h4⟩
    · exact .inl (h3.symm.trans hb)
    · have : b' = b := Option.some.inj (h3.symm.trans hb)
      exact .inr (by omega)
theorem rreset_calls (a : Nat) (v : Value) (all : List UInt8) (w : World) (h : IsR w a v all) :
    Calls Try.prog 38 #[.pointer (some ⟨a, 0, none⟩)] w fun e w' => e = .returned (.tuple #[]) ∧ IsR w' a (.slice none 0 0) [] ∧ Only w w' (fun b => b = a) := by
  obtain ⟨A, c, rfl, _, _⟩ := h.2.1.reads
  have h0 : w.cell? ⟨a, 0, none⟩ = some (.slice A (bl all).length c) := cell_of h.1 rfl
  have f0 := frozen_of h.1 0
  have HI := Lib.hid h
  clear h
  go_enter Try.func38, Try.ntmps38
  go_wp2_with fail
  go_end0
  refine ⟨rfl, ⟨?_, Rw.nil _ _ _, by simp [Value.ownBlock]⟩, (Only.refl w (fun b => b = a)).setCell (p := ⟨a, 0, none⟩) (.inl rfl) _⟩
  exact heap_set (i := 0) HI.out.1 (.slice none 0 0)
end Go.Proofs.Ytcfnpippmdijaaa.Dig
