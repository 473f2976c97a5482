/- One step with a digest and the reference's beside it (function digested): for every kind, every state and every list of bytes. By walks. -/
import Derived.Test.YtcfnpippmdijaaaDig
import Derived.Deep.RegionHeld3
import Derived.Tactics2
namespace Go.Proofs.Ytcfnpippmdijaaa.Dig
set_option linter.unusedVariables false
set_option linter.unusedSimpArgs false
open Go.RowKit Go.Proofs.YtcfnpippmdijaaaW.PrintWords Go.Proofs.YtcfnpippmdijaaaW.PrintLast Go.Proofs.YtcfnpippmdijaaaW.PrintMore Go.Proofs.Ytcfnpippmdijaaa.Bridge Go.Proofs.Ytcfnpippmdijaaa.Mem
/-- a digest and the reference's beside it, of the same bytes. -/
structure Pair (w : World) (a r : Nat) (v : Value) (all : List UInt8) : Prop where
  hd : IsD w a (CrcM.sum all) all.length
  hr : IsR w r v all
  ne : a ≠ r
  na : v.ownBlock ≠ some a
def foot (a r : Nat) (v : Value) (b : Nat) : Prop := b = a ∨ b = r ∨ v.ownBlock = some b
theorem Pair.only {w w' : World} {a r : Nat} {v : Value} {all : List UInt8} {S : Nat → Prop} (h : Pair w a r v all) (ho : Only w w' S) (hs : ∀ b, foot a r v b → ¬ S b) : Pair w' a r v all :=
  ⟨h.hd.only ho (hs a (.inl rfl)), h.hr.only ho (hs r (.inr (.inl rfl))) (fun b hb => hs b (.inr (.inr hb))), h.ne, h.na⟩
def after (kind : Int) (all data : List UInt8) : List UInt8 := if kind = 1 then all ++ data else if kind = 4 then [] else all
/-- what a step leaves. -/
def Stepped (w w' : World) (a r : Nat) (v : Value) (all : List UInt8) : Prop :=
  ∃ v', Pair w' a r v' all ∧ Only w w' (foot a r v) ∧ (∀ b, v'.ownBlock = some b → v.ownBlock = some b ∨ w.heap.size ≤ b)
theorem Pair.lt {w : World} {a r : Nat} {v : Value} {all : List UInt8} (h : Pair w a r v all) : ∀ b, foot a r v b → b < w.heap.size := by
  rintro b (rfl | rfl | hb)
  · exact block_lt h.hd
  · exact block_lt h.hr.1
  · exact h.hr.2.1.lt b hb
theorem Pair.box {w : World} {a r : Nat} {v : Value} {all : List UInt8} (h : Pair w a r v all) (o : Obj) : Pair (w.alloc o) a r v all :=
  h.only ((Only.refl w (fun _ => False)).alloc o) (fun _ _ h => h)
set_option maxHeartbeats 2000000 in
theorem digested_ask (a r : Nat) (v : Value) (all : List UInt8) (kind : Int) (two : Bool) (A : Option Addr) (c n : Nat) (w : World) (h : Pair w a r v all) (hl : all.length ≤ 140737488351232) (hk : kind ≠ 1) (hk4 : kind ≠ 4) :
    Calls Try.prog 23 #[.pointer (some ⟨a, 0, none⟩), .pointer (some ⟨r, 0, none⟩), .agg #[.int .i64 kind, .bool two, .slice A n c]] w fun e w' => e = .returned (.bool true) ∧ Stepped w w' a r v all := by
  have t1 : (kind == 1) = false := by simpa using hk
  have t4 : (kind == 4) = false := by simpa using hk4
  have HB := Lib.hid (h.box (.cells #[.int .i64 kind, .bool two, .slice A n c] 40))
  have HH := Lib.hid h
  have hO : ∀ w', Only (w.alloc (.cells #[.int .i64 kind, .bool two, .slice A n c] 40)) w' (fun _ => False) → Stepped w w' a r v all := fun w' ho =>
    ⟨v, HB.out.only ho (fun _ _ h => h), ((Only.refl w (foot a r v)).alloc _).trans ho (fun _ h => h.elim), fun b hb => .inl hb⟩
  have HO := Lib.hid hO
  clear hO h
  obtain ⟨A1, c1, e1, hc1, hr1⟩ := HB.out.hr.2.1.reads
  have h0 : (w.alloc (.cells #[.int .i64 kind, .bool two, .slice A n c] 40)).cell? ⟨r, 0, none⟩ = some v := cell_of HB.out.hr.1 rfl
  subst e1
  have hlen : (bl all).length = all.length := bl_length all
  have HLEN := Lib.hid hlen
  clear hlen
  by_cases h2 : kind = 2
  · have t2 : (kind == 2) = true := by simpa using h2
    clear h2 hk hk4
    go_enter Try.func23, Try.ntmps23
    go_wp2_with fail
    refine (dsum_calls a _ _ _ HB.out.hd).mono ?_
    rintro e w' ⟨rfl, rfl⟩
    go_wp2_with fail
    refine (rsum_calls A1 c1 all _ hr1 hc1 (by unfold maxLen; omega)).mono ?_
    rintro e w' ⟨rfl, ⟨nd, rfl⟩⟩
    go_wp2_with fail
    go_ret
    refine ⟨by simp, HO.out _ ((Only.refl _ _).drewN _)⟩
  · have t2 : (kind == 2) = false := by simpa using h2
    clear h2
    by_cases h3 : kind = 3
    · have t3 : (kind == 3) = true := by simpa using h3
      clear h3 hk hk4
      go_enter Try.func23, Try.ntmps23
      go_wp2_with fail
      refine (dlen_calls a _ _ _ HB.out.hd).mono ?_
      rintro e w' ⟨rfl, rfl⟩
      go_wp2_with fail
      go_ret
      refine ⟨by simp [HLEN.out], HO.out _ (Only.refl _ _)⟩
    · have t3 : (kind == 3) = false := by simpa using h3
      clear h3 hk hk4
      go_enter Try.func23, Try.ntmps23
      go_wp2_with fail
      go_ret
      refine ⟨by simp, HO.out _ (Only.refl _ _)⟩
set_option maxHeartbeats 2000000 in
theorem digested_reset (a r : Nat) (v : Value) (all : List UInt8) (two : Bool) (A : Option Addr) (c n : Nat) (w : World) (h : Pair w a r v all) :
    Calls Try.prog 23 #[.pointer (some ⟨a, 0, none⟩), .pointer (some ⟨r, 0, none⟩), .agg #[.int .i64 4, .bool two, .slice A n c]] w fun e w' => e = .returned (.bool true) ∧ Stepped w w' a r v [] := by
  have HB := Lib.hid (h.box (.cells #[.int .i64 4, .bool two, .slice A n c] 40))
  have HH := Lib.hid h
  clear h
  go_enter Try.func23, Try.ntmps23
  go_wp2_with fail
  refine (dreset_calls a _ _ _ HB.out.hd).mono ?_
  rintro e w1 ⟨rfl, hd1, ho1⟩
  have HD := Lib.hid hd1
  have HO1 := Lib.hid ho1
  clear hd1 ho1
  go_wp2_with fail
  refine (rreset_calls r _ _ _ (HB.out.hr.only HO1.out (Ne.symm HB.out.ne) (fun b hb e => HB.out.na (hb.trans (congrArg some e))))).mono ?_
  rintro e w2 ⟨rfl, hr2, ho2⟩
  have HR := Lib.hid hr2
  have HO2 := Lib.hid ho2
  clear hr2 ho2
  go_wp2_with fail
  go_ret
  refine ⟨rfl, .slice none 0 0, ⟨HD.out.only HO2.out HB.out.ne, HR.out, HB.out.ne, by simp [Value.ownBlock]⟩, ?_, by simp [Value.ownBlock]⟩
  exact (((Only.refl w (foot a r v)).alloc _).trans HO1.out (fun b hb => .inl (.inl hb))).trans HO2.out (fun b hb => .inl (.inr (.inl hb)))

theorem three_new (w : World) : Kd.C (Kd.int .u8) (w.alloc (.cells #[.int .u8 165, .int .u8 166, .int .u8 167] 5)) (some ⟨w.heap.size, 0, none⟩) 3 [165, 166, 167] := by
  refine Kd.C_of_reads (d := (0 : Int)) (h1 := fun _ => rfl) (enc := Value.int .u8) ⟨rfl, by decide, fun _ => ⟨_, rfl, ?_⟩⟩
  intro j hj
  have hj' : j = 0 ∨ j = 1 ∨ j = 2 := by omega
  rcases hj' with h | h | h <;> subst h <;> first | (simp [Addr.add]; done) | (simp [Addr.add]; exact World.cell?_alloc_mark _ _ _ _ _)
set_option maxHeartbeats 4000000 in
theorem digested_write (a r : Nat) (v : Value) (all l : List UInt8) (two : Bool) (A : Option Addr) (c : Nat) (w : World) (h : Pair w a r v all) (hr : Kd.C (Kd.int .u8) w A (bl l).length (bl l)) (hc : (bl l).length ≤ c) (hl : all.length + l.length ≤ 1048576) (hfa : 0 < (bl l).length → ∀ x, A = some x → ¬ foot a r v x.block ∧ x.block < w.heap.size) :
    Calls Try.prog 23 #[.pointer (some ⟨a, 0, none⟩), .pointer (some ⟨r, 0, none⟩), .agg #[.int .i64 1, .bool two, .slice A (bl l).length c]] w fun e w' => e = .returned (.bool true) ∧ Stepped w w' a r v (all ++ l) := by
  have HB := Lib.hid (h.box (.cells #[.int .i64 1, .bool two, .slice A (bl l).length c] 40))
  have HA := Lib.hid (Kd.C_alloc hr (.cells #[.int .i64 1, .bool two, .slice A (bl l).length c] 40))
  have HH := Lib.hid h
  have hlen : (bl l).length = l.length := bl_length l
  have hb0 : (w.alloc (.cells #[.int .i64 1, .bool two, .slice A (bl l).length c] 40)).heap[w.heap.size]? = some (.cells #[.int .i64 1, .bool two, .slice A (bl l).length c] 40 (0, 0)) := heap_alloc_new w _
  have HB0 := Lib.hid hb0
  have HLEN := Lib.hid hlen
  have hl2 : (bl l).length ≤ 1048576 := by omega
  clear h hr hlen hb0
  go_enter Try.func23, Try.ntmps23
  go_wp2_with fail
  refine (copied_calls A c l _ HA.out hc (by omega)).mono ?_
  rintro e w1 ⟨v1, rfl, hv1, hg1, hbel1⟩
  have HV1 := Lib.hid hv1
  have HG1 := Lib.hid hg1
  have HBEL1 := Lib.hid hbel1
  have hb1 : w1.heap[w.heap.size]? = some (.cells #[.int .i64 1, .bool two, .slice A (bl l).length c] 40 (0, 0)) := (hbel1.block _ (by simp)).trans HB0.out
  have h2 : w1.cell? ⟨w.heap.size, 2, none⟩ = some (.slice A (bl l).length c) := cell_of hb1 rfl
  have HB1 := Lib.hid hb1
  have hkeep : ∀ w2, (w1.alloc (.cells #[.int .u8 165, .int .u8 166, .int .u8 167] 5)).grownBy w2 v1.ownBlock → w2.heap[w.heap.size]? = some (.cells #[.int .i64 1, .bool two, .slice A (bl l).length c] 40 (0, 0)) := fun w2 hg =>
    (hg.block _ (by have := block_lt hb1; rw [show (w1.alloc (.cells #[.int .u8 165, .int .u8 166, .int .u8 167] 5)).heap.size = w1.heap.size + 1 by simp]; omega) (fun e => absurd (hg1 _ e.symm) (by simp))).trans ((heap_alloc_old _ _ (block_lt hb1)).trans hb1)
  have HKEEP := Lib.hid hkeep
  clear hv1 hg1 hbel1 hb1 hkeep
  go_wp2_with (first | ((with_reducible refine gate_builtin (b := .append) (xs := #[.tmp 18, .tmp 19]) rfl ?_); refine Kd.R_append_row (Value.int .u8) (0 : Int) (h1 := fun _ => rfl) (w0 := w1.alloc (.cells #[.int .u8 165, .int .u8 166, .int .u8 167] 5)) 0 rfl (.tmp 18) (.tmp 19) 23 5 (.int .u8 0) 1 rfl Try.underlying23 info5 rfl (by decide) v1 (bl l) [165, 166, 167] _ 3 3 (fun _ => True) rfl rfl (fun _ _ => trivial) (Kd.R_alloc HV1.out _) (three_new w1) (Below.refl 0 _) (Nat.zero_le _) (by omega) ?_; intro v2 w2 ho hb hg hat; obtain ⟨g2, c2, e2, hle2, hrd2⟩ := Rw.some (Rw.of ho) (by simp); obtain ⟨n2, hn2⟩ : ∃ n : Nat, n = (bl l ++ [165, 166, 167]).length := ⟨_, rfl⟩; rw [← hn2] at e2 hle2; subst e2; (have hn3 : n2 = (bl l).length + 3 := by rw [hn2]; simp); (have hle3 : (bl l).length ≤ c2 := by omega); have hblk := HKEEP.out w2 hg; (have h3 : w2.cell? ⟨w.heap.size, 2, none⟩ = some (.slice A (bl l).length c) := cell_of hblk rfl); have HBL := Lib.hid hblk; have HO2 := Lib.hid ho; have HRD2 := Lib.hid hrd2; have HG2 := Lib.hid hg; have HAT2 := Lib.hid hat; have HN2 := Lib.hid hn2; have HN3 := Lib.hid hn3; clear ho hb hg hat hn2 hn3 hrd2 hblk h2))
  have hrt := C_take HRD2.out (bl l).length (by rw [← HN2.out, HN3.out]; omega)
  rw [List.take_left] at hrt
  have HRT := Lib.hid hrt
  clear hrt
  have honly : Only (w.alloc (.cells #[.int .i64 1, .bool two, .slice A (bl l).length c] 40)) w2 (fun _ => False) :=
    (((Only.of_below HBEL1.out (fun _ => False)).alloc _).grown HG2.out (fun k hk => .inr (HG1.out k hk)))
  have HON := Lib.hid honly
  clear honly
  refine (dwrite_calls a _ _ (some ⟨g2, 0, none⟩) c2 l w2 ((HB.out.only HON.out (fun _ _ h => h)).hd) HRT.out (by omega) (by unfold maxLen; omega) (by omega)).mono ?_
  rintro e w3 ⟨rfl, hd3, ho3⟩
  have HD3 := Lib.hid hd3
  have HO3 := Lib.hid ho3
  clear hd3 ho3
  have hb3 : w3.heap[w.heap.size]? = some (.cells #[.int .i64 1, .bool two, .slice A (bl l).length c] 40 (0, 0)) := (HO3.out.block _ (block_lt HBL.out) (fun e => by have := block_lt HH.out.hd; omega)).trans HBL.out
  have h4 : w3.cell? ⟨w.heap.size, 2, none⟩ = some (.slice A (bl l).length c) := cell_of hb3 rfl
  have HB3 := Lib.hid hb3
  clear hb3 h3
  go_wp2_with fail
  have hn3' := HN3.out
  have hlen3 : n2 ≤ c2 := by omega
  have hg2 : w.heap.size < g2 := by
    rcases HAT2.out with h5 | ⟨b', h5, h6⟩
    · have h8 := HG1.out g2 h5.symm
      rw [show (w.alloc (.cells #[.int .i64 1, .bool two, .slice A (bl l).length c] 40)).heap.size = w.heap.size + 1 by simp] at h8
      omega
    · have : g2 = b' := by simpa [Value.ownBlock] using h5
      have h7 := block_lt HB1.out
      rw [this]
      simp at h6
      omega
  have hna : g2 ≠ a := fun e => by have := block_lt HH.out.hd; omega
  have hA3 : Kd.C (Kd.int .u8) w3 A (bl l).length (bl l) :=
    C_only (C_only HA.out HON.out (fun _ _ _ h => h)) HO3.out (fun hp x hx e => (hfa hp x hx).1 (.inl e))
  have hT3 : Kd.C (Kd.int .u8) w3 (some ⟨g2, 0, none⟩) (bl l).length (bl l) := C_only HRT.out HO3.out (fun _ x hx e => by injection hx with hx; subst hx; exact hna e)
  have hD3 : Kd.C (Kd.int .u8) w3 (some ⟨g2, (bl l).length, none⟩) 3 [165, 166, 167] := by
    have h5 := C_drop (c := c2) HRD2.out (bl l).length (by rw [← HN2.out]; omega) (by rw [← HN2.out]; omega)
    rw [List.drop_left, if_neg (by omega), ← HN2.out, HN3.out, show (bl l).length + 3 - (bl l).length = 3 by omega] at h5
    have h6 : (some (⟨g2, 0, none⟩ : Addr)).map (·.add (bl l).length) = some ⟨g2, (bl l).length, none⟩ := by
      by_cases h : (bl l).length = 0 <;> simp [Addr.add, h]
    rw [h6] at h5
    exact C_only h5 HO3.out (fun _ x hx e => by injection hx with hx; subst hx; exact hna e)
  have HA3 := Lib.hid hA3
  have HT3 := Lib.hid hT3
  have HD3' := Lib.hid hD3
  have HG := Lib.hid hg2
  have HFA := Lib.hid hfa
  have hi1 : ((bl l).length : Int) ≤ (n2 : Int) := by omega
  have hi2 : (0 : Int) ≤ ((bl l).length : Int) := by omega
  have hi3 : ((bl l).length : Int) ≤ ((bl l).length : Int) + 3 := by omega
  have hne1 : ¬ (c2 = (bl l).length) := by omega
  have hne2 : ¬ ((bl l).length = c2) := by omega
  have hi4 : ((bl l).length : Int) ≤ (c2 : Int) := by omega
  clear hA3 hT3 hD3 hfa hna
  go_region_held3 (fun w' => w'.cell? ⟨w.heap.size, 2, none⟩ = some (.slice A (bl l).length c))
    (first | go_keep | skip)
    ((first
      | (go_at_call 33; refine (same_calls (some ⟨g2, 0, none⟩) c2 (bl l) A c (bl l) _ (by repeat (first | exact HT3.out | (with_reducible refine Kd.C_drewN ?_ _) | (with_reducible refine Kd.C_drew ?_))) (by omega) (by repeat (first | exact HA3.out | (with_reducible refine Kd.C_drewN ?_ _) | (with_reducible refine Kd.C_drew ?_))) hc rfl).mono ?_; rintro e w' ⟨rfl, ⟨nd, rfl⟩⟩)
      | (go_at_call 33; refine (same_calls (some ⟨g2, (bl l).length, none⟩) (c2 - (bl l).length) [165, 166, 167] _ 3 [165, 166, 167] _ (by repeat (first | exact HD3'.out | (with_reducible refine Kd.C_alloc ?_ _) | (with_reducible refine Kd.C_drewN ?_ _) | (with_reducible refine Kd.C_drew ?_))) (by simp; omega) (three_new _) (by simp) rfl).mono ?_; rintro e w' ⟨rfl, ⟨nd2, rfl⟩⟩)))
  go_wp2_with fail
  have hrow : Kd.R (Kd.int .u8) 5 w3 0 (fun _ => True) (.slice (some ⟨g2, 0, none⟩) ((bl l).length + 3) c2) (bl l ++ [165, 166, 167]) := by
    have h5 := (Rw.of HO2.out).only HO3.out (fun b hb e => by
      have : g2 = b := by simpa [Value.ownBlock] using hb
      have := block_lt HH.out.hd
      have := HG.out
      omega)
    rw [HN3.out] at h5
    exact h5
  have HROW := Lib.hid hrow
  clear hrow hi1 hi2 hi3 hi4 hne1 hne2 hn3' hlen3 h4
  go_loopw [8] (fun i wr => ∃ k : Nat, k ≤ (bl l).length + 3 ∧ i = .int .i64 k ∧ Only w3 wr (fun b => b = g2) ∧ ∃ ys, Kd.R (Kd.int .u8) 5 wr 0 (fun _ => True) (.slice (some ⟨g2, 0, none⟩) ((bl l).length + 3) c2) ys) (fun i _ => (bl l).length + 3 - (intOf i).toNat)
  case atStart =>
    refine ⟨0, by omega, rfl, ?_, bl l ++ [165, 166, 167], ?_⟩
    · exact ((((Only.refl w3 (fun b => b = g2)).drewN _).alloc _).drewN _)
    · exact Kd.R_drewN (Kd.R_alloc (Kd.R_drewN HROW.out _) _) _
  case round =>
    obtain ⟨k, hk, rfl, hon, ys, hys⟩ := hrel
    have HON4 := Lib.hid hon
    have HYS := Lib.hid hys
    clear hon hys
    by_cases hlt : k < (bl l).length + 3
    · obtain ⟨hc5, hf5⟩ := Kd.R_celln (0 : Int) HYS.out (k : Int) (by omega) (by omega)
      have hc6 : wr.cell? ⟨g2, k, none⟩ = some (.int .u8 (rdOf (0 : Int) ys k)) := hc5
      have hf6 : wr.frozen? ⟨g2, k, none⟩ = false := hf5
      clear hc5 hf5
      go_wp2_with fail
      all_goals
        exact ⟨⟨k + 1, by omega, by go_num, HON4.out.setCell (p := ⟨g2, k, none⟩) (.inl rfl) _, ⟨_, Kd.R_putn HYS.out (k : Int) _⟩⟩, by simp [intOf]; omega⟩
    · have hb5 : wr.heap[w.heap.size]? = some (.cells #[.int .i64 1, .bool two, .slice A (bl l).length c] 40 (0, 0)) :=
        (HON4.out.block _ (block_lt HB3.out) (fun e => by have := HG.out; omega)).trans HB3.out
      have h5 : wr.cell? ⟨w.heap.size, 2, none⟩ = some (.slice A (bl l).length c) := cell_of hb5 rfl
      have hgf : ∀ b, foot a r v b → b ≠ g2 := fun b hb e => by have := HH.out.lt b hb; have := HG.out; omega
      have hr5 : IsR wr r v all := by
        refine ((HB.out.only HON.out (fun _ _ h => h)).hr.only HO3.out (Ne.symm HB.out.ne) (fun b hb e => HB.out.na (hb.trans (congrArg some e)))).only HON4.out (hgf r (.inr (.inl rfl))) (fun b hb => hgf b (.inr (.inr hb)))
      have hA5 : Kd.C (Kd.int .u8) wr A (bl l).length (bl l) := C_only HA3.out HON4.out (fun hp x hx e => by have := (HFA.out hp x hx).2; have := HG.out; omega)
      have HR5 := Lib.hid hr5
      have HA5 := Lib.hid hA5
      have HGF := Lib.hid hgf
      clear hr5 hA5 hgf hb5
      go_wp2_with fail
      refine (rwrite_calls r v all A c l wr HR5.out HA5.out hc (by omega)).mono ?_
      rintro e w6 ⟨rfl, v', hr6, ho6, hv6⟩
      have HR6 := Lib.hid hr6
      have HO6 := Lib.hid ho6
      have HV6 := Lib.hid hv6
      clear hr6 ho6 hv6
      go_wp2_with fail
      go_ret
      have hlt3 : ∀ b, b < w3.heap.size → b < wr.heap.size := fun b hb => Nat.lt_of_lt_of_le hb HON4.out.size
      have hd6 : IsD w6 a (CrcM.upd (CrcM.sum all) l) (all.length + l.length) := (HD3.out.only HON4.out (HGF.out a (.inl rfl))).only HO6.out (fun h => by
        rcases h with h | h
        · exact HB.out.ne h
        · exact HB.out.na h)
      rw [← CrcM.sum_append, ← List.length_append] at hd6
      have hon6 : Only w w6 (foot a r v) := by
        have h1 : Only w w2 (foot a r v) := (((Only.refl w (foot a r v)).alloc _).trans HON.out (fun _ h => h.elim))
        have h2 : Only w w3 (foot a r v) := h1.trans HO3.out (fun b hb => .inl (.inl hb))
        have h3 : Only w wr (foot a r v) := h2.trans HON4.out (fun b hb => .inr (by have := HG.out; omega))
        exact h3.trans HO6.out (fun b hb => .inl (by rcases hb with hb | hb; exact .inr (.inl hb); exact .inr (.inr hb)))
      refine ⟨rfl, v', ⟨hd6, HR6.out, HB.out.ne, fun e => ?_⟩, hon6, fun b hb => ?_⟩
      · rcases HV6.out a e with h7 | h7
        · exact HB.out.na h7
        · have := hlt3 a (block_lt HD3.out); omega
      · rcases HV6.out b hb with h7 | h7
        · exact .inl h7
        · have h8 : w.heap.size ≤ wr.heap.size := by
            have h9 := HON4.out.size
            have h10 := HO3.out.size
            have h11 := HON.out.size
            simp at h11
            omega
          exact .inr (by omega)
end Go.Proofs.Ytcfnpippmdijaaa.Dig
