/- The program's reader: Block, check, Sealed, End, NewReader. By walks. -/
import Derived.Test.YtdmliaodacaefaaRd
namespace Go.Proofs.Ytdmliaodacaefaa.Rd
open Go.RowKit Go.Proofs.YtdmliaodacaefaaW.PrintWords Go.Proofs.YtdmliaodacaefaaW.PrintLast Go.Proofs.YtdmliaodacaefaaW.PrintMore Go.Proofs.Ytdmliaodacaefaa.Mem Go.Proofs.Ytdmliaodacaefaa.Sep Go.Proofs.Ytdmliaodacaefaa.Bridge Go.Proofs.Ytdmliaodacaefaa.Wr
set_option linter.unusedVariables false
set_option linter.unusedSimpArgs false
section
variable {w w1 w2 : World} {F : Blks} {P Q : Asr}
theorem _root_.Go.Proofs.Ytdmliaodacaefaa.Wr.Turn.one (h : Turn w w1 F P) : Turn w w1 F (all [P]) :=
  ⟨h.1, fun i b => i = 0 ∧ Later w F b, fun i hi => by
    have e : i = 0 := by simpa using hi
    subst e
    exact P.up h.2 (fun b hb => ⟨rfl, hb⟩), fun i j b hne hi hj => hne (hi.1.trans hj.1.symm), fun i b hb => hb.2⟩
theorem _root_.Go.Proofs.Ytdmliaodacaefaa.Wr.Turn.first (h : Turn w w1 F (all [P, Q])) : Turn w w1 F P := by
  obtain ⟨F1, h1, h2⟩ := All.at_ (show All [P, Q] w1 (Later w F) from h.2) 0 (by simp)
  exact ⟨h.1, P.up h1 h2⟩
theorem _root_.Go.Proofs.Ytdmliaodacaefaa.Wr.Turn.with_nil (h : Turn w w1 F P) : Turn w w1 F (all [P, row 5 .u8 (.slice none 0 0) (bl [])]) := by
  refine ⟨h.1, fun i b => i = 0 ∧ Later w F b, fun i hi => ?_, fun i j b hne hi hj => hne (hi.1.trans hj.1.symm), fun i b hb => hb.2⟩
  have e : i = 0 ∨ i = 1 := by simp at hi; omega
  rcases e with e | e <;> subst e
  · exact P.up h.2 (fun b hb => ⟨rfl, hb⟩)
  · exact ⟨Rw.nil _ _ _, fun b hb => by simp [Value.ownBlock] at hb⟩
end
theorem cut5m (A : Option Addr) (n c lo hi : Nat) (z : Int) (hz : z = (hi : Int)) (h1 : lo ≤ hi) (h2 : hi ≤ n) (hc : n ≤ c) (w : World) : (Instr.slice 27 (.slice A n c) (some (.int .i64 lo)) (some (.int .i64 z)) none).run Try.prog w = .ok (.slice (if c = lo then A else A.map (·.add lo)) (hi - lo) (c - lo)) w := by
  obtain ⟨i, g1, g2⟩ := i5
  have h := cut_mid (P := Try.prog) 27 5 .i64 .i64 Try.underlying27 g1 1 g2 A n c (lo : Int) (hi : Int) (by omega) (by omega) (by omega) hc w
  rw [hz]
  simpa using h
/-- bytes that a reader told: a row in new memory. -/
def Got (T : TypeId) (w w' : World) (F : Blks) (a : Nat) (s' : RS) (e : Ending) (l : List UInt8) : Prop := ∃ v, e = .returned v ∧ Turn w w' F (all [rd T a s', row 5 .u8 v (bl l)])
def RS.blockL (s : RS) (n : Int) : List UInt8 := if s.hasB n then s.next n.toNat else []
/-- the bytes between two places. -/
theorem mid_C {w : World} {A : Option Addr} {c lo hi : Nat} {l : List UInt8} (h : Kd.C (Kd.int .u8) w A (bl l).length (bl l)) (h1 : lo ≤ hi) (h2 : hi ≤ l.length) (hc : (bl l).length ≤ c) : Kd.C (Kd.int .u8) w (if c = lo then A else A.map (·.add lo)) (hi - lo) (bl ((l.take hi).drop lo)) := by
  have h3 := C_drop (C_take h hi (by rw [bl_length]; exact h2)) lo h1 (show hi ≤ c by rw [bl_length] at hc; omega)
  rw [bl_take, bl_drop] at h3
  exact h3
theorem next_mid (s : RS) (n : Nat) (hp : s.pos + n ≤ s.inp.length) : (s.inp.take (s.pos + n)).drop s.pos = s.next n := by
  unfold RS.next
  rw [List.drop_take]
  congr 1
  omega
theorem has_true {s : RS} {n : Int} (hok : s.Ok) (hb : s.hasB n = true) : s.err = 0 ∧ ∃ k : Nat, n = (k : Int) ∧ s.pos + k ≤ s.inp.length ∧ k ≤ s.left ∧ s.hasS n = s := by
  unfold RS.hasB at hb
  simp only [decide_eq_true_eq] at hb
  obtain ⟨he, h0, hl⟩ := hb
  refine ⟨he, n.toNat, by omega, ?_, by omega, by unfold RS.hasS; rw [if_pos he, if_neg (by omega), if_neg (by omega)]⟩
  have := hok.pos
  unfold RS.left at hl
  omega
set_option maxHeartbeats 1000000 in
theorem block_calls {w : World} {F : Blks} (a : Nat) (s : RS) (n : Int) (h : (rd 76 a s).on w F) :
    Calls Try.prog 35 #[.pointer (some ⟨a, 0, none⟩), .int .i64 n] w fun e w' => Got 76 w w' F a (s.takeS n) e (s.blockL n) := by
  have HH := has_calls a s n h
  cases hb : s.hasB n
  · have E := Lib.hid (show s.blockL n = [] ∧ s.takeS n = s.hasS n from ⟨by unfold RS.blockL; rw [hb]; rfl, by unfold RS.takeS; rw [hb]; rfl⟩)
    rw [hb] at HH
    have HH' := Lib.hid HH
    clear HH hb h
    go_enter Try.func35, Try.ntmps35
    go_wp2_with fail
    refine HH'.out.mono ?_
    rintro e w1 ⟨rfl, ht⟩
    have HT := Lib.hid ht
    clear ht
    go_wp2_with fail
    go_ret
    rw [E.out.1, E.out.2]
    exact ⟨_, rfl, HT.out.with_nil⟩
  · have hok : s.Ok := by obtain ⟨v, hI, _⟩ := h; exact hI.ok
    obtain ⟨he, k, rfl, hpk, hkl, e1⟩ := has_true hok hb
    rw [hb, e1] at HH
    have E := Lib.hid (show s.blockL k = s.next k ∧ s.takeS k = s.go (s.pos + k) from ⟨by unfold RS.blockL; rw [hb]; simp, by unfold RS.takeS; rw [hb]; simp⟩)
    have HP := Lib.hid hpk
    have HLN := Lib.hid (s.next_length k hkl hok.pos)
    have HH' := Lib.hid HH
    clear HH hb h e1 he hkl
    go_enter Try.func35, Try.ntmps35
    go_wp2_with fail
    refine HH'.out.mono ?_
    rintro e w1 ⟨rfl, ht⟩
    have HT := Lib.hid ht
    clear ht
    obtain ⟨v, hI, hF⟩ := HT.out.2
    obtain ⟨A, c, rfl, hcap, hCA⟩ := hI.inp.reads
    have c0 : w1.cell? ⟨a, 0, none⟩ = some (.slice A (bl s.inp).length c) := cell_of hI.blk rfl
    have c1 : w1.cell? ⟨a, 1, none⟩ = some (.int .i64 s.pos) := cell_of hI.blk rfl
    have hcut := fun wx => cut5m A (bl s.inp).length c s.pos (s.pos + k) ((s.pos : Int) + (k : Int)) (by omega) (by omega) (by rw [bl_length]; exact HP.out) hcap wx
    obtain ⟨A2, hA2⟩ : ∃ A2 : Option Addr, A2 = (if c = s.pos then A else A.map (·.add s.pos)) := ⟨_, rfl⟩
    have hC2 := mid_C hCA (show s.pos ≤ s.pos + k by omega) HP.out hcap
    rw [next_mid s k HP.out] at hC2
    rw [← hA2] at hcut hC2
    rw [show s.pos + k - s.pos = k by omega] at hcut hC2
    have HC2 := Lib.hid (C_only hC2 (Only.refl w1 (fun _ => False)).drew (fun _ _ _ h => h))
    have hpb : s.pos ≤ 140737488351232 := Nat.le_trans hok.pos hok.len
    have hkb : k ≤ 140737488351232 := by have h1 := HP.out; have h2 := hok.len; omega
    have HLEN := Lib.hid (show (([] : List Int).length + k) * 1 ≤ 140737488355328 by simp; omega)
    have q1 : IntKind.i64.wrap ((s.pos : Int) + (k : Int)) = (s.pos : Int) + (k : Int) := IntWalk.i64_in _ (by omega)
    have HI := Lib.hid hI
    clear hI hF hCA hA2 hC2 hcap hpk hok
    go_wp2_with fail
    go_region_law (first | (refine app_step (W := w1.drew) rfl (.const (.slice none 0 0)) (.tmp 24) 27 5 .u8 1 rfl Try.underlying27 info5 (by decide) (.slice none 0 0) [] (bl (s.next k)) A2 k _ rfl rfl (Rw.nil _ _ _) HC2.out HLEN.out ?_; intro v1 w2 ho1 hg1 hat1; (have hblk : w2.heap[a]? = some (objR 76 (.slice A (bl s.inp).length c) s) := (hg1.block a (block_lt HI.out.blk) (by simp [Value.ownBlock])).trans HI.out.blk); (have d1 : w2.cell? ⟨a, 1, none⟩ = some (.int .i64 s.pos) := cell_of hblk rfl); have f1 := frozen_of hblk 1; have HO1 := Lib.hid ho1; have HG1 := Lib.hid hg1; have HAT1 := Lib.hid hat1; clear ho1 hg1 hat1 hblk))
    all_goals
      clear q1
      have hbel : Below w1.drew.heap.size w1.drew w2 := ⟨HG1.out.os, HG1.out.tape, HG1.out.output, HG1.out.size, fun b hb => HG1.out.block b hb (by simp [Value.ownBlock])⟩
      have T2 : Hid (Turn w w2 F (all [rd 76 a s, row 5 .u8 v1 (bl (s.next k))])) := Lib.hid (Turn.add (Turn.one (HT.out.then_drawn ⟨⟨1, rfl⟩⟩)) hbel ⟨HO1.out, fun b hb => by
        rcases HAT1.out with h | ⟨b', h1, h2⟩
        · rw [hb] at h; simp [Value.ownBlock] at h
        · have : b' = b := Option.some.inj (h1.symm.trans hb)
          exact this ▸ h2⟩)
      clear hbel
      go_wp2_with fail
      go_ret
      rw [E.out.1, E.out.2]
      refine ⟨v1, rfl, ?_⟩
      obtain ⟨F1, h1, _, k1⟩ := Turn.pick T2.out 0 (by simp)
      obtain ⟨v2, hI2, hF2⟩ := h1
      have hc : (s.pos : Int) + (k : Int) = ((s.pos + k : Nat) : Int) := by omega
      rw [hc]
      exact k1 _ _ (turn_pos hI2 hF2 _ HP.out)

/-- the sum behind what was read since from. -/
def RS.checkS (s : RS) (fr : Nat) : RS := if s.hasB 4 then (if worth (s.next 4) = (CrcM.sum ((s.inp.take s.pos).drop fr)).toNat then s.go (s.pos + 4) else s.fail 21) else s.hasS 4
theorem has_err {s : RS} {n : Int} (hb : s.hasB n = false) : ¬ (s.hasS n).err = 0 := by
  unfold RS.hasB at hb
  simp only [decide_eq_false_iff_not] at hb
  unfold RS.hasS RS.fail
  by_cases he : s.err = 0
  · rw [if_pos he]
    by_cases h0 : n < 0
    · rw [if_pos h0]; show ¬ (1 : Int) = 0; decide
    · rw [if_neg h0, if_pos (by omega)]; show ¬ (20 : Int) = 0; decide
  · rw [if_neg he]; exact he
set_option maxHeartbeats 1000000 in
theorem check_calls {w : World} {F : Blks} (a : Nat) (s : RS) (fr : Nat) (h : (rd 76 a s).on w F) (hfr : fr ≤ s.pos) :
    Calls Try.prog 80 #[.pointer (some ⟨a, 0, none⟩), .int .i64 fr] w fun e w' => e = .returned (.tuple #[]) ∧ Turn w w' F (rd 76 a (s.checkS fr)) := by
  have H := Lib.hid h
  obtain ⟨v, hI, hF⟩ := h
  have hok := hI.ok
  obtain ⟨A, c, rfl, hcap, hCA⟩ := hI.inp.reads
  have c0 : w.cell? ⟨a, 0, none⟩ = some (.slice A (bl s.inp).length c) := cell_of hI.blk rfl
  have c1 : w.cell? ⟨a, 1, none⟩ = some (.int .i64 s.pos) := cell_of hI.blk rfl
  have hcut := fun wx => cut5m A (bl s.inp).length c fr s.pos (s.pos : Int) rfl hfr (by rw [bl_length]; exact hok.pos) hcap wx
  obtain ⟨A2, hA2⟩ : ∃ A2 : Option Addr, A2 = (if c = fr then A else A.map (·.add fr)) := ⟨_, rfl⟩
  have hC2 := mid_C hCA hfr hok.pos hcap
  rw [← hA2] at hcut hC2
  obtain ⟨L, hL⟩ : ∃ L, L = (s.inp.take s.pos).drop fr := ⟨_, rfl⟩
  rw [← hL] at hC2
  have hln : s.pos - fr = (bl L).length := by rw [bl_length, hL, List.length_drop, List.length_take]; have := hok.pos; omega
  rw [hln] at hcut hC2
  have hcap2 : (bl L).length ≤ c - fr := by rw [← hln]; have h1 := hok.pos; rw [bl_length] at hcap; omega
  have hLl : L.length ≤ maxLen := by rw [bl_length] at hln; have h1 := hok.pos; have h2 := hok.len; unfold maxLen; omega
  have HSUM := Lib.hid (fun (n : Nat) => show Calls Try.prog 78 #[.slice A2 (bl L).length (c - fr)] (w.drewN n) fun e w' => e = .returned (.int .u32 (((CrcM.sum L).toNat : Nat) : Int)) ∧ Drawn0 (w.drewN n) w' from sum_calls A2 (c - fr) L (w.drewN n) (C_only hC2 ((Only.refl w (fun _ => False)).drewN n) (fun _ _ _ h => h)) hcap2 hLl)
  have HU := Lib.hid (fun (n : Nat) => u32_calls (w := w.drewN n) a s (on_drewN H.out n))
  have HOK := Lib.hid hok
  have hpb : s.pos ≤ 140737488351232 := Nat.le_trans hok.pos hok.len
  have hylt := (CrcM.sum L).isLt
  obtain ⟨y, hy⟩ : ∃ y : Nat, y = (CrcM.sum L).toNat := ⟨_, rfl⟩
  rw [← hy] at HSUM hylt
  clear hI hF hCA hA2 hC2 hcap hln hcap2 hLl hok
  cases hb : s.hasB 4
  · have E := Lib.hid (show s.checkS fr = s.hasS 4 ∧ s.takeS 4 = s.hasS 4 from ⟨by unfold RS.checkS; rw [hb]; rfl, by unfold RS.takeS; rw [hb]; rfl⟩)
    have HE := Lib.hid (has_err hb)
    clear hb hy hL
    go_enter Try.func80, Try.ntmps80
    go_wp2_with fail
    go_quiet ((go_at_call 78; exact Calls.quiet_of ((HSUM.out _).mono fun _ _ ⟨h1, h2⟩ => ⟨h1, h2.out⟩)))
    go_wp2_with fail
    refine (HU.out _).mono ?_
    rintro e w1 ⟨rfl, ht⟩
    rw [E.out.2] at ht
    have HT := Lib.hid ((Turn.drewN H.out nq).trans (F := F) ⟨ht.1.mono (fun b hb _ => .inl hb), Asr.up _ ht.2 (fun b hb => by
      rcases hb with hb | hb
      · exact .inl (.inl hb)
      · exact .inr hb)⟩)
    clear ht
    obtain ⟨v3, hI3, hF3⟩ := HT.out.2
    have d2 : w1.cell? ⟨a, 2, none⟩ = some (.int .i64 (s.hasS 4).err) := cell_of hI3.blk rfl
    have t3 : ((s.hasS 4).err == 0) = false := by simpa using HE.out
    clear hI3 hF3
    go_wp2_with fail
    go_end0
    rw [E.out.1]
    exact ⟨rfl, HT.out⟩
  · have hok := HOK.out
    obtain ⟨he, k, hk4, hpk, hkl, e1⟩ := has_true hok hb
    obtain rfl : k = 4 := by omega
    have hv : s.takeV 4 = worth (s.next 4) := by unfold RS.takeV; rw [show ((4 : Nat) : Int) = 4 from rfl, hb]; rfl
    have hts : s.takeS 4 = s.go (s.pos + 4) := by unfold RS.takeS; rw [hb]; rfl
    have hwl : worth (s.next 4) < 4294967296 := by
      have h1 := worth_lt (s.next 4)
      rw [s.next_length 4 hkl hok.pos] at h1
      exact h1
    obtain ⟨z, hz⟩ : ∃ z : Nat, z = worth (s.next 4) := ⟨_, rfl⟩
    rw [← hz] at hv hwl
    have HV := Lib.hid hv
    have HTS := Lib.hid hts
    have HWL := Lib.hid hwl
    have HE0 := Lib.hid he
    have hck : s.checkS fr = if z = y then s.go (s.pos + 4) else s.fail 21 := by unfold RS.checkS; rw [hb, ← hL, ← hy, ← hz]; rfl
    have HPK := Lib.hid hpk
    clear hb hy hL hv hts hz hwl he hpk hk4 hkl e1 hok
    have hzm : ((z : Int)) % 4294967296 = (z : Int) := by have := HWL.out; omega
    by_cases hzy : z = y
    · have E := Lib.hid (show s.checkS fr = s.go (s.pos + 4) by rw [hck, if_pos hzy])
      have t5 : ((z : Int) != (y : Int)) = false := by simp [hzy]
      have HZM := Lib.hid hzm
      clear hck hzy hzm
      go_enter Try.func80, Try.ntmps80
      go_wp2_with fail
      go_quiet ((go_at_call 78; exact Calls.quiet_of ((HSUM.out _).mono fun _ _ ⟨h1, h2⟩ => ⟨h1, h2.out⟩)))
      go_wp2_with fail
      have hu := HU.out nq
      rw [HV.out, HTS.out, HZM.out] at hu
      refine hu.mono ?_
      clear hu
      rintro e w1 ⟨rfl, ht⟩
      have HT := Lib.hid ((Turn.drewN H.out nq).trans (F := F) ⟨ht.1.mono (fun b hb _ => .inl hb), Asr.up _ ht.2 (fun b hb => by
        rcases hb with hb | hb
        · exact .inl (.inl hb)
        · exact .inr hb)⟩)
      clear ht
      obtain ⟨v3, hI3, hF3⟩ := HT.out.2
      have d2 : w1.cell? ⟨a, 2, none⟩ = some (.int .i64 s.err) := cell_of hI3.blk rfl
      have t3 : (s.err == 0) = true := by rw [HE0.out]; rfl
      clear hI3 hF3
      go_wp2_with fail
      go_end0
      rw [E.out]
      exact ⟨rfl, HT.out⟩
    · have E := Lib.hid (show s.checkS fr = s.fail 21 by rw [hck, if_neg hzy])
      have t5 : ((z : Int) != (y : Int)) = true := by simp; omega
      have HZM := Lib.hid hzm
      clear hck hzy hzm
      go_enter Try.func80, Try.ntmps80
      go_wp2_with fail
      go_quiet ((go_at_call 78; exact Calls.quiet_of ((HSUM.out _).mono fun _ _ ⟨h1, h2⟩ => ⟨h1, h2.out⟩)))
      go_wp2_with fail
      have hu := HU.out nq
      rw [HV.out, HTS.out, HZM.out] at hu
      refine hu.mono ?_
      clear hu
      rintro e w1 ⟨rfl, ht⟩
      have HT := Lib.hid ((Turn.drewN H.out nq).trans (F := F) ⟨ht.1.mono (fun b hb _ => .inl hb), Asr.up _ ht.2 (fun b hb => by
        rcases hb with hb | hb
        · exact .inl (.inl hb)
        · exact .inr hb)⟩)
      clear ht
      obtain ⟨v3, hI3, hF3⟩ := HT.out.2
      have d2 : w1.cell? ⟨a, 2, none⟩ = some (.int .i64 s.err) := cell_of hI3.blk rfl
      have t3 : (s.err == 0) = true := by rw [HE0.out]; rfl
      have f1 := frozen_of hI3.blk 1
      have f2 := frozen_of hI3.blk 2
      have d1 : w1.cell? ⟨a, 1, none⟩ = some (.int .i64 ((s.pos + 4 : Nat) : Int)) := cell_of hI3.blk rfl
      have HI3 := Lib.hid hI3
      have HF3 := Lib.hid hF3
      clear hI3 hF3
      go_wp2_with fail
      go_end0
      rw [E.out]
      have h2 := HT.out.trans (turn_err HI3.out HF3.out 21)
      obtain ⟨v4, hI4, hF4⟩ := h2.2
      exact ⟨rfl, h2.trans (turn_pos hI4 hF4 s.pos HOK.out.pos)⟩
/-- a sealed run read. -/
def RS.sealedS (s : RS) (n : Int) : RS := if s.hasB n then (if (s.left : Int) - n < 4 then s.fail 20 else if worth ((s.go (s.pos + n.toNat)).next 4) = (CrcM.sum (s.next n.toNat)).toNat then s.go (s.pos + n.toNat + 4) else s.fail 21) else s.hasS n
def RS.sealedL (s : RS) (n : Int) : List UInt8 := if s.hasB n then (if (s.left : Int) - n < 4 then [] else if worth ((s.go (s.pos + n.toNat)).next 4) = (CrcM.sum (s.next n.toNat)).toNat then s.next n.toNat else []) else []
set_option maxHeartbeats 1000000 in
theorem sealed_calls {w : World} {F : Blks} (a : Nat) (s : RS) (n : Int) (h : (rd 76 a s).on w F) :
    Calls Try.prog 26 #[.pointer (some ⟨a, 0, none⟩), .int .i64 n] w fun e w' => Got 76 w w' F a (s.sealedS n) e (s.sealedL n) := by
  have HH := has_calls a s n h
  cases hb : s.hasB n
  · have E := Lib.hid (show s.sealedL n = [] ∧ s.sealedS n = s.hasS n from ⟨by unfold RS.sealedL; rw [hb]; rfl, by unfold RS.sealedS; rw [hb]; rfl⟩)
    rw [hb] at HH
    have HH' := Lib.hid HH
    clear HH hb h
    go_enter Try.func26, Try.ntmps26
    go_wp2_with fail
    refine HH'.out.mono ?_
    rintro e w1 ⟨rfl, ht⟩
    have HT := Lib.hid ht
    clear ht
    go_wp2_with fail
    go_ret
    rw [E.out.1, E.out.2]
    exact ⟨_, rfl, Turn.with_nil HT.out⟩
  · have hok : s.Ok := by obtain ⟨v, hI, _⟩ := h; exact hI.ok
    obtain ⟨he, k, rfl, hpk, hkl, e1⟩ := has_true hok hb
    rw [hb, e1] at HH
    have HH' := Lib.hid HH
    have hleft : (s.left : Int) ≤ 140737488351232 := by have := hok.len; unfold RS.left; omega
    by_cases hs4 : (s.left : Int) - (k : Int) < 4
    · have E := Lib.hid (show s.sealedL k = [] ∧ s.sealedS k = s.fail 20 from ⟨by unfold RS.sealedL; rw [hb, if_pos rfl, if_pos hs4], by unfold RS.sealedS; rw [hb, if_pos rfl, if_pos hs4]⟩)
      have hkl2 : (k : Int) ≤ (s.left : Int) := by omega
      clear HH hb h e1 he hkl hpk hok
      go_enter Try.func26, Try.ntmps26
      go_wp2_with fail
      refine HH'.out.mono ?_
      rintro e w1 ⟨rfl, ht⟩
      have HT := Lib.hid ht
      clear ht
      have HL := Lib.hid (left_calls a s HT.out.2)
      go_wp2_with fail
      refine HL.out.mono ?_
      rintro e w2 ⟨rfl, hd⟩
      have HT2 := Lib.hid (HT.out.then_drawn hd)
      clear hd HL
      obtain ⟨v2, hI2, hF2⟩ := HT2.out.2
      have f2 := frozen_of hI2.blk 2
      have d2 : w2.cell? ⟨a, 2, none⟩ = some (.int .i64 s.err) := cell_of hI2.blk rfl
      have HI2 := Lib.hid hI2
      have HF2 := Lib.hid hF2
      clear hI2 hF2
      go_wp2_with fail
      go_ret
      rw [E.out.1, E.out.2]
      exact ⟨_, rfl, Turn.with_nil (HT2.out.trans (turn_err HI2.out HF2.out 20))⟩
    · have hts : s.takeS k = s.go (s.pos + k) := by unfold RS.takeS; rw [hb]; simp
      have hbl : s.blockL k = s.next k := by unfold RS.blockL; rw [hb]; simp
      have hb4 : (s.go (s.pos + k)).hasB 4 = true := by
        unfold RS.hasB RS.left RS.go
        unfold RS.left at hs4
        simp
        omega
      have hck : (s.go (s.pos + k)).checkS s.pos = if worth ((s.go (s.pos + k)).next 4) = (CrcM.sum (s.next k)).toNat then s.go (s.pos + k + 4) else (s.go (s.pos + k)).fail 21 := by
        unfold RS.checkS
        rw [hb4, if_pos rfl, show (s.go (s.pos + k)).inp = s.inp from rfl, show (s.go (s.pos + k)).pos = s.pos + k from rfl, next_mid s k hpk]
        rfl
      have hE : s.sealedL k = (if worth ((s.go (s.pos + k)).next 4) = (CrcM.sum (s.next k)).toNat then s.next k else []) ∧ s.sealedS k = (if worth ((s.go (s.pos + k)).next 4) = (CrcM.sum (s.next k)).toNat then s.go (s.pos + k + 4) else s.fail 21) := by
        unfold RS.sealedL RS.sealedS
        rw [hb, if_pos rfl, if_pos rfl, if_neg hs4, if_neg hs4, Int.toNat_natCast]
        exact ⟨rfl, rfl⟩
      have HTS := Lib.hid hts
      have HBL := Lib.hid hbl
      have HE0 := Lib.hid he
      have HPK := Lib.hid hpk
      have HOK := Lib.hid hok
      have hkl2 : (k : Int) ≤ (s.left : Int) := by omega
      by_cases hw : worth ((s.go (s.pos + k)).next 4) = (CrcM.sum (s.next k)).toNat
      · rw [if_pos hw] at hck
        rw [if_pos hw, if_pos hw] at hE
        have E := Lib.hid hE
        have CK := Lib.hid hck
        clear HH hb h e1 he hkl hpk hok hts hbl hb4 hck hE hw
        go_enter Try.func26, Try.ntmps26
        go_wp2_with fail
        refine HH'.out.mono ?_
        rintro e w1 ⟨rfl, ht⟩
        have HT := Lib.hid ht
        clear ht
        have HL := Lib.hid (left_calls a s HT.out.2)
        go_wp2_with fail
        refine HL.out.mono ?_
        rintro e w2 ⟨rfl, hd⟩
        have HT2 := Lib.hid (HT.out.then_drawn hd)
        clear hd HL
        obtain ⟨v2, hI2, hF2⟩ := HT2.out.2
        have d1 : w2.cell? ⟨a, 1, none⟩ = some (.int .i64 s.pos) := cell_of hI2.blk rfl
        clear hI2 hF2
        go_wp2_with fail
        have hbk := block_calls a s k HT2.out.2
        rw [HTS.out, HBL.out] at hbk
        refine hbk.mono ?_
        clear hbk
        rintro e w3 ⟨vb, rfl, ht3⟩
        have HT3 : Hid (Turn w w3 F (all [rd 76 a (s.go (s.pos + k)), row 5 .u8 vb (bl (s.next k))])) := Lib.hid (HT2.out.trans ht3)
        clear ht3
        obtain ⟨F1, h1, _, k1⟩ := Turn.pick HT3.out 0 (by simp)
        have hcc := check_calls a (s.go (s.pos + k)) s.pos h1 (show s.pos ≤ s.pos + k by omega)
        rw [CK.out] at hcc
        go_wp2_with fail
        refine hcc.mono ?_
        clear hcc
        rintro e w4 ⟨rfl, ht4⟩
        have HT4 : Hid (Turn w w4 F (all [rd 76 a (s.go (s.pos + k + 4)), row 5 .u8 vb (bl (s.next k))])) := Lib.hid (k1 _ _ ht4)
        clear ht4 h1 k1
        obtain ⟨F4, h4, _⟩ := All.at_ (show All [rd 76 a (s.go (s.pos + k + 4)), row 5 .u8 vb (bl (s.next k))] w4 _ from HT4.out.2) 0 (by simp)
        obtain ⟨v4, hI4, hF4⟩ := h4
        have d2 : w4.cell? ⟨a, 2, none⟩ = some (.int .i64 s.err) := cell_of hI4.blk rfl
        have t4 : (s.err != 0) = false := by rw [HE0.out]; rfl
        clear hI4 hF4
        go_wp2_with fail
        go_ret
        rw [E.out.1, E.out.2]
        exact ⟨vb, rfl, HT4.out⟩
      · rw [if_neg hw] at hck
        rw [if_neg hw, if_neg hw] at hE
        have E := Lib.hid hE
        have CK := Lib.hid hck
        clear HH hb h e1 he hkl hpk hok hts hbl hb4 hck hE hw
        go_enter Try.func26, Try.ntmps26
        go_wp2_with fail
        refine HH'.out.mono ?_
        rintro e w1 ⟨rfl, ht⟩
        have HT := Lib.hid ht
        clear ht
        have HL := Lib.hid (left_calls a s HT.out.2)
        go_wp2_with fail
        refine HL.out.mono ?_
        rintro e w2 ⟨rfl, hd⟩
        have HT2 := Lib.hid (HT.out.then_drawn hd)
        clear hd HL
        obtain ⟨v2, hI2, hF2⟩ := HT2.out.2
        have d1 : w2.cell? ⟨a, 1, none⟩ = some (.int .i64 s.pos) := cell_of hI2.blk rfl
        clear hI2 hF2
        go_wp2_with fail
        have hbk := block_calls a s k HT2.out.2
        rw [HTS.out, HBL.out] at hbk
        refine hbk.mono ?_
        clear hbk
        rintro e w3 ⟨vb, rfl, ht3⟩
        have HT3 : Hid (Turn w w3 F (all [rd 76 a (s.go (s.pos + k)), row 5 .u8 vb (bl (s.next k))])) := Lib.hid (HT2.out.trans ht3)
        clear ht3
        obtain ⟨F1, h1, _, k1⟩ := Turn.pick HT3.out 0 (by simp)
        have hcc := check_calls a (s.go (s.pos + k)) s.pos h1 (show s.pos ≤ s.pos + k by omega)
        rw [CK.out] at hcc
        go_wp2_with fail
        refine hcc.mono ?_
        clear hcc
        rintro e w4 ⟨rfl, ht4⟩
        have HT4 : Hid (Turn w w4 F (all [rd 76 a ((s.go (s.pos + k)).fail 21), row 5 .u8 vb (bl (s.next k))])) := Lib.hid (k1 _ _ ht4)
        clear ht4 h1 k1
        obtain ⟨v4, hI4, hF4⟩ := (Turn.first HT4.out).2
        have d2 : w4.cell? ⟨a, 2, none⟩ = some (.int .i64 21) := cell_of hI4.blk rfl
        have f1 := frozen_of hI4.blk 1
        have d5 : w4.cell? ⟨a, 1, none⟩ = some (.int .i64 ((s.pos + k : Nat) : Int)) := cell_of hI4.blk rfl
        have HI4 := Lib.hid hI4
        have HF4 := Lib.hid hF4
        clear hI4 hF4
        go_wp2_with fail
        go_ret
        rw [E.out.1, E.out.2]
        exact ⟨_, rfl, Turn.with_nil ((Turn.first HT4.out).trans (turn_pos HI4.out HF4.out s.pos HOK.out.pos))⟩
def RS.endE (s : RS) : Int := if s.err = 0 ∧ 0 < s.left then 22 else s.err
theorem end_calls {w : World} {F : Blks} (a : Nat) (s : RS) (h : (rd 76 a s).on w F) :
    Calls Try.prog 27 #[.pointer (some ⟨a, 0, none⟩)] w fun e w' => e = .returned (.int .i64 s.endE) ∧ Drawn0 w w' := by
  have HL := Lib.hid (left_calls a s h)
  obtain ⟨v, hI, hF⟩ := h
  have c2 : w.cell? ⟨a, 2, none⟩ = some (.int .i64 s.err) := cell_of hI.blk rfl
  clear hI hF
  by_cases he : s.err = 0
  · have t0 : (s.err == 0) = true := by simp [he]
    by_cases hl : 0 < s.left
    · have E := Lib.hid (show s.endE = 22 by unfold RS.endE; rw [if_pos ⟨he, hl⟩])
      have hl2 : (0 : Int) < (s.left : Int) := by omega
      clear he
      go_enter Try.func27, Try.ntmps27
      go_wp2_with fail
      refine HL.out.mono ?_
      rintro e w2 ⟨rfl, hd⟩
      go_wp2_with fail
      go_ret
      rw [E.out]
      exact ⟨rfl, hd⟩
    · have E := Lib.hid (show s.endE = s.err by unfold RS.endE; rw [if_neg (by omega)])
      obtain ⟨z, hz⟩ : ∃ z, z = s.left := ⟨_, rfl⟩
      rw [← hz] at HL hl
      obtain rfl : z = 0 := by omega
      clear he hz
      go_enter Try.func27, Try.ntmps27
      go_wp2_with fail
      refine HL.out.mono ?_
      rintro e w2 ⟨rfl, ⟨nd, rfl⟩⟩
      go_wp2_with fail
      go_ret
      rw [E.out]
      exact ⟨rfl, ⟨⟨nd, rfl⟩⟩⟩
  · have t0 : (s.err == 0) = false := by simpa using he
    have E := Lib.hid (show s.endE = s.err by unfold RS.endE; rw [if_neg (by omega)])
    clear he
    go_enter Try.func27, Try.ntmps27
    go_wp2_with fail
    go_ret
    rw [E.out]
    exact ⟨rfl, ⟨⟨0, rfl⟩⟩⟩
def RS.new (l : List UInt8) : RS := ⟨l, 0, 0⟩
/-- a new reader, in new memory. -/
def NewRd (T : TypeId) (w w' : World) (e : Ending) (l : List UInt8) : Prop := ∃ a, e = .returned (.pointer (some ⟨a, 0, none⟩)) ∧ (rd T a (RS.new l)).on w' (fun b => w.heap.size ≤ b) ∧ Below w.heap.size w w'
theorem newrd (T : TypeId) {w w1 : World} {v : Value} {l : List UInt8} (hn : New w w1 v (bl l)) (hl : l.length ≤ 140737488351232) : (rd T w1.heap.size (RS.new l)).on (w1.alloc (.cells #[v, .int .i64 0, .int .i64 0] T)) (fun b => w.heap.size ≤ b) := by
  refine ⟨v, ⟨heap_alloc_new w1 _, hn.1.step (fun b hb hlt => heap_alloc_old w1 _ hlt), fun e => ?_, ⟨hl, Nat.zero_le _⟩⟩, ?_⟩
  · have := hn.1.lt _ e
    omega
  · rintro b (rfl | hb)
    · exact hn.2.2.size
    · exact hn.2.1 b hb
theorem newp_calls (A : Option Addr) (c : Nat) (l : List UInt8) (w : World) (hr : Kd.C (Kd.int .u8) w A (bl l).length (bl l)) (hc : (bl l).length ≤ c) (hl : l.length ≤ 140737488351232) :
    Calls Try.prog 17 #[.slice A (bl l).length c] w fun e w' => NewRd 76 w w' e l := by
  have HC := Lib.hid hr
  have HL := Lib.hid hl
  have HLEN := Lib.hid (show (([] : List Int).length + (bl l).length) * 1 ≤ 140737488355328 by rw [bl_length]; simp; omega)
  clear hr hl
  go_enter Try.func17, Try.ntmps17
  go_wp2_with (first | ((with_reducible refine gate_builtin (b := .append) (xs := #[.const (.slice none 0 0), .tmp 3]) rfl ?_); refine app_list rfl (.const (.slice none 0 0)) (.tmp 3) 27 5 .u8 1 rfl Try.underlying27 info5 (by decide) (.slice none 0 0) [] (bl l) A (bl l).length c rfl rfl (Rw.nil _ _ _) HC.out HLEN.out ?_; intro v1 w2 ho1 hg1 hat1; obtain ⟨A1, c1, e1, _, _⟩ := ho1.reads; obtain ⟨n1, hn1⟩ : ∃ n1 : Nat, n1 = (([] : List Int) ++ bl l).length := ⟨_, rfl⟩; rw [← hn1] at e1; subst e1; clear hn1; have HO1 := Lib.hid ho1; have HG1 := Lib.hid hg1; have HAT1 := Lib.hid hat1; clear ho1 hg1 hat1))
  go_ret
  have hbel : Below w.heap.size w w2 := ⟨HG1.out.os, HG1.out.tape, HG1.out.output, HG1.out.size, fun b hb => HG1.out.block b hb (by simp [Value.ownBlock])⟩
  have hnew : New w w2 (.slice A1 n1 c1) (bl l) := ⟨HO1.out, fun b hb => by
    rcases HAT1.out with h | ⟨b', h1, h2⟩
    · rw [hb] at h; simp [Value.ownBlock] at h
    · have : b' = b := Option.some.inj (h1.symm.trans hb)
      exact this ▸ h2, hbel⟩
  exact ⟨w2.heap.size, rfl, newrd 76 hnew HL.out, hbel.alloc hbel.size _⟩
end Go.Proofs.Ytdmliaodacaefaa.Rd
