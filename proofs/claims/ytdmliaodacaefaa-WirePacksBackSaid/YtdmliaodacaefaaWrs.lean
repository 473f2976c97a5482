/- The program's writer's Seal, for every state. By walks. -/
import Derived.Test.YtdmliaodacaefaaWrw
import Derived.BigQuiet
import Derived.Deep.QuietTactic
namespace Go.Proofs.Ytdmliaodacaefaa.Wr
open Go.RowKit Go.Proofs.YtdmliaodacaefaaW.PrintWords Go.Proofs.YtdmliaodacaefaaW.PrintLast Go.Proofs.YtdmliaodacaefaaW.PrintMore Go.Proofs.Ytdmliaodacaefaa.Mem Go.Proofs.Ytdmliaodacaefaa.Sep Go.Proofs.Ytdmliaodacaefaa.Bridge
set_option linter.unusedVariables false
set_option linter.unusedSimpArgs false
/-- the innermost run's sum. -/
def WS.sealed (s : WS) : List UInt8 := little 4 (CrcM.sum (s.out.drop (s.opn.getLastD 0))).toNat
def WS.shut (s : WS) : WS := { s with out := s.out ++ s.sealed, opn := s.opn.dropLast }
/-- a run ended. -/
def WS.seal (s : WS) : WS := if s.err = 0 then (if s.opn = [] then s.fail 23 else if s.out.length + 4 ≤ s.lim then s.shut else s.fail 2) else s
theorem on_drewN {w : World} {P : Asr} {F : Blks} (h : P.on w F) (n : Nat) : P.on (w.drewN n) F := P.keep h (fun _ _ _ => rfl)
theorem i3 : ∃ i, Try.prog.info? 3 = some i ∧ i.size = 1 := by
  obtain ⟨i, h1, h2⟩ := Option.map_eq_some_iff.1 info3
  simp only [Prod.mk.injEq] at h2
  exact ⟨i, h1, h2.2.1⟩
theorem i5 : ∃ i, Try.prog.info? 5 = some i ∧ i.size = 1 := by
  obtain ⟨i, h1, h2⟩ := Option.map_eq_some_iff.1 info5
  simp only [Prod.mk.injEq] at h2
  exact ⟨i, h1, h2.2.1⟩
/-- what is cut off ahead. -/
theorem cut5 (A : Option Addr) (n c j : Nat) (hj : j ≤ n) (w : World) : (Instr.slice 27 (.slice A n c) (some (.int .i64 j)) none none).run Try.prog w = .ok (.slice (if c = j then A else A.map (·.add j)) (n - j) (c - j)) w := by
  obtain ⟨i, h1, h2⟩ := i5
  have h := cut_from (P := Try.prog) 27 5 .i64 Try.underlying27 h1 1 h2 A n c (j : Int) (by omega) (by omega) w
  simpa using h
theorem cut3 (A : Option Addr) (n c j : Nat) (hj : j ≤ n) (hc : n ≤ c) (w : World) : (Instr.slice 58 (.slice A n c) none (some (.int .i64 j)) none).run Try.prog w = .ok (.slice A j c) w := by
  obtain ⟨i, h1, h2⟩ := i3
  have h := cut_to (P := Try.prog) 58 3 .i64 Try.underlying58 h1 A n c (j : Int) (by omega) (by omega) hc w
  simpa using h
theorem pop_opn {w : World} {a : Nat} {vo : Value} {s : WS} {F : Blks} {A : Option Addr} {n d : Nat} {q : List Nat} (h : IsO objW w a vo (.slice A n d) s) (hF : ∀ b, foot a vo (.slice A n d) b → F b) (k : Nat) (hk : k ≤ n) (hq : q = s.opn.take k) :
    Turn w (w.setCell ⟨a, 2, none⟩ (.slice A k d)) F (st objW a { s with opn := q }) := by
  have hn : n = (nl s.opn).length := (Kd.R_reads' h.opn).1
  have hR : Rw w 3 .i64 (.slice A k d) (nl q) := by
    have h1 := Kd.R_take h.opn (show k ≤ (nl s.opn).length by omega)
    rw [hq]
    have h2 : (nl s.opn).take k = nl (s.opn.take k) := by simp [nl, List.map_take]
    rwa [h2] at h1
  have hown : ∀ b, (Value.slice A k d).ownBlock = some b → (Value.slice A n d).ownBlock = some b := fun b hb => by cases A <;> exact hb
  refine ⟨(Only.refl w F).setCell (p := ⟨a, 2, none⟩) (.inl (hF a (.inl rfl))) _, vo, .slice A k d, IsO.put_ (heap_set h.blk _) h.out hR h.ne1 (fun e => h.ne2 (hown a e)) (fun b hb hb2 => h.ne3 b hb (hown b hb2)) ⟨h.ok.len, h.ok.lim, ?_, ?_⟩, ?_⟩
  · have := h.ok.nest
    rw [hq, List.length_take]
    omega
  · intro x hx
    rw [hq] at hx
    exact h.ok.inn x (List.mem_of_mem_take hx)
  · rintro b (rfl | hb | hb)
    · exact .inl (hF b (.inl rfl))
    · exact .inl (hF b (.inr (.inl hb)))
    · exact .inl (hF b (.inr (.inr (hown b hb))))
set_option maxHeartbeats 1000000 in
theorem seal_calls {w : World} {F : Blks} (a : Nat) (s : WS) (h : (st objW a s).on w F) :
    Calls Try.prog 24 #[.pointer (some ⟨a, 0, none⟩)] w fun e w' => e = .returned (.tuple #[]) ∧ Turn w w' F (st objW a s.seal) := by
  have H := Lib.hid h
  obtain ⟨vo, vp, hI, hF⟩ := h
  obtain ⟨B, d, rfl, _, _⟩ := hI.opn.reads
  have c2 : w.cell? ⟨a, 2, none⟩ = some (.slice B (nl s.opn).length d) := cell_of hI.blk rfl
  have c3 : w.cell? ⟨a, 3, none⟩ = some (.int .i64 s.err) := cell_of hI.blk rfl
  have f3 := frozen_of hI.blk 3
  have HI := Lib.hid hI
  have HF := Lib.hid hF
  have hnl : (nl s.opn).length = s.opn.length := nl_length _
  clear hI hF
  by_cases he : s.err = 0
  · have t0 : (s.err != 0) = false := by simp [he]
    by_cases h4 : s.opn = []
    · have t1 : (((nl s.opn).length : Int) == 0) = true := by rw [hnl, h4]; rfl
      have E := Lib.hid (show s.seal = s.fail 23 by unfold WS.seal; rw [if_pos he, if_pos h4])
      clear he h4 hnl
      go_enter Try.func24, Try.ntmps24
      go_wp2_with fail
      go_end0
      rw [E.out]
      exact ⟨rfl, turn_err HI.out HF.out 23⟩
    · obtain ⟨k, hk⟩ : ∃ k, s.opn.length = k + 1 := ⟨s.opn.length - 1, by have := List.length_pos_iff.2 h4; omega⟩
      have hrm := room_calls a s 4 H.out (by omega)
      have t1 : (((nl s.opn).length : Int) == 0) = false := by rw [hnl]; simp; omega
      cases hfit : s.fits 4
      · rw [hfit] at hrm
        have HRM := Lib.hid hrm
        have hf := hfit
        simp only [WS.fits, decide_eq_false_iff_not] at hf
        have E := Lib.hid (show s.seal = s.room 4 by unfold WS.seal WS.room; rw [if_pos he, if_neg h4, if_neg (by omega), if_pos (by omega)])
        clear hrm hfit hf he h4 hnl hk
        go_enter Try.func24, Try.ntmps24
        go_wp2_with fail
        refine HRM.out.mono ?_
        rintro e w1 ⟨rfl, ht⟩
        have HT := Lib.hid ht
        clear ht
        go_wp2_with fail
        go_end0
        rw [E.out]
        exact ⟨rfl, HT.out⟩
      · have hf := hfit
        simp only [WS.fits, decide_eq_true_eq] at hf
        have e1 : s.room 4 = s := by unfold WS.room; rw [if_neg (by omega)]
        rw [hfit, e1] at hrm
        have HRM := Lib.hid hrm
        have HE := Lib.hid (show s.seal = s.shut by unfold WS.seal; rw [if_pos he, if_neg h4, if_pos hf.2])
        have HFIT := Lib.hid hf
        have HK := Lib.hid hk
        have HNL := Lib.hid hnl
        clear hrm hfit hf e1 he h4 hk hnl
        go_enter Try.func24, Try.ntmps24
        go_wp2_with fail
        refine HRM.out.mono ?_
        rintro e w1 ⟨rfl, ht⟩
        have HT := Lib.hid ht
        clear ht c2 c3 f3 t0 t1
        obtain ⟨vo1, vp1, hI1, hF1⟩ := HT.out.2
        obtain ⟨A, c, rfl, hcap, hCA⟩ := hI1.out.reads
        obtain ⟨g, d1, e1, hd1, hCB⟩ := hI1.opn.some (by rw [nl_length]; have := HK.out; omega)
        rw [nl_length, HK.out] at e1
        subst e1
        obtain ⟨x, hx⟩ : ∃ x, x = s.opn[k]'(by have := HK.out; omega) := ⟨_, rfl⟩
        have hxl : x ≤ (bl s.out).length := by rw [bl_length]; exact hI1.ok.inn x (hx ▸ List.getElem_mem _)
        have hcell := (Kd.R_celln (0 : Int) hI1.opn (k : Int) (by omega) (by omega)).1
        rw [Int.toNat_natCast] at hcell
        have hrd : rdOf (0 : Int) (nl s.opn) (k : Int) = (x : Int) := by
          have hkl : k < s.opn.length := by have := HK.out; omega
          unfold rdOf nl
          rw [List.getD_eq_getElem?_getD, Int.toNat_natCast, List.getElem?_map, List.getElem?_eq_getElem hkl, hx]
          rfl
        rw [hrd] at hcell
        clear hrd
        have d0 : w1.cell? ⟨a, 0, none⟩ = some (.slice A (bl s.out).length c) := cell_of hI1.blk rfl
        have d2 : w1.cell? ⟨a, 2, none⟩ = some (.slice (some ⟨g, 0, none⟩) (k + 1) d1) := cell_of hI1.blk rfl
        obtain ⟨A2, hA2⟩ : ∃ A2 : Option Addr, A2 = (if c = x then A else A.map (·.add x)) := ⟨_, rfl⟩
        have hcut := fun wx => cut5 A (bl s.out).length c x hxl wx
        rw [← hA2] at hcut
        have hdrop := C_drop hCA x hxl hcap
        rw [← hA2, bl_drop] at hdrop
        have hln : (bl s.out).length - x = (bl (s.out.drop x)).length := by rw [bl_length, bl_length, List.length_drop]
        rw [hln] at hcut hdrop
        have HDROP := Lib.hid hdrop
        have HI1 := Lib.hid hI1
        have HF1 := Lib.hid hF1
        have HX := Lib.hid hx
        have hk4 : k ≤ 4 := by have h1 := hI1.ok.nest; have h2 := HK.out; omega
        have HSUM : Calls Try.prog 78 #[.slice A2 (bl (s.out.drop x)).length (c - x)] w1.drew fun e w' => e = .returned (.int .u32 (((CrcM.sum (s.out.drop x)).toNat : Nat) : Int)) ∧ Drawn0 w1.drew w' := sum_calls A2 (c - x) (s.out.drop x) w1.drew (C_only hdrop (Only.refl w1 (fun _ => False)).drew (fun _ _ _ h => h)) (by rw [← hln]; omega) (by have h1 := hI1.ok.len; have h2 := hI1.ok.lim; rw [List.length_drop]; unfold maxLen; omega)
        have HSUM' := Lib.hid HSUM
        have hlast : s.opn.getLastD 0 = x := by
          rw [List.getLastD_eq_getLast?, List.getLast?_eq_getElem?, HK.out, show k + 1 - 1 = k by omega, List.getElem?_eq_getElem (by have := HK.out; omega), HX.out]
          rfl
        have eput : s.put (little 4 (CrcM.sum (s.out.drop x)).toNat) = s.with_ (s.out ++ s.sealed) := by
          unfold WS.put WS.sealed
          rw [hlast, if_pos HFIT.out.1, if_pos (by rw [little_length]; exact HFIT.out.2)]
        have EPUT := Lib.hid eput
        have hdl : s.opn.dropLast = s.opn.take k := by rw [List.dropLast_eq_take, HK.out, show k + 1 - 1 = k by omega]
        have HDL := Lib.hid hdl
        have hkn : k ≤ (nl s.opn).length := by rw [nl_length]; have := HK.out; omega
        have hto := fun (B3 : Option Addr) (d3 : Nat) (hd : (nl s.opn).length ≤ d3) => cut3 B3 (nl s.opn).length d3 k hkn hd
        have HTO := Lib.hid hto
        clear hlast eput hdl hto
        clear hdrop hI1 hF1 hx hCA hCB hln hA2 hcap hd1 HSUM
        go_wp2_with fail
        go_region_with (first | (go_at_call 78; refine HSUM'.out.mono ?_; rintro e w2 ⟨rfl, ⟨nd, rfl⟩⟩) | (go_at_call 57; refine (wu32_calls a s (CrcM.sum (s.out.drop x)).toNat (on_drewN HT.out.2 _) (CrcM.sum (s.out.drop x)).isLt).mono ?_; rintro e w3 ⟨rfl, ht3⟩; rw [EPUT.out] at ht3; have HT3 := Lib.hid ((HT.out.then_drawn ⟨⟨_, rfl⟩⟩).trans ht3); clear ht3; obtain ⟨vo3, vp3, hI3, hF3⟩ := HT3.out.2; obtain ⟨B3, d3, rfl, hd3, _⟩ := hI3.opn.reads; (have g2 : w3.cell? ⟨a, 2, none⟩ = some (.slice B3 (nl s.opn).length d3) := cell_of hI3.blk rfl); have f2 := frozen_of hI3.blk 2; have hcut2 := HTO.out B3 d3 hd3; have HI3 := Lib.hid hI3; have HF3 := Lib.hid hF3; clear hI3 hF3))
        all_goals
          go_wp2_with fail
          go_end0
          rw [HE.out]
          refine ⟨rfl, HT3.out.trans ?_⟩
          exact pop_opn HI3.out HF3.out k hkn HDL.out
  · have t0 : (s.err != 0) = true := by simpa using he
    have E := Lib.hid (show s.seal = s by unfold WS.seal; rw [if_neg he])
    clear he hnl
    go_enter Try.func24, Try.ntmps24
    go_wp2_with fail
    go_end0
    rw [E.out]
    exact ⟨rfl, Turn.same H.out⟩
end Go.Proofs.Ytdmliaodacaefaa.Wr
