/- The reference's writer: Open and Seal. By walks. -/
import Derived.Test.YtdmliaodacaefaaRrs
import Derived.IntWalk
namespace Go.Proofs.Ytdmliaodacaefaa.Wr
open Go.RowKit Go.Proofs.YtdmliaodacaefaaW.PrintWords Go.Proofs.YtdmliaodacaefaaW.PrintLast Go.Proofs.YtdmliaodacaefaaW.PrintMore Go.Proofs.Ytdmliaodacaefaa.Mem Go.Proofs.Ytdmliaodacaefaa.Sep Go.Proofs.Ytdmliaodacaefaa.Bridge
set_option linter.unusedVariables false
set_option linter.unusedSimpArgs false
theorem ropen_calls {w : World} {F : Blks} (a : Nat) (s : WS) (h : (st objV a s).on w F) :
    Calls Try.prog 62 #[.pointer (some ⟨a, 0, none⟩)] w fun e w' => e = .returned (.tuple #[]) ∧ Turn w w' F (st objV a s.open_) := by
  have H := Lib.hid h
  obtain ⟨vo, vp, hI, hF⟩ := h
  obtain ⟨A, c, rfl, _, _⟩ := hI.out.reads
  obtain ⟨B, d, rfl, _, _⟩ := hI.opn.reads
  have c0 : w.cell? ⟨a, 1, none⟩ = some (.slice A (bl s.out).length c) := cell_of hI.blk rfl
  have c2 : w.cell? ⟨a, 2, none⟩ = some (.slice B (nl s.opn).length d) := cell_of hI.blk rfl
  have c3 : w.cell? ⟨a, 3, none⟩ = some (.int .i64 s.err) := cell_of hI.blk rfl
  have f2 := frozen_of hI.blk 2
  have f3 := frozen_of hI.blk 3
  have HI := Lib.hid hI
  have HF := Lib.hid hF
  have hnl : (nl s.opn).length = s.opn.length := nl_length _
  have hnest : (nl s.opn).length ≤ 4 := by rw [hnl]; exact hI.ok.nest
  clear hI hF
  by_cases he : s.err = 0
  · have t0 : (s.err != 0) = false := by simp [he]
    by_cases h4 : s.opn.length = 4
    · have t1 : (((nl s.opn).length : Int) == 4) = true := by rw [hnl, h4]; rfl
      have E := Lib.hid (show s.open_ = s.fail 23 by unfold WS.open_; rw [if_pos he, if_pos h4])
      clear he h4 hnl
      go_enter Try.func62, Try.ntmps62
      go_wp2_with fail
      refine bodyPost_ret (results_none rfl _ _ _) rfl ?_
      rw [E.out]
      exact ⟨rfl, turn_errV HI.out HF.out 23⟩
    · have t1 : (((nl s.opn).length : Int) == 4) = false := by rw [hnl]; simp; omega
      have E := Lib.hid (show s.open_ = s.opened by unfold WS.open_; rw [if_pos he, if_neg h4])
      have HLT := Lib.hid (show s.opn.length < 4 by omega)
      have HLEN := Lib.hid (show ((nl s.opn).length + 1) * 8 ≤ 140737488355328 by omega)
      have HBL := Lib.hid (bl_length s.out)
      have hA2 : ∀ o : Obj, (w.alloc o).cell? ⟨a, 2, none⟩ = some (.slice B (nl s.opn).length d) := fun o => cell_of (HI.out.alloc o).blk rfl
      clear he h4 hnl
      go_enter Try.func62, Try.ntmps62
      go_wp2_with fail
      go_region_law (first | (refine push_step (W := w.drew) rfl (.tmp 20) (.tmp 26) 58 3 .i64 8 rfl Try.underlying58 info3 (by decide) (.slice B (nl s.opn).length d) (nl s.opn) _ rfl rfl (HI.out.opn.only (Only.refl w (fun _ => False)).drew (fun _ _ h => h)) HLEN.out ?_; intro v1 w2 ho1 hg1 hat1; obtain ⟨A1, c1, e1, _, _⟩ := ho1.reads; obtain ⟨n1, hn1⟩ : ∃ n1 : Nat, n1 = (nl s.opn ++ [((bl s.out).length : Int)]).length := ⟨_, rfl⟩; rw [← hn1] at e1; subst e1; clear hn1; (have hblk : w2.heap[a]? = some (objV (.slice A (bl s.out).length c) (.slice B (nl s.opn).length d) s) := (hg1.block a (block_lt HI.out.blk) (fun e => HI.out.ne2 e.symm)).trans HI.out.blk); (have d2 : w2.cell? ⟨a, 2, none⟩ = some (.slice B (nl s.opn).length d) := cell_of hblk rfl); have f2 := frozen_of hblk 2; have HO1 := Lib.hid ho1; have HG1 := Lib.hid hg1; have HAT1 := Lib.hid hat1; clear ho1 hg1 hat1 hblk))
      all_goals go_wp2_with fail
      all_goals go_end0
      all_goals
        rw [E.out]
        refine ⟨rfl, ?_⟩
        have hq := HLT.out
        refine Turn.after_below (below_drew (Below.refl _ _)) (turn_opnV (vp := .slice B (nl s.opn).length d) (q := s.opn ++ [s.out.length]) (HI.out.keep (fun _ _ _ => rfl)) HF.out ?_ HG1.out HAT1.out (by simp; omega) (fun x hx => ?_))
        · have h1 := HO1.out
          rw [HBL.out] at h1
          rw [nl_append]
          exact h1
        · rcases List.mem_append.1 hx with h | h
          · exact HI.out.ok.inn x h
          · have : x = s.out.length := by simpa using h
            omega
  · have t0 : (s.err != 0) = true := by simpa using he
    have E := Lib.hid (show s.open_ = s by unfold WS.open_; rw [if_neg he])
    clear he hnl
    go_enter Try.func62, Try.ntmps62
    go_wp2_with fail
    refine bodyPost_ret (results_none rfl _ _ _) rfl ?_
    rw [E.out]
    exact ⟨rfl, Turn.same H.out⟩
set_option maxHeartbeats 1000000 in
theorem rseal_calls {w : World} {F : Blks} (a : Nat) (s : WS) (h : (st objV a s).on w F) :
    Calls Try.prog 63 #[.pointer (some ⟨a, 0, none⟩)] w fun e w' => e = .returned (.tuple #[]) ∧ Turn w w' F (st objV a s.seal) := by
  have H := Lib.hid h
  obtain ⟨vo, vp, hI, hF⟩ := h
  have c3 : w.cell? ⟨a, 3, none⟩ = some (.int .i64 s.err) := cell_of hI.blk rfl
  have f3 := frozen_of hI.blk 3
  have HI := Lib.hid hI
  have HF := Lib.hid hF
  have hnl : (nl s.opn).length = s.opn.length := nl_length _
  clear hI hF
  by_cases he : s.err = 0
  · have t0 : (s.err != 0) = false := by simp [he]
    by_cases h4 : s.opn = []
    · obtain ⟨B, d, rfl, _, _⟩ := HI.out.opn.reads
      have c2 : w.cell? ⟨a, 2, none⟩ = some (.slice B (nl s.opn).length d) := cell_of HI.out.blk rfl
      have t1 : (((nl s.opn).length : Int) == 0) = true := by rw [hnl, h4]; rfl
      have E := Lib.hid (show s.seal = s.fail 23 by unfold WS.seal; rw [if_pos he, if_pos h4])
      clear he h4 hnl
      go_enter Try.func63, Try.ntmps63
      go_wp2_with fail
      refine bodyPost_ret (results_none rfl _ _ _) rfl ?_
      rw [E.out]
      exact ⟨rfl, turn_errV HI.out HF.out 23⟩
    · obtain ⟨k, hk⟩ : ∃ k, s.opn.length = k + 1 := ⟨s.opn.length - 1, by have := List.length_pos_iff.2 h4; omega⟩
      have hI1 := HI.out
      obtain ⟨A, c, rfl, hcap, hCA⟩ := hI1.out.reads
      obtain ⟨g, d1, e1, hd1, hCB⟩ := hI1.opn.some (by rw [nl_length]; omega)
      rw [nl_length, hk] at e1
      subst e1
      obtain ⟨x, hx⟩ : ∃ x, x = s.opn[k]'(by omega) := ⟨_, rfl⟩
      have hxl : x ≤ (bl s.out).length := by rw [bl_length]; exact hI1.ok.inn x (hx ▸ List.getElem_mem _)
      have hcell := (Kd.R_celln (0 : Int) hI1.opn (k : Int) (by omega) (by omega)).1
      rw [Int.toNat_natCast] at hcell
      have hrd : rdOf (0 : Int) (nl s.opn) (k : Int) = (x : Int) := by
        have hkl : k < s.opn.length := by omega
        unfold rdOf nl
        rw [List.getD_eq_getElem?_getD, Int.toNat_natCast, List.getElem?_map, List.getElem?_eq_getElem hkl, hx]
        rfl
      rw [hrd] at hcell
      clear hrd
      have d0 : w.cell? ⟨a, 1, none⟩ = some (.slice A (bl s.out).length c) := cell_of hI1.blk rfl
      have d2 : w.cell? ⟨a, 2, none⟩ = some (.slice (some ⟨g, 0, none⟩) (k + 1) d1) := cell_of hI1.blk rfl
      obtain ⟨A2, hA2⟩ : ∃ A2 : Option Addr, A2 = (if c = x then A else A.map (·.add x)) := ⟨_, rfl⟩
      have hcut := fun wx => cut5 A (bl s.out).length c x hxl wx
      rw [← hA2] at hcut
      have hdrop := C_drop hCA x hxl hcap
      rw [← hA2, bl_drop] at hdrop
      have hln : (bl s.out).length - x = (bl (s.out.drop x)).length := by rw [bl_length, bl_length, List.length_drop]
      rw [hln] at hcut hdrop
      have HSUM := Lib.hid (fun (n : Nat) => show Calls Try.prog 89 #[.slice A2 (bl (s.out.drop x)).length (c - x)] (w.drewN n) fun e w' => e = .returned (.int .u32 (((CrcM.sum (s.out.drop x)).toNat : Nat) : Int)) ∧ Drawn0 (w.drewN n) w' from rsum_calls A2 (c - x) (s.out.drop x) (w.drewN n) (C_only hdrop ((Only.refl w (fun _ => False)).drewN n) (fun _ _ _ h => h)) (by rw [← hln]; omega) (by have h1 := hI1.ok.len; have h2 := hI1.ok.lim; rw [List.length_drop]; unfold maxLen; omega))
      have hy := (CrcM.sum (s.out.drop x)).isLt
      obtain ⟨y, hyy⟩ : ∃ y : Nat, y = (CrcM.sum (s.out.drop x)).toNat := ⟨_, rfl⟩
      rw [← hyy] at HSUM
      have hy1 : (y : Int) < 4294967296 := by omega
      have HLC := Lib.hid (fun wx => little_calls wx 4 y (by omega) (by omega))
      have hlast : s.opn.getLastD 0 = x := by
        rw [List.getLastD_eq_getLast?, List.getLast?_eq_getElem?, hk, show k + 1 - 1 = k by omega, List.getElem?_eq_getElem (by omega), hx]
        rfl
      have hdl : s.opn.dropLast = s.opn.take k := by rw [List.dropLast_eq_take, hk, show k + 1 - 1 = k by omega]
      have HDL := Lib.hid hdl
      have hse : s.sealed = little 4 y := by unfold WS.sealed; rw [hlast, hyy]
      have hput : s.put (little 4 y) = if s.out.length + 4 ≤ s.lim then s.with_ (s.out ++ s.sealed) else s.fail 2 := by
        unfold WS.put
        rw [if_pos he, little_length, hse]
      have HK := Lib.hid hk
      have hk4 : k ≤ 4 := by have h1 := hI1.ok.nest; omega
      have t1 : (((k : Int) + 1) == 0) = false := by simp; omega
      clear hdrop hI1 hCA hCB hln hA2 hcap hd1 hlast hdl hse hyy hy hx
      have hkn : k ≤ (nl s.opn).length := by rw [nl_length]; have := HK.out; omega
      have hto := fun (B3 : Option Addr) (d3 : Nat) (hd : (nl s.opn).length ≤ d3) => cut3 B3 (nl s.opn).length d3 k hkn hd
      have HTO := Lib.hid hto
      clear hto hnl hk
      by_cases hfit : s.out.length + 4 ≤ s.lim
      · rw [if_pos hfit] at hput
        have E := Lib.hid (show s.seal = s.shut by unfold WS.seal; rw [if_pos he, if_neg h4, if_pos hfit])
        have HPUT := Lib.hid hput
        have HE0 := Lib.hid he
        clear hput hfit he h4
        go_enter Try.func63, Try.ntmps63
        go_wp2_with fail
        have hwk : IntKind.i64.wrap (k : Int) = (k : Int) := IntWalk.i64_in _ (by omega)
        go_quiet ((go_at_call 89; exact Calls.quiet_of ((HSUM.out _).mono fun _ _ ⟨h1, h2⟩ => ⟨h1, h2.out⟩)))
        clear hwk
        go_wp2_with fail
        refine (HLC.out _).mono ?_
        rintro e w1 ⟨u, rfl, hnew⟩
        have HNEW := Lib.hid hnew
        clear hnew
        go_wp2_with fail
        refine (rput_new (Turn.drewN H.out _) HNEW.out (by omega)).mono ?_
        rintro e w2 ⟨rfl, ht⟩
        rw [HPUT.out] at ht
        have HT := Lib.hid ht
        clear ht
        obtain ⟨vo3, vp3, hI3, hF3⟩ := HT.out.2
        obtain ⟨B3, d3, rfl, hd3, _⟩ := hI3.opn.reads
        have g2 : w2.cell? ⟨a, 2, none⟩ = some (.slice B3 (nl s.opn).length d3) := cell_of hI3.blk rfl
        have g3 : w2.cell? ⟨a, 3, none⟩ = some (.int .i64 s.err) := cell_of hI3.blk rfl
        have t4 : (s.err == 0) = true := by rw [HE0.out]; rfl
        have f2 := frozen_of hI3.blk 2
        have hcut2 := HTO.out B3 d3 hd3
        have HI3 := Lib.hid hI3
        have HF3 := Lib.hid hF3
        clear hI3 hF3
        go_wp2_with fail
        go_end0
        rw [E.out]
        exact ⟨rfl, HT.out.trans (pop_opnV HI3.out HF3.out k hkn HDL.out)⟩
      · rw [if_neg hfit] at hput
        have E := Lib.hid (show s.seal = s.fail 2 by unfold WS.seal; rw [if_pos he, if_neg h4, if_neg hfit])
        have HPUT := Lib.hid hput
        clear hput hfit he h4
        go_enter Try.func63, Try.ntmps63
        go_wp2_with fail
        have hwk : IntKind.i64.wrap (k : Int) = (k : Int) := IntWalk.i64_in _ (by omega)
        go_quiet ((go_at_call 89; exact Calls.quiet_of ((HSUM.out _).mono fun _ _ ⟨h1, h2⟩ => ⟨h1, h2.out⟩)))
        clear hwk
        go_wp2_with fail
        refine (HLC.out _).mono ?_
        rintro e w1 ⟨u, rfl, hnew⟩
        have HNEW := Lib.hid hnew
        clear hnew
        go_wp2_with fail
        refine (rput_new (Turn.drewN H.out _) HNEW.out (by omega)).mono ?_
        rintro e w2 ⟨rfl, ht⟩
        rw [HPUT.out] at ht
        have HT := Lib.hid ht
        clear ht
        obtain ⟨vo3, vp3, hI3, hF3⟩ := HT.out.2
        obtain ⟨B3, d3, rfl, hd3, _⟩ := hI3.opn.reads
        have g3 : w2.cell? ⟨a, 3, none⟩ = some (.int .i64 2) := cell_of hI3.blk rfl
        clear hI3 hF3
        go_wp2_with fail
        go_end0
        rw [E.out]
        exact ⟨rfl, HT.out⟩
  · have t0 : (s.err != 0) = true := by simpa using he
    have E := Lib.hid (show s.seal = s by unfold WS.seal; rw [if_neg he])
    clear he hnl
    go_enter Try.func63, Try.ntmps63
    go_wp2_with fail
    refine bodyPost_ret (results_none rfl _ _ _) rfl ?_
    rw [E.out]
    exact ⟨rfl, Turn.same H.out⟩
end Go.Proofs.Ytdmliaodacaefaa.Wr
