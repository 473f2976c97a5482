/- A reader meets what was laid (function found): the answer and the reader's state behind it, for every state and every part. By walks. -/
import Derived.Test.YtdmliaodacaefaaBurst
import Derived.Test.YtdmliaodacaefaaLay
namespace Go.Proofs.Ytdmliaodacaefaa.Gb
open Go.RowKit Go.Proofs.YtdmliaodacaefaaW.PrintWords Go.Proofs.YtdmliaodacaefaaW.PrintLast Go.Proofs.YtdmliaodacaefaaW.PrintMore Go.Proofs.Ytdmliaodacaefaa.Mem Go.Proofs.Ytdmliaodacaefaa.Sep Go.Proofs.Ytdmliaodacaefaa.Bridge Go.Proofs.Ytdmliaodacaefaa.Wr Go.Proofs.Ytdmliaodacaefaa.Ops Go.Proofs.Ytdmliaodacaefaa.Rd
set_option linter.unusedVariables false
set_option linter.unusedSimpArgs false

theorem found1 {w : World} {F : Blks} (a : Nat) (s : RS) (two : Bool) (n : Int) (A : Option Addr) (m c : Nat) (h : (rd 76 a s).on w F) (hn : -9223372036854775808 ≤ n ∧ n ≤ 9223372036854775807) (hv : wrap64 (s.takeV 1 : Nat) = n % 256) :
    Calls Try.prog 34 #[.pointer (some ⟨a, 0, none⟩), .agg #[.bool two, .int .i64 1, .int .i64 n, .slice A m c]] w fun e w' => e = .returned (.bool true) ∧ Turn w w' F (rd 76 a (s.takeS 1)) := by
  have T0 := Lib.hid (Turn.boxed (l := [rd 76 a s]) (Turn.alone h) (.cells #[.bool two, .int .i64 1, .int .i64 n, .slice A m c] 29))
  have HN := Lib.hid hn
  have HV := Lib.hid hv
  have HFIT := Lib.hid (fun wx => fit_calls two 1 n (.slice A m c) wx rfl hn)
  have hf : fitV 1 n = n % 256 := rfl
  rw [hf] at HFIT
  clear hf
  clear h hn hv
  go_enter Try.func34, Try.ntmps34
  go_wp2_with fail
  obtain ⟨F1, h1, _, k1⟩ := Turn.pick (l := [rd 76 a s, box w.heap.size (.cells #[.bool two, .int .i64 1, .int .i64 n, .slice A m c] 29)]) T0.out 0 (by simp)
  have H1 := Lib.hid h1
  have K1 := Lib.hid k1
  clear h1 k1
  have cw : IntKind.u32.wrap (n % 4294967296) = n % 4294967296 := by rw [IntKind.wrap_u32']; omega
  go_region_with (first | (go_at_call 37; refine (u8_calls a s (on_drew H1.out)).mono ?_; rintro e w1 ⟨rfl, ht⟩; rw [HV.out]; have T1 : Hid (Turn w w1 F (all [rd 76 a (s.takeS 1), box w.heap.size (.cells #[.bool two, .int .i64 1, .int .i64 n, .slice A m c] 29)])) := Lib.hid (K1.out _ _ (Turn.after_below (below_drew (Below.refl _ _)) ht)); clear ht; have hb1 := Turn.heap T1.out 1 (by simp) rfl; (have b0 : w1.cell? ⟨w.heap.size, 0, none⟩ = some (.bool two) := cell_of hb1 rfl); (have b1 : w1.cell? ⟨w.heap.size, 1, none⟩ = some (.int .i64 1) := cell_of hb1 rfl); (have b2 : w1.cell? ⟨w.heap.size, 2, none⟩ = some (.int .i64 n) := cell_of hb1 rfl); (have b3 : w1.cell? ⟨w.heap.size, 3, none⟩ = some (.slice A m c) := cell_of hb1 rfl); clear hb1) | (go_at_call 47; refine (HFIT.out _).mono ?_; rintro e w2 ⟨rfl, hb⟩; have T2 : Hid (Turn w w2 F (all ([rd 76 a (s.takeS 1)] ++ [box w.heap.size (.cells #[.bool two, .int .i64 1, .int .i64 n, .slice A m c] 29)]))) := Lib.hid (T1.out.then_below hb); clear hb))
  all_goals
    go_wp2_with fail
    go_ret
    exact ⟨rfl, Turn.only_one T2.out.unbox⟩
theorem found2 {w : World} {F : Blks} (a : Nat) (s : RS) (two : Bool) (n : Int) (A : Option Addr) (m c : Nat) (h : (rd 76 a s).on w F) (hn : -9223372036854775808 ≤ n ∧ n ≤ 9223372036854775807) (hv : wrap64 (s.takeV 2 : Nat) = n % 65536) :
    Calls Try.prog 34 #[.pointer (some ⟨a, 0, none⟩), .agg #[.bool two, .int .i64 2, .int .i64 n, .slice A m c]] w fun e w' => e = .returned (.bool true) ∧ Turn w w' F (rd 76 a (s.takeS 2)) := by
  have T0 := Lib.hid (Turn.boxed (l := [rd 76 a s]) (Turn.alone h) (.cells #[.bool two, .int .i64 2, .int .i64 n, .slice A m c] 29))
  have HN := Lib.hid hn
  have HV := Lib.hid hv
  have HFIT := Lib.hid (fun wx => fit_calls two 2 n (.slice A m c) wx rfl hn)
  have hf : fitV 2 n = n % 65536 := rfl
  rw [hf] at HFIT
  clear hf
  clear h hn hv
  go_enter Try.func34, Try.ntmps34
  go_wp2_with fail
  obtain ⟨F1, h1, _, k1⟩ := Turn.pick (l := [rd 76 a s, box w.heap.size (.cells #[.bool two, .int .i64 2, .int .i64 n, .slice A m c] 29)]) T0.out 0 (by simp)
  have H1 := Lib.hid h1
  have K1 := Lib.hid k1
  clear h1 k1
  have cw : IntKind.u32.wrap (n % 4294967296) = n % 4294967296 := by rw [IntKind.wrap_u32']; omega
  go_region_with (first | (go_at_call 38; refine (u16_calls a s (on_drew H1.out)).mono ?_; rintro e w1 ⟨rfl, ht⟩; rw [HV.out]; have T1 : Hid (Turn w w1 F (all [rd 76 a (s.takeS 2), box w.heap.size (.cells #[.bool two, .int .i64 2, .int .i64 n, .slice A m c] 29)])) := Lib.hid (K1.out _ _ (Turn.after_below (below_drew (Below.refl _ _)) ht)); clear ht; have hb1 := Turn.heap T1.out 1 (by simp) rfl; (have b0 : w1.cell? ⟨w.heap.size, 0, none⟩ = some (.bool two) := cell_of hb1 rfl); (have b1 : w1.cell? ⟨w.heap.size, 1, none⟩ = some (.int .i64 2) := cell_of hb1 rfl); (have b2 : w1.cell? ⟨w.heap.size, 2, none⟩ = some (.int .i64 n) := cell_of hb1 rfl); (have b3 : w1.cell? ⟨w.heap.size, 3, none⟩ = some (.slice A m c) := cell_of hb1 rfl); clear hb1) | (go_at_call 47; refine (HFIT.out _).mono ?_; rintro e w2 ⟨rfl, hb⟩; have T2 : Hid (Turn w w2 F (all ([rd 76 a (s.takeS 2)] ++ [box w.heap.size (.cells #[.bool two, .int .i64 2, .int .i64 n, .slice A m c] 29)]))) := Lib.hid (T1.out.then_below hb); clear hb))
  all_goals
    go_wp2_with fail
    go_ret
    exact ⟨rfl, Turn.only_one T2.out.unbox⟩
theorem found3 {w : World} {F : Blks} (a : Nat) (s : RS) (two : Bool) (n : Int) (A : Option Addr) (m c : Nat) (h : (rd 76 a s).on w F) (hn : -9223372036854775808 ≤ n ∧ n ≤ 9223372036854775807) (hv : ((s.takeV 4 : Nat) % 4294967296 : Int) = n % 4294967296) :
    Calls Try.prog 34 #[.pointer (some ⟨a, 0, none⟩), .agg #[.bool two, .int .i64 3, .int .i64 n, .slice A m c]] w fun e w' => e = .returned (.bool true) ∧ Turn w w' F (rd 76 a (s.takeS 4)) := by
  have T0 := Lib.hid (Turn.boxed (l := [rd 76 a s]) (Turn.alone h) (.cells #[.bool two, .int .i64 3, .int .i64 n, .slice A m c] 29))
  have HN := Lib.hid hn
  have HV := Lib.hid hv
  have HFIT := Lib.hid (fun wx => fit_calls two 3 n (.slice A m c) wx rfl hn)
  have hf : fitV 3 n = n % 4294967296 := rfl
  rw [hf] at HFIT
  clear hf
  clear h hn hv
  go_enter Try.func34, Try.ntmps34
  go_wp2_with fail
  obtain ⟨F1, h1, _, k1⟩ := Turn.pick (l := [rd 76 a s, box w.heap.size (.cells #[.bool two, .int .i64 3, .int .i64 n, .slice A m c] 29)]) T0.out 0 (by simp)
  have H1 := Lib.hid h1
  have K1 := Lib.hid k1
  clear h1 k1
  have cw : IntKind.u32.wrap (n % 4294967296) = n % 4294967296 := by rw [IntKind.wrap_u32']; omega
  go_region_with (first | (go_at_call 39; refine (u32_calls a s (on_drew H1.out)).mono ?_; rintro e w1 ⟨rfl, ht⟩; rw [HV.out]; have T1 : Hid (Turn w w1 F (all [rd 76 a (s.takeS 4), box w.heap.size (.cells #[.bool two, .int .i64 3, .int .i64 n, .slice A m c] 29)])) := Lib.hid (K1.out _ _ (Turn.after_below (below_drew (Below.refl _ _)) ht)); clear ht; have hb1 := Turn.heap T1.out 1 (by simp) rfl; (have b0 : w1.cell? ⟨w.heap.size, 0, none⟩ = some (.bool two) := cell_of hb1 rfl); (have b1 : w1.cell? ⟨w.heap.size, 1, none⟩ = some (.int .i64 3) := cell_of hb1 rfl); (have b2 : w1.cell? ⟨w.heap.size, 2, none⟩ = some (.int .i64 n) := cell_of hb1 rfl); (have b3 : w1.cell? ⟨w.heap.size, 3, none⟩ = some (.slice A m c) := cell_of hb1 rfl); clear hb1) | (go_at_call 47; refine (HFIT.out _).mono ?_; rintro e w2 ⟨rfl, hb⟩; have T2 : Hid (Turn w w2 F (all ([rd 76 a (s.takeS 4)] ++ [box w.heap.size (.cells #[.bool two, .int .i64 3, .int .i64 n, .slice A m c] 29)]))) := Lib.hid (T1.out.then_below hb); clear hb))
  all_goals
    go_wp2_with fail
    go_ret
    exact ⟨rfl, Turn.only_one T2.out.unbox⟩
theorem found4 {w : World} {F : Blks} (a : Nat) (s : RS) (two : Bool) (n : Int) (A : Option Addr) (m c : Nat) (h : (rd 76 a s).on w F) (hn : -9223372036854775808 ≤ n ∧ n ≤ 9223372036854775807) (hv : wrap64 (s.takeV 8 : Nat) = n) :
    Calls Try.prog 34 #[.pointer (some ⟨a, 0, none⟩), .agg #[.bool two, .int .i64 4, .int .i64 n, .slice A m c]] w fun e w' => e = .returned (.bool true) ∧ Turn w w' F (rd 76 a (s.takeS 8)) := by
  have T0 := Lib.hid (Turn.boxed (l := [rd 76 a s]) (Turn.alone h) (.cells #[.bool two, .int .i64 4, .int .i64 n, .slice A m c] 29))
  have HN := Lib.hid hn
  have HV := Lib.hid hv
  have HFIT := Lib.hid (fun wx => fit_calls two 4 n (.slice A m c) wx rfl hn)
  have hf : fitV 4 n = n := rfl
  rw [hf] at HFIT
  clear hf
  clear h hn hv
  go_enter Try.func34, Try.ntmps34
  go_wp2_with fail
  obtain ⟨F1, h1, _, k1⟩ := Turn.pick (l := [rd 76 a s, box w.heap.size (.cells #[.bool two, .int .i64 4, .int .i64 n, .slice A m c] 29)]) T0.out 0 (by simp)
  have H1 := Lib.hid h1
  have K1 := Lib.hid k1
  clear h1 k1
  have cw : IntKind.u32.wrap (n % 4294967296) = n % 4294967296 := by rw [IntKind.wrap_u32']; omega
  go_region_with (first | (go_at_call 40; refine (u64_calls a s (on_drew H1.out)).mono ?_; rintro e w1 ⟨rfl, ht⟩; rw [HV.out]; have T1 : Hid (Turn w w1 F (all [rd 76 a (s.takeS 8), box w.heap.size (.cells #[.bool two, .int .i64 4, .int .i64 n, .slice A m c] 29)])) := Lib.hid (K1.out _ _ (Turn.after_below (below_drew (Below.refl _ _)) ht)); clear ht; have hb1 := Turn.heap T1.out 1 (by simp) rfl; (have b0 : w1.cell? ⟨w.heap.size, 0, none⟩ = some (.bool two) := cell_of hb1 rfl); (have b1 : w1.cell? ⟨w.heap.size, 1, none⟩ = some (.int .i64 4) := cell_of hb1 rfl); (have b2 : w1.cell? ⟨w.heap.size, 2, none⟩ = some (.int .i64 n) := cell_of hb1 rfl); (have b3 : w1.cell? ⟨w.heap.size, 3, none⟩ = some (.slice A m c) := cell_of hb1 rfl); clear hb1) | (go_at_call 47; refine (HFIT.out _).mono ?_; rintro e w2 ⟨rfl, hb⟩; have T2 : Hid (Turn w w2 F (all ([rd 76 a (s.takeS 8)] ++ [box w.heap.size (.cells #[.bool two, .int .i64 4, .int .i64 n, .slice A m c] 29)]))) := Lib.hid (T1.out.then_below hb); clear hb))
  all_goals
    go_wp2_with fail
    go_ret
    exact ⟨rfl, Turn.only_one T2.out.unbox⟩
set_option maxHeartbeats 2000000 in
theorem found5 {w : World} {F : Blks} (a : Nat) (s : RS) (two : Bool) (n : Int) (A : Option Addr) (c : Nat) (l : List UInt8) (h : (rd 76 a s).on w F) (hr : Kd.C (Kd.int .u8) w A (bl l).length (bl l)) (hc : (bl l).length ≤ c) (hA : 0 < (bl l).length → ∀ x, A = some x → ¬ F x.block) (hv : s.blockL ((bl l).length : Int) = l) :
    Calls Try.prog 34 #[.pointer (some ⟨a, 0, none⟩), .agg #[.bool two, .int .i64 5, .int .i64 n, .slice A (bl l).length c]] w fun e w' => e = .returned (.bool true) ∧ Turn w w' F (rd 76 a (s.takeS ((bl l).length : Int))) := by
  have T0 := Lib.hid (Turn.boxed (l := [rd 76 a s]) (Turn.alone h) (.cells #[.bool two, .int .i64 5, .int .i64 n, .slice A (bl l).length c] 29))
  have HR := Lib.hid hr
  have HA := Lib.hid hA
  have HV := Lib.hid hv
  clear h hr hA hv
  go_enter Try.func34, Try.ntmps34
  go_wp2_with fail
  obtain ⟨F1, h1, _, k1⟩ := Turn.pick (l := [rd 76 a s, box w.heap.size (.cells #[.bool two, .int .i64 5, .int .i64 n, .slice A (bl l).length c] 29)]) T0.out 0 (by simp)
  have H1 := Lib.hid h1
  have K1 := Lib.hid k1
  clear h1 k1
  have hb0 := Turn.heap (l := [rd 76 a s, box w.heap.size (.cells #[.bool two, .int .i64 5, .int .i64 n, .slice A (bl l).length c] 29)]) T0.out 1 (by simp) rfl
  have b3 : (w.alloc (.cells #[.bool two, .int .i64 5, .int .i64 n, .slice A (bl l).length c] 29)).cell? ⟨w.heap.size, 3, none⟩ = some (.slice A (bl l).length c) := cell_of hb0 rfl
  clear hb0
  go_region_with (first | (go_at_call 35; refine (Rd.block_calls a s ((bl l).length : Int) (on_drew H1.out)).mono ?_; rintro e w1 ⟨v1, rfl, ht⟩; rw [HV.out] at ht; have T1 : Hid (Turn w w1 F (all [all [rd 76 a (s.takeS ((bl l).length : Int)), row 5 .u8 v1 (bl l)], box w.heap.size (.cells #[.bool two, .int .i64 5, .int .i64 n, .slice A (bl l).length c] 29)])) := Lib.hid (K1.out _ _ (Turn.after_below (below_drew (Below.refl _ _)) ht)); clear ht; have hb1 := Turn.heap T1.out 1 (by simp) rfl; (have b3 : w1.cell? ⟨w.heap.size, 3, none⟩ = some (.slice A (bl l).length c) := cell_of hb1 rfl); obtain ⟨G1, g1, _⟩ := All.at_ (show All _ w1 _ from T1.out.2) 0 (by simp); obtain ⟨G1', g1'⟩ := on_second (show (all [rd 76 a (s.takeS ((bl l).length : Int)), row 5 .u8 v1 (bl l)]).on w1 G1 from g1); obtain ⟨A1, c1, e1, hc1, hC1, _⟩ := row_C g1'; subst e1; have HS := Lib.hid (same_calls A1 c1 w1 A c (bl l) (bl l) hC1 hc1 (C_only HR.out T1.out.1 HA.out) hc rfl); have T3 := Lib.hid (Turn.told (l := [_, _]) (P := rd 76 a (s.takeS ((bl l).length : Int))) T1.out 0 (by simp) (fun G h => on_first h)); clear hb1 g1 g1' hC1) | (go_at_call 19; refine HS.out.mono ?_; rintro e w3 ⟨rfl, hd⟩; have T5 : Hid (Turn w w3 F (all ([rd 76 a (s.takeS ((bl l).length : Int))] ++ [box w.heap.size (.cells #[.bool two, .int .i64 5, .int .i64 n, .slice A (bl l).length c] 29)]))) := Lib.hid (T3.out.then_drawn hd); clear hd))
  all_goals
    go_wp2_with fail
    go_ret
    exact ⟨rfl, Turn.only_one T5.out.unbox⟩
set_option maxHeartbeats 2000000 in
theorem found6 {w : World} {F : Blks} (a : Nat) (s : RS) (two : Bool) (n : Int) (A : Option Addr) (c : Nat) (l : List UInt8) (h : (rd 76 a s).on w F) (hr : Kd.C (Kd.int .u8) w A (bl l).length (bl l)) (hc : (bl l).length ≤ c) (hA : 0 < (bl l).length → ∀ x, A = some x → ¬ F x.block) (hv : s.sealedL ((bl l).length : Int) = l) :
    Calls Try.prog 34 #[.pointer (some ⟨a, 0, none⟩), .agg #[.bool two, .int .i64 6, .int .i64 n, .slice A (bl l).length c]] w fun e w' => e = .returned (.bool true) ∧ Turn w w' F (rd 76 a (s.sealedS ((bl l).length : Int))) := by
  have T0 := Lib.hid (Turn.boxed (l := [rd 76 a s]) (Turn.alone h) (.cells #[.bool two, .int .i64 6, .int .i64 n, .slice A (bl l).length c] 29))
  have HR := Lib.hid hr
  have HA := Lib.hid hA
  have HV := Lib.hid hv
  clear h hr hA hv
  go_enter Try.func34, Try.ntmps34
  go_wp2_with fail
  obtain ⟨F1, h1, _, k1⟩ := Turn.pick (l := [rd 76 a s, box w.heap.size (.cells #[.bool two, .int .i64 6, .int .i64 n, .slice A (bl l).length c] 29)]) T0.out 0 (by simp)
  have H1 := Lib.hid h1
  have K1 := Lib.hid k1
  clear h1 k1
  have hb0 := Turn.heap (l := [rd 76 a s, box w.heap.size (.cells #[.bool two, .int .i64 6, .int .i64 n, .slice A (bl l).length c] 29)]) T0.out 1 (by simp) rfl
  have b3 : (w.alloc (.cells #[.bool two, .int .i64 6, .int .i64 n, .slice A (bl l).length c] 29)).cell? ⟨w.heap.size, 3, none⟩ = some (.slice A (bl l).length c) := cell_of hb0 rfl
  clear hb0
  go_region_with (first | (go_at_call 26; refine (sealed_calls a s ((bl l).length : Int) (on_drew H1.out)).mono ?_; rintro e w1 ⟨v1, rfl, ht⟩; rw [HV.out] at ht; have T1 : Hid (Turn w w1 F (all [all [rd 76 a (s.sealedS ((bl l).length : Int)), row 5 .u8 v1 (bl l)], box w.heap.size (.cells #[.bool two, .int .i64 6, .int .i64 n, .slice A (bl l).length c] 29)])) := Lib.hid (K1.out _ _ (Turn.after_below (below_drew (Below.refl _ _)) ht)); clear ht; have hb1 := Turn.heap T1.out 1 (by simp) rfl; (have b3 : w1.cell? ⟨w.heap.size, 3, none⟩ = some (.slice A (bl l).length c) := cell_of hb1 rfl); obtain ⟨G1, g1, _⟩ := All.at_ (show All _ w1 _ from T1.out.2) 0 (by simp); obtain ⟨G1', g1'⟩ := on_second (show (all [rd 76 a (s.sealedS ((bl l).length : Int)), row 5 .u8 v1 (bl l)]).on w1 G1 from g1); obtain ⟨A1, c1, e1, hc1, hC1, _⟩ := row_C g1'; subst e1; have HS := Lib.hid (same_calls A1 c1 w1 A c (bl l) (bl l) hC1 hc1 (C_only HR.out T1.out.1 HA.out) hc rfl); have T3 := Lib.hid (Turn.told (l := [_, _]) (P := rd 76 a (s.sealedS ((bl l).length : Int))) T1.out 0 (by simp) (fun G h => on_first h)); clear hb1 g1 g1' hC1) | (go_at_call 19; refine HS.out.mono ?_; rintro e w3 ⟨rfl, hd⟩; have T5 : Hid (Turn w w3 F (all ([rd 76 a (s.sealedS ((bl l).length : Int))] ++ [box w.heap.size (.cells #[.bool two, .int .i64 6, .int .i64 n, .slice A (bl l).length c] 29)]))) := Lib.hid (T3.out.then_drawn hd); clear hd))
  all_goals
    go_wp2_with fail
    go_ret
    exact ⟨rfl, Turn.only_one T5.out.unbox⟩
theorem found_no {w : World} {F : Blks} (a : Nat) (s : RS) (two : Bool) (kind n : Int) (A : Option Addr) (m c : Nat) (h : (rd 76 a s).on w F) (hk : kind < 1 ∨ 6 < kind) :
    Calls Try.prog 34 #[.pointer (some ⟨a, 0, none⟩), .agg #[.bool two, .int .i64 kind, .int .i64 n, .slice A m c]] w fun e w' => e = .returned (.bool true) ∧ Turn w w' F (rd 76 a s) := by
  have T0 := Lib.hid (Turn.boxed (l := [rd 76 a s]) (Turn.alone h) (.cells #[.bool two, .int .i64 kind, .int .i64 n, .slice A m c] 29))
  have k1 : (kind == 1) = false := by simp; omega
  have k2 : (kind == 2) = false := by simp; omega
  have k3 : (kind == 3) = false := by simp; omega
  have k4 : (kind == 4) = false := by simp; omega
  have k5 : (kind == 5) = false := by simp; omega
  have k6 : (kind == 6) = false := by simp; omega
  clear h hk
  go_enter Try.func34, Try.ntmps34
  go_wp2_with fail
  go_ret
  exact ⟨rfl, Turn.only_one T0.out.unbox⟩
end Go.Proofs.Ytdmliaodacaefaa.Gb
