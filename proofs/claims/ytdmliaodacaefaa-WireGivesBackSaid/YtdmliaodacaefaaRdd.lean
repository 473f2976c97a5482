/- One step on a reader and the reference's beside it (function reads), and all that can be asked (done): for every step and every state. By walks. -/
import Derived.Test.YtdmliaodacaefaaRds
namespace Go.Proofs.Ytdmliaodacaefaa.Rd
open Go.RowKit Go.Proofs.YtdmliaodacaefaaW.PrintWords Go.Proofs.YtdmliaodacaefaaW.PrintLast Go.Proofs.YtdmliaodacaefaaW.PrintMore Go.Proofs.Ytdmliaodacaefaa.Mem Go.Proofs.Ytdmliaodacaefaa.Sep Go.Proofs.Ytdmliaodacaefaa.Bridge Go.Proofs.Ytdmliaodacaefaa.Wr
set_option linter.unusedVariables false
set_option linter.unusedSimpArgs false
/-- one of several is told otherwise. -/
theorem _root_.Go.Proofs.Ytdmliaodacaefaa.Wr.Turn.told {w w1 : World} {F : Blks} {l : List Asr} {P : Asr} (ht : Turn w w1 F (all l)) (i : Nat) (hi : i < l.length) (hP : ∀ G, l[i].on w1 G → P.on w1 G) : Turn w w1 F (all (l.set i P)) :=
  ⟨ht.1, All.turn (show All l w1 (Later w F) from ht.2) i hi hP⟩
theorem on_first {w : World} {P Q : Asr} {G : Blks} (h : (all [P, Q]).on w G) : P.on w G := by
  obtain ⟨F1, h1, h2⟩ := All.at_ (show All [P, Q] w G from h) 0 (by simp)
  exact P.up h1 h2
theorem on_second {w : World} {P Q : Asr} {G : Blks} (h : (all [P, Q]).on w G) : ∃ F1, Q.on w F1 := by
  obtain ⟨F1, h1, h2⟩ := All.at_ (show All [P, Q] w G from h) 1 (by simp)
  exact ⟨F1, h1⟩
def duo (a r : Nat) (s : RS) : Asr := all [rd 76 a s, rd 78 r s]
/-- a step's own state. -/
def RS.step (s : RS) (kind n : Int) : RS :=
  if kind = 1 then s.takeS 1 else if kind = 2 then s.takeS 2 else if kind = 3 then s.takeS 4 else if kind = 4 then s.takeS 8 else if kind = 5 then s.takeS n else if kind = 6 then s.sealedS n else s
theorem reads1 {w : World} {F : Blks} (a r : Nat) (s : RS) (two : Bool) (n : Int) (A : Option Addr) (m c : Nat) (h : (duo a r s).on w F) (hn : -9223372036854775808 ≤ n ∧ n ≤ 9223372036854775807) :
    Calls Try.prog 20 #[.pointer (some ⟨a, 0, none⟩), .pointer (some ⟨r, 0, none⟩), .agg #[.bool two, .int .i64 1, .int .i64 n, .slice A m c]] w fun e w' => e = .returned (.bool true) ∧ Turn w w' F (duo a r (s.takeS 1)) := by
  have T0 := Lib.hid (Turn.boxed h (.cells #[.bool two, .int .i64 1, .int .i64 n, .slice A m c] 29))
  clear h hn
  go_enter Try.func20, Try.ntmps20
  go_wp2_with fail
  obtain ⟨F1, h1, _, k1⟩ := Turn.pick T0.out 0 (by simp)
  refine (u8_calls a s h1).mono ?_
  rintro e w1 ⟨rfl, ht⟩
  have T1 : Hid (Turn w w1 F (all [rd 76 a (s.takeS 1), rd 78 r s, box w.heap.size (.cells #[.bool two, .int .i64 1, .int .i64 n, .slice A m c] 29)])) := Lib.hid (k1 _ _ ht)
  clear k1 h1 ht
  go_wp2_with fail
  obtain ⟨F2, h2, _, k2⟩ := Turn.pick T1.out 1 (by simp)
  refine (ru8_calls r s h2).mono ?_
  rintro e w2 ⟨rfl, ht⟩
  have T2 : Hid (Turn w w2 F (all ([rd 76 a (s.takeS 1), rd 78 r (s.takeS 1)] ++ [box w.heap.size (.cells #[.bool two, .int .i64 1, .int .i64 n, .slice A m c] 29)]))) := Lib.hid (k2 _ _ ht)
  clear k2 h2 ht
  go_wp2_with fail
  go_ret
  exact ⟨by simp, T2.out.unbox⟩
theorem reads2 {w : World} {F : Blks} (a r : Nat) (s : RS) (two : Bool) (n : Int) (A : Option Addr) (m c : Nat) (h : (duo a r s).on w F) (hn : -9223372036854775808 ≤ n ∧ n ≤ 9223372036854775807) :
    Calls Try.prog 20 #[.pointer (some ⟨a, 0, none⟩), .pointer (some ⟨r, 0, none⟩), .agg #[.bool two, .int .i64 2, .int .i64 n, .slice A m c]] w fun e w' => e = .returned (.bool true) ∧ Turn w w' F (duo a r (s.takeS 2)) := by
  have T0 := Lib.hid (Turn.boxed h (.cells #[.bool two, .int .i64 2, .int .i64 n, .slice A m c] 29))
  clear h hn
  go_enter Try.func20, Try.ntmps20
  go_wp2_with fail
  obtain ⟨F1, h1, _, k1⟩ := Turn.pick T0.out 0 (by simp)
  refine (u16_calls a s h1).mono ?_
  rintro e w1 ⟨rfl, ht⟩
  have T1 : Hid (Turn w w1 F (all [rd 76 a (s.takeS 2), rd 78 r s, box w.heap.size (.cells #[.bool two, .int .i64 2, .int .i64 n, .slice A m c] 29)])) := Lib.hid (k1 _ _ ht)
  clear k1 h1 ht
  go_wp2_with fail
  obtain ⟨F2, h2, _, k2⟩ := Turn.pick T1.out 1 (by simp)
  refine (ru16_calls r s h2).mono ?_
  rintro e w2 ⟨rfl, ht⟩
  have T2 : Hid (Turn w w2 F (all ([rd 76 a (s.takeS 2), rd 78 r (s.takeS 2)] ++ [box w.heap.size (.cells #[.bool two, .int .i64 2, .int .i64 n, .slice A m c] 29)]))) := Lib.hid (k2 _ _ ht)
  clear k2 h2 ht
  go_wp2_with fail
  go_ret
  exact ⟨by simp, T2.out.unbox⟩
theorem reads3 {w : World} {F : Blks} (a r : Nat) (s : RS) (two : Bool) (n : Int) (A : Option Addr) (m c : Nat) (h : (duo a r s).on w F) (hn : -9223372036854775808 ≤ n ∧ n ≤ 9223372036854775807) :
    Calls Try.prog 20 #[.pointer (some ⟨a, 0, none⟩), .pointer (some ⟨r, 0, none⟩), .agg #[.bool two, .int .i64 3, .int .i64 n, .slice A m c]] w fun e w' => e = .returned (.bool true) ∧ Turn w w' F (duo a r (s.takeS 4)) := by
  have T0 := Lib.hid (Turn.boxed h (.cells #[.bool two, .int .i64 3, .int .i64 n, .slice A m c] 29))
  clear h hn
  go_enter Try.func20, Try.ntmps20
  go_wp2_with fail
  obtain ⟨F1, h1, _, k1⟩ := Turn.pick T0.out 0 (by simp)
  refine (u32_calls a s h1).mono ?_
  rintro e w1 ⟨rfl, ht⟩
  have T1 : Hid (Turn w w1 F (all [rd 76 a (s.takeS 4), rd 78 r s, box w.heap.size (.cells #[.bool two, .int .i64 3, .int .i64 n, .slice A m c] 29)])) := Lib.hid (k1 _ _ ht)
  clear k1 h1 ht
  go_wp2_with fail
  obtain ⟨F2, h2, _, k2⟩ := Turn.pick T1.out 1 (by simp)
  refine (ru32_calls r s h2).mono ?_
  rintro e w2 ⟨rfl, ht⟩
  have T2 : Hid (Turn w w2 F (all ([rd 76 a (s.takeS 4), rd 78 r (s.takeS 4)] ++ [box w.heap.size (.cells #[.bool two, .int .i64 3, .int .i64 n, .slice A m c] 29)]))) := Lib.hid (k2 _ _ ht)
  clear k2 h2 ht
  go_wp2_with fail
  go_ret
  exact ⟨by simp, T2.out.unbox⟩
theorem reads4 {w : World} {F : Blks} (a r : Nat) (s : RS) (two : Bool) (n : Int) (A : Option Addr) (m c : Nat) (h : (duo a r s).on w F) (hn : -9223372036854775808 ≤ n ∧ n ≤ 9223372036854775807) :
    Calls Try.prog 20 #[.pointer (some ⟨a, 0, none⟩), .pointer (some ⟨r, 0, none⟩), .agg #[.bool two, .int .i64 4, .int .i64 n, .slice A m c]] w fun e w' => e = .returned (.bool true) ∧ Turn w w' F (duo a r (s.takeS 8)) := by
  have T0 := Lib.hid (Turn.boxed h (.cells #[.bool two, .int .i64 4, .int .i64 n, .slice A m c] 29))
  clear h hn
  go_enter Try.func20, Try.ntmps20
  go_wp2_with fail
  obtain ⟨F1, h1, _, k1⟩ := Turn.pick T0.out 0 (by simp)
  refine (u64_calls a s h1).mono ?_
  rintro e w1 ⟨rfl, ht⟩
  have T1 : Hid (Turn w w1 F (all [rd 76 a (s.takeS 8), rd 78 r s, box w.heap.size (.cells #[.bool two, .int .i64 4, .int .i64 n, .slice A m c] 29)])) := Lib.hid (k1 _ _ ht)
  clear k1 h1 ht
  go_wp2_with fail
  obtain ⟨F2, h2, _, k2⟩ := Turn.pick T1.out 1 (by simp)
  refine (ru64_calls r s h2).mono ?_
  rintro e w2 ⟨rfl, ht⟩
  have T2 : Hid (Turn w w2 F (all ([rd 76 a (s.takeS 8), rd 78 r (s.takeS 8)] ++ [box w.heap.size (.cells #[.bool two, .int .i64 4, .int .i64 n, .slice A m c] 29)]))) := Lib.hid (k2 _ _ ht)
  clear k2 h2 ht
  go_wp2_with fail
  go_ret
  exact ⟨by simp, T2.out.unbox⟩
theorem on_drew {w : World} {P : Asr} {F : Blks} (h : P.on w F) : P.on w.drew F := P.keep h (fun _ _ _ => rfl)
set_option maxHeartbeats 2000000 in
theorem reads5 {w : World} {F : Blks} (a r : Nat) (s : RS) (two : Bool) (n : Int) (A : Option Addr) (m c : Nat) (h : (duo a r s).on w F) (hn : -9223372036854775808 ≤ n ∧ n ≤ 9223372036854775807) :
    Calls Try.prog 20 #[.pointer (some ⟨a, 0, none⟩), .pointer (some ⟨r, 0, none⟩), .agg #[.bool two, .int .i64 5, .int .i64 n, .slice A m c]] w fun e w' => e = .returned (.bool true) ∧ Turn w w' F (duo a r (s.takeS n)) := by
  have T0 := Lib.hid (Turn.boxed h (.cells #[.bool two, .int .i64 5, .int .i64 n, .slice A m c] 29))
  have HN := Lib.hid hn
  clear h hn
  go_enter Try.func20, Try.ntmps20
  go_wp2_with fail
  obtain ⟨F1, h1, _, k1⟩ := Turn.pick T0.out 0 (by simp)
  have H1 := Lib.hid h1
  have K1 := Lib.hid k1
  have hb0 := Turn.heap T0.out 2 (by simp) rfl
  have b0 : (w.alloc (.cells #[.bool two, .int .i64 5, .int .i64 n, .slice A m c] 29)).cell? ⟨w.heap.size, 2, none⟩ = some (.int .i64 n) := cell_of hb0 rfl
  clear h1 k1 hb0
  go_region_with (first | (go_at_call 35; refine (block_calls a s n (on_drew H1.out)).mono ?_; rintro e w1 ⟨v1, rfl, ht⟩; have T1 : Hid (Turn w w1 F (all [all [rd 76 a (s.takeS n), row 5 .u8 v1 (bl (s.blockL n))], rd 78 r s, box w.heap.size (.cells #[.bool two, .int .i64 5, .int .i64 n, .slice A m c] 29)])) := Lib.hid (K1.out _ _ (Turn.after_below (below_drew (Below.refl _ _)) ht)); clear ht; have hb1 := Turn.heap T1.out 2 (by simp) rfl; (have b1 : w1.cell? ⟨w.heap.size, 2, none⟩ = some (.int .i64 n) := cell_of hb1 rfl); obtain ⟨F2, h2, _, k2⟩ := Turn.pick T1.out 1 (by simp); have H2 := Lib.hid h2; have K2 := Lib.hid k2; clear hb1 h2 k2) | (go_at_call 72; refine (rblock_calls r s n H2.out).mono ?_; rintro e w2 ⟨v2, rfl, ht⟩; have T2 : Hid (Turn w w2 F (all [all [rd 76 a (s.takeS n), row 5 .u8 v1 (bl (s.blockL n))], all [rd 78 r (s.takeS n), row 5 .u8 v2 (bl (s.blockL n))], box w.heap.size (.cells #[.bool two, .int .i64 5, .int .i64 n, .slice A m c] 29)])) := Lib.hid (K2.out _ _ ht); clear ht; obtain ⟨G1, g1, _⟩ := All.at_ (show All _ w2 _ from T2.out.2) 0 (by simp); obtain ⟨G1', g1'⟩ := on_second (show (all [rd 76 a (s.takeS n), row 5 .u8 v1 (bl (s.blockL n))]).on w2 G1 from g1); obtain ⟨A1, c1, e1, hc1, hC1, _⟩ := row_C g1'; obtain ⟨G2, g2, _⟩ := All.at_ (show All _ w2 _ from T2.out.2) 1 (by simp); obtain ⟨G2', g2'⟩ := on_second (show (all [rd 78 r (s.takeS n), row 5 .u8 v2 (bl (s.blockL n))]).on w2 G2 from g2); obtain ⟨A2, c2, e2, hc2, hC2, _⟩ := row_C g2'; subst e1; subst e2; have HS := Lib.hid (same_calls A1 c1 w2 A2 c2 (bl (s.blockL n)) (bl (s.blockL n)) hC1 hc1 hC2 hc2 rfl); have T3 := Lib.hid (Turn.told (l := [_, _, _]) (P := rd 76 a (s.takeS n)) T2.out 0 (by simp) (fun G h => on_first h)); have T4 := Lib.hid (Turn.told (l := [_, _, _]) (P := rd 78 r (s.takeS n)) T3.out 1 (by simp) (fun G h => on_first h)); clear g1 g1' g2 g2' hC1 hC2) | (go_at_call 19; refine HS.out.mono ?_; rintro e w3 ⟨rfl, hd⟩; have T5 : Hid (Turn w w3 F (all ([rd 76 a (s.takeS n), rd 78 r (s.takeS n)] ++ [box w.heap.size (.cells #[.bool two, .int .i64 5, .int .i64 n, .slice A m c] 29)]))) := Lib.hid (T4.out.then_drawn hd); clear hd))
  all_goals
    go_wp2_with fail
    go_ret
    exact ⟨rfl, T5.out.unbox⟩
set_option maxHeartbeats 2000000 in
theorem reads6 {w : World} {F : Blks} (a r : Nat) (s : RS) (two : Bool) (n : Int) (A : Option Addr) (m c : Nat) (h : (duo a r s).on w F) (hn : -9223372036854775808 ≤ n ∧ n ≤ 9223372036854775807) :
    Calls Try.prog 20 #[.pointer (some ⟨a, 0, none⟩), .pointer (some ⟨r, 0, none⟩), .agg #[.bool two, .int .i64 6, .int .i64 n, .slice A m c]] w fun e w' => e = .returned (.bool true) ∧ Turn w w' F (duo a r (s.sealedS n)) := by
  have T0 := Lib.hid (Turn.boxed h (.cells #[.bool two, .int .i64 6, .int .i64 n, .slice A m c] 29))
  have HN := Lib.hid hn
  clear h hn
  go_enter Try.func20, Try.ntmps20
  go_wp2_with fail
  obtain ⟨F1, h1, _, k1⟩ := Turn.pick T0.out 0 (by simp)
  have H1 := Lib.hid h1
  have K1 := Lib.hid k1
  have hb0 := Turn.heap T0.out 2 (by simp) rfl
  have b0 : (w.alloc (.cells #[.bool two, .int .i64 6, .int .i64 n, .slice A m c] 29)).cell? ⟨w.heap.size, 2, none⟩ = some (.int .i64 n) := cell_of hb0 rfl
  clear h1 k1 hb0
  go_region_with (first | (go_at_call 26; refine (sealed_calls a s n (on_drew H1.out)).mono ?_; rintro e w1 ⟨v1, rfl, ht⟩; have T1 : Hid (Turn w w1 F (all [all [rd 76 a (s.sealedS n), row 5 .u8 v1 (bl (s.sealedL n))], rd 78 r s, box w.heap.size (.cells #[.bool two, .int .i64 6, .int .i64 n, .slice A m c] 29)])) := Lib.hid (K1.out _ _ (Turn.after_below (below_drew (Below.refl _ _)) ht)); clear ht; have hb1 := Turn.heap T1.out 2 (by simp) rfl; (have b1 : w1.cell? ⟨w.heap.size, 2, none⟩ = some (.int .i64 n) := cell_of hb1 rfl); obtain ⟨F2, h2, _, k2⟩ := Turn.pick T1.out 1 (by simp); have H2 := Lib.hid h2; have K2 := Lib.hid k2; clear hb1 h2 k2) | (go_at_call 73; refine (rsealed_calls r s n H2.out HN.out.2).mono ?_; rintro e w2 ⟨v2, rfl, ht⟩; have T2 : Hid (Turn w w2 F (all [all [rd 76 a (s.sealedS n), row 5 .u8 v1 (bl (s.sealedL n))], all [rd 78 r (s.sealedS n), row 5 .u8 v2 (bl (s.sealedL n))], box w.heap.size (.cells #[.bool two, .int .i64 6, .int .i64 n, .slice A m c] 29)])) := Lib.hid (K2.out _ _ ht); clear ht; obtain ⟨G1, g1, _⟩ := All.at_ (show All _ w2 _ from T2.out.2) 0 (by simp); obtain ⟨G1', g1'⟩ := on_second (show (all [rd 76 a (s.sealedS n), row 5 .u8 v1 (bl (s.sealedL n))]).on w2 G1 from g1); obtain ⟨A1, c1, e1, hc1, hC1, _⟩ := row_C g1'; obtain ⟨G2, g2, _⟩ := All.at_ (show All _ w2 _ from T2.out.2) 1 (by simp); obtain ⟨G2', g2'⟩ := on_second (show (all [rd 78 r (s.sealedS n), row 5 .u8 v2 (bl (s.sealedL n))]).on w2 G2 from g2); obtain ⟨A2, c2, e2, hc2, hC2, _⟩ := row_C g2'; subst e1; subst e2; have HS := Lib.hid (same_calls A1 c1 w2 A2 c2 (bl (s.sealedL n)) (bl (s.sealedL n)) hC1 hc1 hC2 hc2 rfl); have T3 := Lib.hid (Turn.told (l := [_, _, _]) (P := rd 76 a (s.sealedS n)) T2.out 0 (by simp) (fun G h => on_first h)); have T4 := Lib.hid (Turn.told (l := [_, _, _]) (P := rd 78 r (s.sealedS n)) T3.out 1 (by simp) (fun G h => on_first h)); clear g1 g1' g2 g2' hC1 hC2) | (go_at_call 19; refine HS.out.mono ?_; rintro e w3 ⟨rfl, hd⟩; have T5 : Hid (Turn w w3 F (all ([rd 76 a (s.sealedS n), rd 78 r (s.sealedS n)] ++ [box w.heap.size (.cells #[.bool two, .int .i64 6, .int .i64 n, .slice A m c] 29)]))) := Lib.hid (T4.out.then_drawn hd); clear hd))
  all_goals
    go_wp2_with fail
    go_ret
    exact ⟨rfl, T5.out.unbox⟩
theorem reads8 {w : World} {F : Blks} (a r : Nat) (s : RS) (two : Bool) (n : Int) (A : Option Addr) (m c : Nat) (h : (duo a r s).on w F) (hn : -9223372036854775808 ≤ n ∧ n ≤ 9223372036854775807) :
    Calls Try.prog 20 #[.pointer (some ⟨a, 0, none⟩), .pointer (some ⟨r, 0, none⟩), .agg #[.bool two, .int .i64 8, .int .i64 n, .slice A m c]] w fun e w' => e = .returned (.bool true) ∧ Turn w w' F (duo a r (s)) := by
  have T0 := Lib.hid (Turn.boxed h (.cells #[.bool two, .int .i64 8, .int .i64 n, .slice A m c] 29))
  clear h hn
  go_enter Try.func20, Try.ntmps20
  go_wp2_with fail
  obtain ⟨F1, h1, _, _⟩ := Turn.pick T0.out 0 (by simp)
  refine (left_calls a s h1).mono ?_
  rintro e w1 ⟨rfl, hd⟩
  have T1 : Hid (Turn w w1 F (all [rd 76 a s, rd 78 r s, box w.heap.size (.cells #[.bool two, .int .i64 8, .int .i64 n, .slice A m c] 29)])) := Lib.hid (T0.out.then_drawn hd)
  clear hd h1
  go_wp2_with fail
  obtain ⟨F2, h2, _, _⟩ := Turn.pick T1.out 1 (by simp)
  refine (rleft_calls r s h2).mono ?_
  rintro e w2 ⟨rfl, hd⟩
  have T2 : Hid (Turn w w2 F (all ([rd 76 a s, rd 78 r s] ++ [box w.heap.size (.cells #[.bool two, .int .i64 8, .int .i64 n, .slice A m c] 29)]))) := Lib.hid (T1.out.then_drawn hd)
  clear hd h2
  go_wp2_with fail
  go_ret
  exact ⟨by simp, T2.out.unbox⟩
theorem reads9 {w : World} {F : Blks} (a r : Nat) (s : RS) (two : Bool) (n : Int) (A : Option Addr) (m c : Nat) (h : (duo a r s).on w F) (hn : -9223372036854775808 ≤ n ∧ n ≤ 9223372036854775807) :
    Calls Try.prog 20 #[.pointer (some ⟨a, 0, none⟩), .pointer (some ⟨r, 0, none⟩), .agg #[.bool two, .int .i64 9, .int .i64 n, .slice A m c]] w fun e w' => e = .returned (.bool true) ∧ Turn w w' F (duo a r (s)) := by
  have T0 := Lib.hid (Turn.boxed h (.cells #[.bool two, .int .i64 9, .int .i64 n, .slice A m c] 29))
  clear h hn
  go_enter Try.func20, Try.ntmps20
  go_wp2_with fail
  obtain ⟨F1, h1, _, _⟩ := Turn.pick T0.out 0 (by simp)
  refine (rerr_calls a s h1).mono ?_
  rintro e w1 ⟨rfl, rfl⟩
  clear h1
  go_wp2_with fail
  obtain ⟨F2, h2, _, _⟩ := Turn.pick T0.out 1 (by simp)
  refine (rrerr_calls r s h2).mono ?_
  rintro e w2 ⟨rfl, rfl⟩
  clear h2
  go_wp2_with fail
  go_ret
  exact ⟨by simp, T0.out.unbox⟩
theorem reads10 {w : World} {F : Blks} (a r : Nat) (s : RS) (two : Bool) (n : Int) (A : Option Addr) (m c : Nat) (h : (duo a r s).on w F) (hn : -9223372036854775808 ≤ n ∧ n ≤ 9223372036854775807) :
    Calls Try.prog 20 #[.pointer (some ⟨a, 0, none⟩), .pointer (some ⟨r, 0, none⟩), .agg #[.bool two, .int .i64 10, .int .i64 n, .slice A m c]] w fun e w' => e = .returned (.bool true) ∧ Turn w w' F (duo a r (s)) := by
  have T0 := Lib.hid (Turn.boxed h (.cells #[.bool two, .int .i64 10, .int .i64 n, .slice A m c] 29))
  clear h hn
  go_enter Try.func20, Try.ntmps20
  go_wp2_with fail
  obtain ⟨F1, h1, _, _⟩ := Turn.pick T0.out 0 (by simp)
  refine (end_calls a s h1).mono ?_
  rintro e w1 ⟨rfl, hd⟩
  have T1 : Hid (Turn w w1 F (all [rd 76 a s, rd 78 r s, box w.heap.size (.cells #[.bool two, .int .i64 10, .int .i64 n, .slice A m c] 29)])) := Lib.hid (T0.out.then_drawn hd)
  clear hd h1
  go_wp2_with fail
  obtain ⟨F2, h2, _, _⟩ := Turn.pick T1.out 1 (by simp)
  refine (rend_calls r s h2).mono ?_
  rintro e w2 ⟨rfl, hd⟩
  have T2 : Hid (Turn w w2 F (all ([rd 76 a s, rd 78 r s] ++ [box w.heap.size (.cells #[.bool two, .int .i64 10, .int .i64 n, .slice A m c] 29)]))) := Lib.hid (T1.out.then_drawn hd)
  clear hd h2
  go_wp2_with fail
  go_ret
  exact ⟨by simp, T2.out.unbox⟩
theorem reads_no {w : World} {F : Blks} (a r : Nat) (s : RS) (two : Bool) (kind n : Int) (A : Option Addr) (m c : Nat) (h : (duo a r s).on w F) (hk : kind < 1 ∨ kind = 7 ∨ 10 < kind) :
    Calls Try.prog 20 #[.pointer (some ⟨a, 0, none⟩), .pointer (some ⟨r, 0, none⟩), .agg #[.bool two, .int .i64 kind, .int .i64 n, .slice A m c]] w fun e w' => e = .returned (.bool true) ∧ Turn w w' F (duo a r s) := by
  have T0 := Lib.hid (Turn.boxed h (.cells #[.bool two, .int .i64 kind, .int .i64 n, .slice A m c] 29))
  have k1 : (kind == 1) = false := by simp; omega
  have k2 : (kind == 2) = false := by simp; omega
  have k3 : (kind == 3) = false := by simp; omega
  have k4 : (kind == 4) = false := by simp; omega
  have k5 : (kind == 5) = false := by simp; omega
  have k6 : (kind == 6) = false := by simp; omega
  have k8 : (kind == 8) = false := by simp; omega
  have k9 : (kind == 9) = false := by simp; omega
  have k10 : (kind == 10) = false := by simp; omega
  clear h hk
  go_enter Try.func20, Try.ntmps20
  go_wp2_with fail
  go_ret
  exact ⟨rfl, T0.out.unbox⟩
theorem reads_calls {w : World} {F : Blks} (a r : Nat) (s : RS) (two : Bool) (kind n : Int) (A : Option Addr) (m c : Nat) (h : (duo a r s).on w F) (hn : -9223372036854775808 ≤ n ∧ n ≤ 9223372036854775807) :
    Calls Try.prog 20 #[.pointer (some ⟨a, 0, none⟩), .pointer (some ⟨r, 0, none⟩), .agg #[.bool two, .int .i64 kind, .int .i64 n, .slice A m c]] w fun e w' => e = .returned (.bool true) ∧ Turn w w' F (duo a r (s.step kind n)) := by
  by_cases h0 : kind < 1 ∨ kind = 7 ∨ 10 < kind
  · have e : s.step kind n = s := by
      unfold RS.step
      rw [if_neg (by omega), if_neg (by omega), if_neg (by omega), if_neg (by omega), if_neg (by omega), if_neg (by omega)]
    rw [e]
    exact reads_no a r s two kind n A _ c h h0
  · have h1 : kind = 1 ∨ kind = 2 ∨ kind = 3 ∨ kind = 4 ∨ kind = 5 ∨ kind = 6 ∨ kind = 8 ∨ kind = 9 ∨ kind = 10 := by omega
    rcases h1 with e | e | e | e | e | e | e | e | e <;> subst e
    · exact reads1 a r s two n A _ c h hn
    · exact reads2 a r s two n A _ c h hn
    · exact reads3 a r s two n A _ c h hn
    · exact reads4 a r s two n A _ c h hn
    · exact reads5 a r s two n A _ c h hn
    · exact reads6 a r s two n A _ c h hn
    · exact reads8 a r s two n A _ c h hn
    · exact reads9 a r s two n A _ c h hn
    · exact reads10 a r s two n A _ c h hn
theorem done_calls {w : World} {F : Blks} (a r : Nat) (s : RS) (h : (duo a r s).on w F) :
    Calls Try.prog 21 #[.pointer (some ⟨a, 0, none⟩), .pointer (some ⟨r, 0, none⟩)] w fun e w' => e = .returned (.bool true) ∧ Turn w w' F (duo a r s) := by
  have H := Lib.hid (reads8 a r s false 0 none 0 0 h (by omega))
  clear h
  go_enter Try.func21, Try.ntmps21
  go_wp2_with fail
  refine H.out.mono ?_
  rintro e w1 ⟨rfl, ht⟩
  have T1 := Lib.hid ht
  clear ht
  go_wp2_with fail
  refine (reads9 a r s false 0 none 0 0 T1.out.2 (by omega)).mono ?_
  rintro e w2 ⟨rfl, ht⟩
  have T2 := Lib.hid (T1.out.trans ht)
  clear ht
  go_wp2_with fail
  refine (reads10 a r s false 0 none 0 0 T2.out.2 (by omega)).mono ?_
  rintro e w3 ⟨rfl, ht⟩
  have T3 := Lib.hid (T2.out.trans ht)
  clear ht
  go_wp2_with fail
  go_ret
  exact ⟨by simp, T3.out⟩
end Go.Proofs.Ytdmliaodacaefaa.Rd
