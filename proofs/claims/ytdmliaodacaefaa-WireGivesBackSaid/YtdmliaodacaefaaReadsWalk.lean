/- WireReads walked: two readers and two of the reference, step by step. -/
import Derived.Test.YtdmliaodacaefaaRdd
import Derived.Test.YtdmliaodacaefaaWritesWalk
namespace Go.Proofs.Ytdmliaodacaefaa.Rd
open Go.RowKit Go.Proofs.YtdmliaodacaefaaW.PrintWords Go.Proofs.YtdmliaodacaefaaW.PrintLast Go.Proofs.YtdmliaodacaefaaW.PrintMore Go.Proofs.Ytdmliaodacaefaa.Mem Go.Proofs.Ytdmliaodacaefaa.Sep Go.Proofs.Ytdmliaodacaefaa.Bridge Go.Proofs.Ytdmliaodacaefaa.Wr Go.Proofs.Ytdmliaodacaefaa.Ops
set_option linter.unusedVariables false
set_option linter.unusedSimpArgs false
/-- some of several, told of in another order. -/
theorem _root_.Go.Proofs.Ytdmliaodacaefaa.Wr.Since.some {w0 w : World} {l l' : List Asr} (h : Since w0 l w) (f : Nat → Nat) (hf : ∀ i j, i ≠ j → f i ≠ f j) (hl : ∀ i (hi : i < l'.length), ∃ hj : f i < l.length, l'[i] = l[f i]) : Since w0 l' w := by
  obtain ⟨⟨Fs, h1, h2, h3⟩, hb⟩ := h
  refine ⟨⟨fun i => Fs (f i), fun i hi => ?_, fun i j b hne => h2 _ _ b (hf i j hne), fun i b hb => h3 _ b hb⟩, hb⟩
  obtain ⟨hj, e⟩ := hl i hi
  rw [e]
  exact h1 _ hj
theorem _root_.Go.Proofs.Ytdmliaodacaefaa.Wr.Since.mid2 {w0 w : World} {P Q R S T U : Asr} (h : Since w0 [P, Q, R, S, T, U] w) : Since w0 [Q, R, T, U] w :=
  h.some (fun i => if i < 2 then i + 1 else i + 2) (fun i j hne => by show (if i < 2 then i + 1 else i + 2) ≠ (if j < 2 then j + 1 else j + 2); split <;> split <;> omega) (fun i hi => by
    have e : i = 0 ∨ i = 1 ∨ i = 2 ∨ i = 3 := by simp at hi; omega
    rcases e with e | e | e | e <;> subst e <;> exact ⟨by simp, rfl⟩)
set_option maxHeartbeats 4000000 in
theorem reads_walk (A1 A2 : Option Addr) (c1 c2 : Nat) (l1 l2 : List UInt8) (A : Option Addr) (len cap : Nat) (ops : List OpR) (w : World)
    (hr1 : Kd.C (Kd.int .u8) w A1 (bl l1).length (bl l1)) (hc1 : (bl l1).length ≤ c1) (hl1 : l1.length ≤ 140737488351232)
    (hr2 : Kd.C (Kd.int .u8) w A2 (bl l2).length (bl l2)) (hc2 : (bl l2).length ≤ c2) (hl2 : l2.length ≤ 140737488351232) (h : Script w A len ops) :
    Calls Try.prog 4 #[.slice A1 (bl l1).length c1, .slice A2 (bl l2).length c2, .slice A len cap] w fun e w' => e = .returned (.bool true) ∧ Below w.heap.size w w' := by
  have H := Lib.hid h
  have HM := Lib.hid h.max
  have HR1 := Lib.hid hr1
  have HR2 := Lib.hid hr2
  have HL1 := Lib.hid hl1
  have HL2 := Lib.hid hl2
  clear h hr1 hr2 hl1 hl2
  go_enter Try.func4, Try.ntmps4
  go_wp2_with fail
  refine (dup_calls A1 c1 l1 _ HR1.out hc1 HL1.out).mono ?_
  rintro e w1 ⟨v1, rfl, hn⟩
  have S1 : Hid (Since w [row 5 .u8 v1 (bl l1)] w1) := Lib.hid ((Since.start w).add hn.2.2 (new_row hn))
  clear hn
  obtain ⟨G1, g1, _⟩ := S1.out.at_ 0 (by simp)
  obtain ⟨D1, e1, rfl, hd1, hD1, _⟩ := row_C (show (row 5 .u8 v1 (bl l1)).on w1 G1 from g1)
  have HD1 := Lib.hid hD1
  clear g1 hD1
  go_wp2_with fail
  refine (newp_calls D1 e1 l1 w1 HD1.out hd1 HL1.out).mono ?_
  rintro e w2 ⟨a, rfl, h2, hb2⟩
  have S2 : Hid (Since w [row 5 .u8 (.slice D1 (bl l1).length e1) (bl l1), rd 76 a (RS.new l1)] w2) := Lib.hid (S1.out.add hb2 h2)
  clear h2 hb2
  go_wp2_with fail
  refine (rnew_calls A1 c1 l1 w2 (Kd.C_below HR1.out S2.out.below) hc1 HL1.out).mono ?_
  rintro e w3 ⟨r, rfl, h3, hb3⟩
  have S3 : Hid (Since w [row 5 .u8 (.slice D1 (bl l1).length e1) (bl l1), rd 76 a (RS.new l1), rd 78 r (RS.new l1)] w3) := Lib.hid (S2.out.add hb3 h3)
  clear h3 hb3
  go_wp2_with fail
  refine (dup_calls A2 c2 l2 _ (Kd.C_below HR2.out S3.out.below) hc2 HL2.out).mono ?_
  rintro e w4 ⟨v4, rfl, hn⟩
  have S4 : Hid (Since w [row 5 .u8 (.slice D1 (bl l1).length e1) (bl l1), rd 76 a (RS.new l1), rd 78 r (RS.new l1), row 5 .u8 v4 (bl l2)] w4) := Lib.hid (S3.out.add hn.2.2 (new_row hn))
  clear hn
  obtain ⟨G4, g4, _⟩ := S4.out.at_ 3 (by simp)
  obtain ⟨D4, e4, rfl, hd4, hD4, _⟩ := row_C (show (row 5 .u8 v4 (bl l2)).on w4 G4 from g4)
  have HD4 := Lib.hid hD4
  clear g4 hD4
  go_wp2_with fail
  refine (newp_calls D4 e4 l2 w4 HD4.out hd4 HL2.out).mono ?_
  rintro e w5 ⟨b, rfl, h5, hb5⟩
  have S5 : Hid (Since w [row 5 .u8 (.slice D1 (bl l1).length e1) (bl l1), rd 76 a (RS.new l1), rd 78 r (RS.new l1), row 5 .u8 (.slice D4 (bl l2).length e4) (bl l2), rd 76 b (RS.new l2)] w5) := Lib.hid (S4.out.add hb5 h5)
  clear h5 hb5
  go_wp2_with fail
  refine (rnew_calls A2 c2 l2 w5 (Kd.C_below HR2.out S5.out.below) hc2 HL2.out).mono ?_
  rintro e w6 ⟨q, rfl, h6, hb6⟩
  have S6 : Hid (Since w [row 5 .u8 (.slice D1 (bl l1).length e1) (bl l1), rd 76 a (RS.new l1), rd 78 r (RS.new l1), row 5 .u8 (.slice D4 (bl l2).length e4) (bl l2), rd 76 b (RS.new l2), rd 78 q (RS.new l2)] w6) := Lib.hid (S5.out.add hb6 h6)
  clear h6 hb6
  obtain ⟨G6, g6, _⟩ := S6.out.at_ 0 (by simp)
  obtain ⟨D6, e6, eq6, _, hD6, _⟩ := row_C (show (row 5 .u8 (.slice D1 (bl l1).length e1) (bl l1)).on w6 G6 from g6)
  injection eq6 with q1 _ q2
  subst q1 q2
  have HS := Lib.hid (same_calls D1 e1 w6 A1 c1 (bl l1) (bl l1) hD6 hd1 (Kd.C_below HR1.out S6.out.below) hc1 rfl)
  clear g6 hD6
  go_wp2_with fail
  refine HS.out.mono ?_
  rintro e w7 ⟨rfl, hd⟩
  have S7 : Hid (Since w [duo a r (RS.new l1), duo b q (RS.new l2)] w7) := Lib.hid (Since.pairs (Since.mid2 (S6.out.drawn hd)))
  clear hd HS S1 S2 S3 S4 S5 S6
  go_wp2_with fail
  go_loopw [12, 13] (fun v12 v13 wr => ∃ (k : Nat) (s1 s2 : RS), v12 = .int .i64 k ∧ k ≤ len ∧ Since w [duo a r s1, duo b q s2] wr) (fun v _ _ => len - (intOf v).toNat)
  case atStart => exact ⟨0, _, _, rfl, Nat.zero_le _, S7.out⟩
  case round =>
    obtain ⟨k, s1, s2, rfl, hk, hs⟩ := hrel
    have HS := Lib.hid hs
    clear hs
    by_cases hlt : k < len
    · obtain ⟨xb, xo, rfl, o, _, c0, c1, c2, c3, hok, hrng⟩ := H.out.cells HS.out.below k hlt
      have hkm : k ≤ 140737488351232 := Nat.le_trans hk HM.out
      obtain ⟨otwo, okind, on, oA, oc, ol⟩ := o
      dsimp only [Sl.val] at c0 c1 c2 c3 hok hrng
      have HRNG := Lib.hid hrng
      have HLT := Lib.hid (show k < len from hlt)
      have HB := Lib.hid (HS.out.boxed (.cells #[.bool otwo, .int .i64 okind, .int .i64 on, .slice oA (bl ol).length oc] 29))
      clear hok hrng
      cases otwo
      · go_wp2_with fail
        obtain ⟨F1, g1, hu1, k1⟩ := Since.pick HB.out 0 (by simp)
        refine (reads_calls a r s1 false okind on oA _ oc g1 HRNG.out).mono ?_
        rintro e w8 ⟨rfl, ht⟩
        have HS1 : Hid (Since w ([duo a r (s1.step okind on), duo b q s2] ++ [box wr.heap.size (.cells #[.bool false, .int .i64 okind, .int .i64 on, .slice oA (bl ol).length oc] 29)]) w8) := Lib.hid (k1 _ _ ht)
        clear g1 hu1 k1 ht
        go_wp2_with fail
        have hlt := HLT.out
        exact ⟨⟨k + 1, _, _, by simp, by omega, HS1.out.drop⟩, by simp [intOf]; omega⟩
      · go_wp2_with fail
        obtain ⟨F1, g1, hu1, k1⟩ := Since.pick HB.out 1 (by simp)
        refine (reads_calls b q s2 true okind on oA _ oc g1 HRNG.out).mono ?_
        rintro e w8 ⟨rfl, ht⟩
        have HS1 : Hid (Since w ([duo a r s1, duo b q (s2.step okind on)] ++ [box wr.heap.size (.cells #[.bool true, .int .i64 okind, .int .i64 on, .slice oA (bl ol).length oc] 29)]) w8) := Lib.hid (k1 _ _ ht)
        have hbx := Since.heap (l := [duo a r s1, duo b q (s2.step okind on), box wr.heap.size (.cells #[.bool true, .int .i64 okind, .int .i64 on, .slice oA (bl ol).length oc] 29)]) HS1.out 2 (by simp) rfl
        have d0 : w8.cell? ⟨wr.heap.size, 0, none⟩ = some (.bool true) := cell_of hbx rfl
        clear g1 hu1 k1 ht hbx
        go_wp2_with fail
        have hlt := HLT.out
        exact ⟨⟨k + 1, _, _, by simp, by omega, HS1.out.drop⟩, by simp [intOf]; omega⟩
    · clear hk
      go_wp2_with fail
      obtain ⟨F1, g1, hu1, k1⟩ := Since.pick HS.out 0 (by simp)
      refine (done_calls a r s1 g1).mono ?_
      rintro e w8 ⟨rfl, ht⟩
      have HS1 : Hid (Since w [duo a r s1, duo b q s2] w8) := Lib.hid (k1 _ _ ht)
      clear g1 hu1 k1 ht
      go_wp2_with fail
      obtain ⟨F2, g2, hu2, k2⟩ := Since.pick HS1.out 1 (by simp)
      refine (done_calls b q s2 g2).mono ?_
      rintro e w9 ⟨rfl, ht⟩
      have HS2 : Hid (Since w [duo a r s1, duo b q s2] w9) := Lib.hid (k2 _ _ ht)
      clear g2 hu2 k2 ht
      go_wp2_with fail
      go_ret
      exact ⟨by simp, HS2.out.below⟩
end Go.Proofs.Ytdmliaodacaefaa.Rd
