/- CrcDigests walked: two digests and two of the reference, step by step. -/
import Derived.Test.YtcfnpippmdijaaaOps
import Derived.Outline
namespace Go.Proofs.Ytcfnpippmdijaaa.Ops
open Go.ChangeShapes Go.WideShapes Go.RowKit Go.Proofs.YtcfnpippmdijaaaW.PrintWords Go.Proofs.YtcfnpippmdijaaaW.PrintLast Go.Proofs.YtcfnpippmdijaaaW.PrintMore Go.Proofs.Ytcfnpippmdijaaa.Bridge Go.Proofs.Ytcfnpippmdijaaa.Mem Go.Proofs.Ytcfnpippmdijaaa.Dig
set_option linter.unusedVariables false
set_option linter.unusedSimpArgs false
/-- two digests, each with the reference's beside it. -/
def Two (w0 w : World) (a b r s : Nat) (n : Nat) : Prop :=
  ∃ v1 v2 l1 l2, Pair w a r v1 l1 ∧ Pair w b s v2 l2 ∧ (∀ x, foot a r v1 x → ¬ foot b s v2 x) ∧ (∀ x, foot a r v1 x → w0.heap.size ≤ x) ∧ (∀ x, foot b s v2 x → w0.heap.size ≤ x) ∧ l1.length ≤ n ∧ l2.length ≤ n ∧ Below w0.heap.size w0 w
theorem Two.swap {w0 w : World} {a b r s n : Nat} (h : Two w0 w a b r s n) : Two w0 w b a s r n := by
  obtain ⟨v1, v2, l1, l2, h1, h2, h3, h4, h5, h6, h7, h8⟩ := h
  exact ⟨v2, v1, l2, l1, h2, h1, fun x hx hy => h3 x hy hx, h5, h4, h7, h6, h8⟩
theorem Two.more {w0 w : World} {a b r s n m : Nat} (h : Two w0 w a b r s n) (hm : n ≤ m) : Two w0 w a b r s m := by
  obtain ⟨v1, v2, l1, l2, h1, h2, h3, h4, h5, h6, h7, h8⟩ := h
  exact ⟨v1, v2, l1, l2, h1, h2, h3, h4, h5, by omega, by omega, h8⟩
theorem Two.alloc {w0 w : World} {a b r s n : Nat} (h : Two w0 w a b r s n) (o : Obj) : Two w0 (w.alloc o) a b r s n := by
  obtain ⟨v1, v2, l1, l2, h1, h2, h3, h4, h5, h6, h7, h8⟩ := h
  exact ⟨v1, v2, l1, l2, h1.box o, h2.box o, h3, h4, h5, h6, h7, h8.alloc h8.size o⟩
theorem Two.drewN {w0 w : World} {a b r s n : Nat} (h : Two w0 w a b r s n) (k : Nat) : Two w0 (w.drewN k) a b r s n := by
  obtain ⟨v1, v2, l1, l2, h1, h2, h3, h4, h5, h6, h7, h8⟩ := h
  have ho : Only w (w.drewN k) (fun _ => False) := (Only.refl w _).drewN k
  exact ⟨v1, v2, l1, l2, h1.only ho (fun _ _ h => h), h2.only ho (fun _ _ h => h), h3, h4, h5, h6, h7, pw_below_drewN h8 k⟩
/-- what a step with the first leaves. -/
theorem Two.step {w0 w w' : World} {a b r s n m : Nat} {v1 v2 : Value} {l1 l2 l1' : List UInt8} (h1 : Pair w a r v1 l1) (h2 : Pair w b s v2 l2) (h3 : ∀ x, foot a r v1 x → ¬ foot b s v2 x) (h4 : ∀ x, foot a r v1 x → w0.heap.size ≤ x) (h5 : ∀ x, foot b s v2 x → w0.heap.size ≤ x)
    (h7 : l2.length ≤ m) (h8 : Below w0.heap.size w0 w) (hs : Dig.Stepped w w' a r v1 l1') (hl : l1'.length ≤ m) : Two w0 w' a b r s m := by
  obtain ⟨v', p', ho, hv⟩ := hs
  have hf : ∀ x, foot a r v' x → foot a r v1 x ∨ w.heap.size ≤ x := by
    rintro x (h | h | h)
    · exact .inl (.inl h)
    · exact .inl (.inr (.inl h))
    · rcases hv x h with h9 | h9
      · exact .inl (.inr (.inr h9))
      · exact .inr h9
  refine ⟨v', v2, l1', l2, p', h2.only ho (fun x hx hy => h3 x hy hx), fun x hx hy => ?_, fun x hx => ?_, h5, hl, h7, ho.below h8 h4 h8.size⟩
  · rcases hf x hx with h9 | h9
    · exact h3 x h9 hy
    · have := h2.lt x hy; omega
  · rcases hf x hx with h9 | h9
    · exact h4 x h9
    · have := h8.size; omega
/-- a new digest, and the reference's. -/
theorem Two.fresh {w0 w w1 : World} {a b r s n : Nat} (h : Two w0 w a b r s n) (h1 : w1 = w.alloc (.cells #[.int .u32 0, .int .i64 0] 60)) :
    Two w0 (w1.alloc (.cells #[.slice none 0 0] 38)) w.heap.size b (w.heap.size + 1) s n := by
  subst h1
  obtain ⟨_, v2, _, l2, _, p2, _, _, g2, _, b2, bl⟩ := h
  have hs : (w.alloc (.cells #[.int .u32 0, .int .i64 0] 60)).heap.size = w.heap.size + 1 := by simp
  have hd : IsD ((w.alloc (.cells #[.int .u32 0, .int .i64 0] 60)).alloc (.cells #[.slice none 0 0] 38)) w.heap.size (CrcM.sum []) 0 := by
    have e : ui (CrcM.sum []) = 0 := by decide
    show _ = some (Obj.cells #[.int .u32 (ui (CrcM.sum [])), _] _ _)
    rw [e]
    exact (heap_alloc_old _ _ (by rw [hs]; omega)).trans (heap_alloc_new w _)
  have hr : IsR ((w.alloc (.cells #[.int .u32 0, .int .i64 0] 60)).alloc (.cells #[.slice none 0 0] 38)) (w.heap.size + 1) (.slice none 0 0) [] := by
    refine ⟨?_, Rw.nil _ _ _, by simp [Value.ownBlock]⟩
    have h2 := heap_alloc_new (w.alloc (.cells #[.int .u32 0, .int .i64 0] 60)) (.cells #[.slice none 0 0] 38)
    rw [hs] at h2
    exact h2
  have hf : ∀ x, foot w.heap.size (w.heap.size + 1) (.slice none 0 0) x → w.heap.size ≤ x := by
    rintro x (h | h | h)
    · omega
    · omega
    · simp [Value.ownBlock] at h
  refine ⟨.slice none 0 0, v2, [], l2, ⟨hd, hr, by omega, by simp [Value.ownBlock]⟩, (p2.box _).box _, fun x hx hy => ?_, fun x hx => ?_, g2, Nat.zero_le _, b2, (bl.alloc bl.size _).alloc (by rw [hs]; have := bl.size; omega) _⟩
  · have := hf x hx
    have := p2.lt x hy
    omega
  · have := hf x hx
    have := bl.size
    omega
theorem Two.start (w : World) : Two w ((((w.alloc (.cells #[.int .u32 0, .int .i64 0] 60)).alloc (.cells #[.int .u32 0, .int .i64 0] 60)).alloc (.cells #[.slice none 0 0] 38)).alloc (.cells #[.slice none 0 0] 38)) w.heap.size (w.heap.size + 1) (w.heap.size + 2) (w.heap.size + 3) 0 := by
  obtain ⟨w1, h1⟩ : ∃ w1, w1 = w.alloc (.cells #[.int .u32 0, .int .i64 0] 60) := ⟨_, rfl⟩
  obtain ⟨w2, h2⟩ : ∃ w2, w2 = w1.alloc (.cells #[.int .u32 0, .int .i64 0] 60) := ⟨_, rfl⟩
  obtain ⟨w3, h3⟩ : ∃ w3, w3 = w2.alloc (.cells #[.slice none 0 0] 38) := ⟨_, rfl⟩
  obtain ⟨w4, h4⟩ : ∃ w4, w4 = w3.alloc (.cells #[.slice none 0 0] 38) := ⟨_, rfl⟩
  rw [← h1, ← h2, ← h3, ← h4]
  have s1 : w1.heap.size = w.heap.size + 1 := by rw [h1]; simp
  have s2 : w2.heap.size = w.heap.size + 2 := by rw [h2]; simp; omega
  have s3 : w3.heap.size = w.heap.size + 3 := by rw [h3]; simp; omega
  have o12 : Only w1 w2 (fun _ => False) := by rw [h2]; exact (Only.refl w1 _).alloc _
  have o23 : Only w2 w3 (fun _ => False) := by rw [h3]; exact (Only.refl w2 _).alloc _
  have o34 : Only w3 w4 (fun _ => False) := by rw [h4]; exact (Only.refl w3 _).alloc _
  have e : ui (CrcM.sum []) = 0 := by decide
  have d1 : IsD w1 w.heap.size (CrcM.sum []) 0 := by
    show _ = some (Obj.cells #[.int .u32 (ui (CrcM.sum [])), _] _ _)
    rw [e, h1]; exact heap_alloc_new w _
  have d2 : IsD w2 (w.heap.size + 1) (CrcM.sum []) 0 := by
    show _ = some (Obj.cells #[.int .u32 (ui (CrcM.sum [])), _] _ _)
    have h := heap_alloc_new w1 (.cells #[.int .u32 0, .int .i64 0] 60)
    rw [s1] at h
    rw [e, h2]; exact h
  have r3 : IsR w3 (w.heap.size + 2) (.slice none 0 0) [] := by
    have h := heap_alloc_new w2 (.cells #[.slice none 0 0] 38)
    rw [s2] at h
    refine ⟨?_, Rw.nil _ _ _, by simp [Value.ownBlock]⟩
    rw [h3]; exact h
  have r4 : IsR w4 (w.heap.size + 3) (.slice none 0 0) [] := by
    have h := heap_alloc_new w3 (.cells #[.slice none 0 0] 38)
    rw [s3] at h
    refine ⟨?_, Rw.nil _ _ _, by simp [Value.ownBlock]⟩
    rw [h4]; exact h
  have no : ∀ b, (Value.slice none 0 0).ownBlock ≠ some b := fun b h => by simp [Value.ownBlock] at h
  have f1 : ∀ x, foot w.heap.size (w.heap.size + 2) (.slice none 0 0) x → x = w.heap.size ∨ x = w.heap.size + 2 := by
    rintro x (h | h | h)
    · exact .inl h
    · exact .inr h
    · exact absurd h (no x)
  have f2 : ∀ x, foot (w.heap.size + 1) (w.heap.size + 3) (.slice none 0 0) x → x = w.heap.size + 1 ∨ x = w.heap.size + 3 := by
    rintro x (h | h | h)
    · exact .inl h
    · exact .inr h
    · exact absurd h (no x)
  have z : ∀ S : Nat → Prop, ¬ (fun _ : Nat => False) 0 := fun _ h => h
  refine ⟨.slice none 0 0, .slice none 0 0, [], [], ⟨((d1.only o12 (fun h => h)).only o23 (fun h => h)).only o34 (fun h => h), r3.only o34 (fun h => h) (fun _ _ h => h), by omega, no _⟩, ⟨(d2.only o23 (fun h => h)).only o34 (fun h => h), r4, by omega, no _⟩, ?_, ?_, ?_, Nat.le_refl _, Nat.le_refl _, ?_⟩
  · intro x hx hy
    rcases f1 x hx with h | h <;> rcases f2 x hy with h' | h' <;> omega
  · intro x hx
    rcases f1 x hx with h | h <;> omega
  · intro x hx
    rcases f2 x hx with h | h <;> omega
  · rw [h4, h3, h2, h1]
    exact ((((Below.refl _ _).alloc (Nat.le_refl _) _).alloc (by simp) _).alloc (by simp; omega) _).alloc (by simp; omega) _
def upTo (ops : List OpR) (k : Nat) : Nat := ((ops.take k).map fun o => o.s.l.length).sum
theorem upTo_succ (ops : List OpR) (k : Nat) (h : k < ops.length) : upTo ops (k + 1) = upTo ops k + ops[k].s.l.length := by
  unfold upTo
  rw [List.take_succ_eq_append_getElem h, List.map_append, List.sum_append]
  simp only [List.map_cons, List.map_nil, List.sum_cons, List.sum_nil, Nat.add_zero]
theorem upTo_le (ops : List OpR) (k : Nat) : upTo ops k ≤ (ops.map fun o => o.s.l.length).sum := by
  have h : (ops.map fun o => o.s.l.length).sum = (((ops.take k) ++ (ops.drop k)).map fun o => o.s.l.length).sum := by rw [List.take_append_drop]
  rw [h, List.map_append, List.sum_append]
  exact Nat.le_add_right _ _
/-- a step with the first of the two. -/
theorem step_calls {w0 w : World} {a b r s n : Nat} (h : Two w0 w a b r s n) (o : OpR) (hC : Kd.C (Kd.int .u8) w o.s.A (bl o.s.l).length (bl o.s.l)) (hc : (bl o.s.l).length ≤ o.s.c)
    (hlt : 0 < (bl o.s.l).length → ∀ x, o.s.A = some x → x.block < w0.heap.size) (hn : n + o.s.l.length ≤ 1048576) :
    Calls Try.prog 23 #[.pointer (some ⟨a, 0, none⟩), .pointer (some ⟨r, 0, none⟩), .agg #[.int .i64 o.kind, .bool o.two, o.s.val]] w fun e w' => e = .returned (.bool true) ∧ Two w0 w' a b r s (n + o.s.l.length) := by
  obtain ⟨v1, v2, l1, l2, h1, h2, h3, h4, h5, h6, h7, h8⟩ := h
  by_cases h9 : o.kind = 1
  · rw [h9]
    refine (digested_write a r v1 l1 o.s.l o.two o.s.A o.s.c w h1 hC hc (by omega) (fun hp x hx => ⟨fun hf => ?_, ?_⟩)).mono ?_
    · have := h4 _ hf; have := hlt hp x hx; omega
    · have := hlt hp x hx; have := h8.size; omega
    · rintro e w' ⟨rfl, hs⟩
      exact ⟨rfl, Two.step (n := n) h1 h2 h3 h4 h5 (by omega) h8 hs (by rw [List.length_append]; omega)⟩
  · by_cases h10 : o.kind = 4
    · rw [h10]
      refine (digested_reset a r v1 l1 o.two o.s.A o.s.c _ w h1).mono ?_
      rintro e w' ⟨rfl, hs⟩
      exact ⟨rfl, Two.step (n := n) h1 h2 h3 h4 h5 (by omega) h8 hs (Nat.zero_le _)⟩
    · refine (digested_ask a r v1 l1 o.kind o.two o.s.A o.s.c _ w h1 (by omega) h9 h10).mono ?_
      rintro e w' ⟨rfl, hs⟩
      exact ⟨rfl, Two.step (n := n) h1 h2 h3 h4 h5 (by omega) h8 hs (by omega)⟩
theorem at_add (b o j : Nat) : (⟨b, o, none⟩ : Addr).add j = ⟨b, o + j, none⟩ := by
  by_cases h : j = 0 <;> simp [Addr.add, h]
set_option maxHeartbeats 4000000 in
theorem walk (A : Option Addr) (len cap : Nat) (ops : List OpR) (w : World) (hlen : ops.length = len) (hcap : len ≤ 1048576) (hsum : (ops.map fun o => o.s.l.length).sum ≤ 1048576)
    (hat : 0 < len → ∃ x, A = some x ∧ x.block < w.heap.size ∧ ∀ i (hi : i < ops.length), ops[i].at_ w x i) :
    Calls Try.prog 6 #[.slice A len cap] w fun e w' => e = .returned (.bool true) ∧ Below w.heap.size w w' := by
  have HAT := Lib.hid hat
  have HLEN := Lib.hid hlen
  have HSUM := Lib.hid hsum
  clear hat hlen hsum
  go_enter Try.func6, Try.ntmps6
  go_wp2_with fail
  refine (new_calls _).mono ?_
  rintro e w' ⟨rfl, rfl⟩
  go_wp2_with fail
  refine (new_calls _).mono ?_
  rintro e w' ⟨rfl, rfl⟩
  go_wp2_with fail
  go_outline
  go_loopw [3, 4, 5, 6, 7] (fun p3 p4 p5 p6 i wr => ∃ a b r s k : Nat, p3 = .pointer (some ⟨a, 0, none⟩) ∧ p4 = .pointer (some ⟨b, 0, none⟩) ∧ p5 = .pointer (some ⟨r, 0, none⟩) ∧ p6 = .pointer (some ⟨s, 0, none⟩) ∧ k ≤ len ∧ i = .int .i64 k ∧ Two w wr a b r s (upTo ops k)) (fun _ _ _ _ i _ => len - (intOf i).toNat)
  case atStart =>
    refine ⟨_, _, _, _, 0, rfl, rfl, rfl, rfl, by omega, rfl, ?_⟩
    exact Two.start w
  case round =>
    obtain ⟨a, b, r, s, k, rfl, rfl, rfl, rfl, hk, rfl, htwo⟩ := hrel
    have HTWO := Lib.hid htwo
    clear htwo
    by_cases hlt : k < len
    · obtain ⟨x, rfl, hxb, hops⟩ := HAT.out (by omega)
      have hop := hops k (by rw [HLEN.out]; exact hlt)
      obtain ⟨o, ho⟩ : ∃ o, o = ops[k]'(by rw [HLEN.out]; exact hlt) := ⟨_, rfl⟩
      rw [← ho] at hop
      have HSL := Lib.hid (upTo_succ ops k (by rw [HLEN.out]; exact hlt))
      rw [← ho] at HSL
      have HUP := Lib.hid (Nat.le_trans (upTo_le ops (k + 1)) HSUM.out)
      clear ho
      obtain ⟨okind, otwo, oA, oc, ol⟩ := o
      have HOPS := Lib.hid hops
      obtain ⟨h0, h1, h2, hC, hcc, hblk⟩ := hop
      obtain ⟨_, _, _, _, _, _, _, _, _, _, _, hbel⟩ := HTWO.out
      obtain ⟨xb, xo, spot⟩ := x
      have hspot : spot = none := by simpa [Addr.add] using World.cell?_spot (hops 0 (by rw [HLEN.out]; omega)).1
      subst hspot
      have g0 : wr.cell? ⟨xb, xo + k * 3, none⟩ = some (.int .i64 okind) := (hbel.cell (p := ⟨xb, xo + k * 3, none⟩) hxb).trans (by have := h0; rwa [at_add, at_add, Nat.add_zero] at this)
      have g1 : wr.cell? ⟨xb, xo + k * 3 + 1, none⟩ = some (.bool otwo) := (hbel.cell (p := ⟨xb, xo + k * 3 + 1, none⟩) hxb).trans (by have := h1; rwa [at_add, at_add] at this)
      have g2 : wr.cell? ⟨xb, xo + k * 3 + 2, none⟩ = some (.slice oA (bl ol).length oc) := (hbel.cell (p := ⟨xb, xo + k * 3 + 2, none⟩) hxb).trans (by have := h2; rwa [at_add, at_add] at this)
      have hCr := Lib.hid (Kd.C_below hC hbel)
      clear hops hC h0 h1 h2
      by_cases h5 : okind = 5
      · subst h5
        have HT := Lib.hid (HTWO.out.alloc (.cells #[.int .i64 5, .bool otwo, .slice oA (bl ol).length oc] 40))
        cases otwo
        · go_wp2_with fail
          refine (new_calls _).mono ?_
          rintro e w' ⟨rfl, rfl⟩
          go_wp2_with fail
          refine ⟨⟨_, _, _, _, k + 1, rfl, rfl, rfl, rfl, by omega, by simp, ?_⟩, ?_⟩
          · have h := (Two.fresh HT.out rfl).more (m := upTo ops (k + 1)) (by have := HSL.out; omega)
            have hs : (wr.alloc (.cells #[.int .i64 5, .bool false, .slice oA (bl ol).length oc] 40)).heap.size = wr.heap.size + 1 := by simp
            rw [hs] at h
            exact h
          · simp [intOf]; omega
        · go_wp2_with fail
          refine (new_calls _).mono ?_
          rintro e w' ⟨rfl, rfl⟩
          go_wp2_with fail
          refine ⟨⟨_, _, _, _, k + 1, rfl, rfl, rfl, rfl, by omega, by simp, ?_⟩, ?_⟩
          · have h := (Two.fresh HT.out.swap rfl).swap.more (m := upTo ops (k + 1)) (by have := HSL.out; omega)
            have hs : (wr.alloc (.cells #[.int .i64 5, .bool true, .slice oA (bl ol).length oc] 40)).heap.size = wr.heap.size + 1 := by simp
            rw [hs] at h
            exact h
          · simp [intOf]; omega
      · have t5 : (okind == 5) = false := by simpa using h5
        have HT := Lib.hid (HTWO.out.alloc (.cells #[.int .i64 okind, .bool otwo, .slice oA (bl ol).length oc] 40))
        have HC := Lib.hid (Kd.C_alloc hCr.out (.cells #[.int .i64 okind, .bool otwo, .slice oA (bl ol).length oc] 40))
        have HLE := Lib.hid (show upTo ops k + ol.length ≤ 1048576 by have h1 := HUP.out; have h2 := HSL.out; have h3 := HSUM.out; simp only at h2; omega)
        cases otwo
        · go_wp2_with fail
          refine (step_calls HT.out ⟨okind, false, oA, oc, ol⟩ HC.out hcc hblk HLE.out).mono ?_
          rintro e w' ⟨rfl, h9⟩
          go_wp2_with fail
          refine ⟨⟨_, _, _, _, k + 1, rfl, rfl, rfl, rfl, by omega, by simp, ?_⟩, ?_⟩
          · exact h9.more (by have := HSL.out; exact Nat.le_of_eq this.symm)
          · simp [intOf]; omega
        · go_wp2_with fail
          refine (step_calls HT.out.swap ⟨okind, true, oA, oc, ol⟩ HC.out hcc hblk HLE.out).mono ?_
          rintro e w' ⟨rfl, h9⟩
          go_wp2_with fail
          refine ⟨⟨_, _, _, _, k + 1, rfl, rfl, rfl, rfl, by omega, by simp, ?_⟩, ?_⟩
          · exact h9.swap.more (by have := HSL.out; exact Nat.le_of_eq this.symm)
          · simp [intOf]; omega
    · obtain ⟨v1, v2, l1, l2, p1, p2, _, _, _, ln1, ln2, hbel⟩ := HTWO.out
      have hk' : k = len := by omega
      have HL : Hid (l1.length ≤ 1048576 ∧ l2.length ≤ 1048576) := Lib.hid (by have h1 := upTo_le ops k; have h2 := HSUM.out; exact ⟨by omega, by omega⟩)
      have HB := Lib.hid hbel
      have P1 := Lib.hid p1
      have P2 := Lib.hid p2
      have e1 : (bl l1).length = l1.length := bl_length l1
      have e2 : (bl l2).length = l2.length := bl_length l2
      have t1 : ((l1.length : Int) == ((bl l1).length : Int)) = true := by rw [e1, beq_self_eq_true]
      have t2 : ((l2.length : Int) == ((bl l2).length : Int)) = true := by rw [e2, beq_self_eq_true]
      have E1 := Lib.hid e1
      have E2 := Lib.hid e2
      obtain ⟨A1, c1, q1, hc1, hr1⟩ := p1.hr.2.1.reads
      obtain ⟨A2, c2, q2, hc2, hr2⟩ := p2.hr.2.1.reads
      have g1 : wr.cell? ⟨r, 0, none⟩ = some v1 := cell_of p1.hr.1 rfl
      have g2 : ∀ n, (wr.drewN n).cell? ⟨s, 0, none⟩ = some v2 := fun n => cell_of (p2.hr.only ((Only.refl wr (fun _ => False)).drewN n) (fun h => h) (fun _ _ h => h)).1 rfl
      have g3 : ∀ n, (wr.drewN n).cell? ⟨r, 0, none⟩ = some v1 := fun n => cell_of (p1.hr.only ((Only.refl wr (fun _ => False)).drewN n) (fun h => h) (fun _ _ h => h)).1 rfl
      have HR2 := Lib.hid (fun n => Kd.C_drewN hr2 n)
      have HR1 := Lib.hid hr1
      subst q1 q2
      clear e1 e2 hbel p1 p2 hr1 hr2 ln1 ln2
      go_wp2_with fail
      refine (dsum_calls a _ _ _ P1.out.hd).mono ?_
      rintro e w' ⟨rfl, rfl⟩
      go_wp2_with fail
      refine (dsum_calls b _ _ _ P2.out.hd).mono ?_
      rintro e w' ⟨rfl, rfl⟩
      go_wp2_with fail
      refine (dlen_calls a _ _ _ P1.out.hd).mono ?_
      rintro e w' ⟨rfl, rfl⟩
      go_wp2_with fail
      refine (dlen_calls b _ _ _ P2.out.hd).mono ?_
      rintro e w' ⟨rfl, rfl⟩
      go_wp2_with fail
      refine (rsum_calls A1 c1 l1 _ HR1.out hc1 (Nat.le_trans HL.out.1 (by decide))).mono ?_
      rintro e w' ⟨rfl, ⟨n1, rfl⟩⟩
      have g4 := g2 n1
      go_wp2_with fail
      refine (rsum_calls A2 c2 l2 _ (HR2.out n1) hc2 (Nat.le_trans HL.out.2 (by decide))).mono ?_
      rintro e w' ⟨rfl, ⟨n2, hn2⟩⟩
      have g5 : w'.cell? ⟨s, 0, none⟩ = some (.slice A2 (bl l2).length c2) := by rw [hn2]; exact cell_of (P2.out.hr.only (((Only.refl wr (fun _ => False)).drewN n1).drewN n2) (fun h => h) (fun _ _ h => h)).1 rfl
      have g6 : w'.cell? ⟨r, 0, none⟩ = some (.slice A1 (bl l1).length c1) := by rw [hn2]; exact cell_of (P1.out.hr.only (((Only.refl wr (fun _ => False)).drewN n1).drewN n2) (fun h => h) (fun _ _ h => h)).1 rfl
      have HN := Lib.hid hn2
      clear hn2
      go_wp2_with fail
      go_ret
      refine ⟨by simp [E1.out, E2.out], ?_⟩
      rw [HN.out]
      exact pw_below_drewN (pw_below_drewN HB.out n1) n2
end Go.Proofs.Ytcfnpippmdijaaa.Ops
