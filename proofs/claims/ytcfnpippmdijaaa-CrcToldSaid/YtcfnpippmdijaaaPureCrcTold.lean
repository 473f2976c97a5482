/- For every list of bytes, every place and every mask of 32 bits: a burst that is not refused turns just its bits, and the sum is the same just if the mask is 0. No condition beside the reach of a slice. -/
import Derived.Test.YtcfnpippmdijaaaPAllx4
import Derived.Test.YtcfnpippmdijaaaBridge
import Derived.Test.YtcfnpippmdijaaaBurst
namespace Go.Proofs.Ytcfnpippmdijaaa.Pure
open Go.RowKit Go.Proofs.Ytcfnpippmdijaaa.PAll Go.Proofs.YtcfnpippmdijaaaW.PrintWords Go.Proofs.YtcfnpippmdijaaaW.PrintLast Go.Proofs.YtcfnpippmdijaaaW.PrintMore Go.Proofs.Ytcfnpippmdijaaa.Bridge CrcM

theorem of_i64 {a : Int} (h : (Lit.int .i64 a).wf = true) : -9223372036854775808 ≤ a ∧ a ≤ 9223372036854775807 := by
  simpa [Lit.wf, IntKind.min, IntKind.max, IntKind.signed, IntKind.bits] using h
theorem or_byte (a b : UInt8) : Go.bits .or .u8 (a.toNat : Int) (b.toNat : Int) = ((a ||| b).toNat : Int) := by
  rw [u8_or_nat _ _ a.toNat_lt b.toNat_lt, UInt8.toNat_or]
theorem zero_word (x : W) : ((ui x == 0) = true) ↔ x = BitVec.ofNat 32 0 := by
  rw [beq_iff_eq]
  constructor
  · intro h; apply BitVec.eq_of_toNat_eq; unfold ui at h; simp; omega
  · intro h; subst h; rfl
/-- the law's inner loop: one byte's bits. -/
theorem told_bits (m : Nat) : ∀ (l : List UInt8) (p : Nat) (mask : W) (b : List Int) (i j : Nat), j + m = 8 → l.length ≤ 140737488351232 → p ≤ 8 * l.length → (hi : i < l.length) → b.length = l.length →
    rd b (i : Int) = ((l[i]'hi ^^^ byteF (burst p mask) i).toNat : Int) →
    Ev (fun k => amberlaw01_CrcTold.l1 k (bl l) (p : Int) (ui mask) b ((i + 1 : Nat) : Int)) true →
    Ev (fun k => amberlaw01_CrcTold.l2 k (bl l) (p : Int) (ui mask) b (i : Int) (xn (burst p mask) (8 * i) j : Int) (j : Int)) true := by
  induction m with
  | zero =>
    intro l p mask b i j hj hl hp hi hb hr h
    refine Ev.step (fun k => ?_) h
    simp only [amberlaw01_CrcTold.l2]
    obtain rfl : j = 8 := by omega
    have e : Go.bits .xor .u8 (rd (bl l) (i : Int)) (xn (burst p mask) (8 * i) 8 : Int) = rd b (i : Int) := by
      rw [rd_bl l i hi, ← byteF_toNat, xor_byte, hr]
    rw [if_neg (by omega), if_pos (by omega), if_pos (by omega), if_pos (by rw [bl_length]; omega), e, if_pos rfl, wrapS i (by omega)]
  | succ m ih =>
    intro l p mask b i j hj hl hp hi hb hr h
    have hrec := ih l p mask b i (j + 1) (by omega) hl hp hi hb hr h
    refine Ev.step (fun k => ?_) hrec
    simp only [amberlaw01_CrcTold.l2]
    have e1 : wrap64 (8 * (i : Int)) = ((8 * i : Nat) : Int) := by unfold wrap64; omega
    have e3 : wrap64 (((8 * i + j : Nat) : Int) - (p : Int)) = ((8 * i + j : Nat) : Int) - (p : Int) := by unfold wrap64; omega
    rw [if_pos (by omega), e1, wrapA _ _ (by omega), e3, wrapS j (by omega)]
    have hstay : burst p mask (8 * i + j) = false → xn (burst p mask) (8 * i) (j + 1) = xn (burst p mask) (8 * i) j := by
      intro hb; rw [xn, if_neg (by rw [hb]; decide)]
    by_cases h1 : p ≤ 8 * i + j
    · obtain ⟨q, hq⟩ : ∃ q, 8 * i + j = p + q := ⟨8 * i + j - p, by omega⟩
      have e4 : ((8 * i + j : Nat) : Int) - (p : Int) = (q : Int) := by omega
      have hbq : burst p mask (8 * i + j) = mask.getLsbD q := by unfold burst; rw [hq]; simp
      rw [e4, if_pos (by omega)]
      by_cases h2 : q < 32
      · rw [if_pos (by omega), if_pos (by omega), shrbit_ui mask q h2]
        by_cases h3 : mask.getLsbD q = true
        · rw [if_pos h3, if_pos rfl, if_pos (by omega)]
          congr 1
          have hx := xn_lt (burst p mask) (8 * i) j
          have h2j := Nat.pow_lt_pow_right (a := 2) (by decide) (show j < 8 by omega)
          rw [shl1_byte j (by omega), bit_toNat j (by omega), u8_or_nat _ _ (by omega) (by omega)]
          rw [xn, if_pos (by rw [hbq]; exact h3)]
        · rw [if_neg h3, if_neg (by decide), hstay (by rw [hbq]; simpa using h3)]
      · rw [if_neg (by omega), hstay (by rw [hbq]; exact BitVec.getLsbD_of_ge _ _ (by omega))]
    · rw [if_neg (by omega), hstay (by unfold burst; simp [h1])]
theorem told_bytes (m : Nat) : ∀ (l : List UInt8) (p : Nat) (mask : W) (i : Nat), i + m = l.length → l.length ≤ 140737488351232 → p ≤ 8 * l.length → (∀ j, mask.getLsbD j = true → p + j < 8 * l.length) →
    Ev (fun k => amberlaw01_CrcTold.l1 k (bl l) (p : Int) (ui mask) (bl (turn l (burst p mask))) (i : Int)) true := by
  induction m with
  | zero =>
    intro l p mask i hi hl hp hm
    refine Ev.step (f := fun k => (crc_Sum.f k (bl l)).bind fun s => (crc_Sum.f k (bl (turn l (burst p mask)))).bind fun t => some ((s == t) == (ui mask == 0))) (fun k => ?_) ?_
    · simp only [amberlaw01_CrcTold.l1]
      rw [if_neg (by rw [bl_length]; omega), copied_eq _ (by rw [bl_length]; exact hl), Option.bind_some]
    · refine Ev.bind (sum_ev l (by unfold maxLen; omega)) ?_
      refine Ev.bind (f := fun _ t => some ((ui (sum l) == t) == (ui mask == 0))) (sum_ev _ (by rw [turn_length]; unfold maxLen; omega)) ?_
      have e : ((ui (sum l) == ui (sum (turn l (burst p mask)))) == (ui mask == 0)) = true := by
        have ht := told_turn l p mask hp hm
        rw [beq_iff_eq, Bool.eq_iff_iff, zero_word, ← ht, beq_iff_eq]
        exact ⟨fun h => ui_inj h, fun h => by rw [h]⟩
      rw [e]
      exact Ev.now _
  | succ m ih =>
    intro l p mask i hi hl hp hm
    refine Ev.step (fun k => ?_) (told_bits 8 l p mask (bl (turn l (burst p mask))) i 0 rfl hl hp (by omega) (by rw [bl_length, turn_length]) ?_ (ih l p mask (i + 1) (by omega) hl hp hm))
    · simp only [amberlaw01_CrcTold.l1]
      rw [if_pos (by rw [bl_length]; omega)]
      rfl
    · rw [rd_bl _ i (by rw [turn_length]; omega), turn_at l _ i (by omega)]
theorem told_all (l : List UInt8) (p : Nat) (mask : W) (hl : l.length ≤ 140737488351232) (hp : p ≤ 8 * l.length) (m : Nat) : ∀ i, i + m = 32 → (∀ j, j < i → mask.getLsbD j = true → p + j < 8 * l.length) →
    Ev (fun k => amberlaw01_CrcTold.l0 k (bl l) (p : Int) (ui mask) (i : Int)) true := by
  have eb : wrap64 (8 * ((bl l).length : Int)) = ((8 * l.length : Nat) : Int) := by rw [bl_length]; unfold wrap64; omega
  induction m with
  | zero =>
    intro i hi hm
    have hm' : ∀ j, mask.getLsbD j = true → p + j < 8 * l.length := fun j hj => by
      by_cases h : j < 32
      · exact hm j (by omega) hj
      · rw [BitVec.getLsbD_of_ge _ _ (by omega)] at hj; exact absurd hj (by decide)
    refine Ev.step (f := fun k => (crc_Burst.f k (bl l) (p : Int) (ui mask)).bind fun b => if b.2 = 0 then amberlaw01_CrcTold.j2 k (bl l) (p : Int) (ui mask) b.1 ((b.1.length : Int) != ((bl l).length : Int)) else amberlaw01_CrcTold.j2 k (bl l) (p : Int) (ui mask) b.1 true) (fun k => ?_) ?_
    · simp only [amberlaw01_CrcTold.l0]
      rw [if_neg (by omega), copied_eq _ (by rw [bl_length]; exact hl), Option.bind_some]
    · refine Ev.bind (burst_ev l p mask hl hp hm') ?_
      simp only [if_true]
      have e : (((bl (turn l (burst p mask))).length : Int) != ((bl l).length : Int)) = false := by rw [bl_length, bl_length, turn_length]; simp
      rw [e]
      refine Ev.step (fun k => ?_) (told_bytes l.length l p mask 0 (by omega) hl hp hm')
      simp only [amberlaw01_CrcTold.j2]
      rw [if_neg (by decide)]
      rfl
  | succ m ih =>
    intro i hi hm
    by_cases hb : mask.getLsbD i = true
    · by_cases hlt : p + i < 8 * l.length
      · refine Ev.step (fun k => ?_) (ih (i + 1) (by omega) (fun j hj hj2 => by
          by_cases e : j = i
          · subst e; exact hlt
          · exact hm j (by omega) hj2))
        simp only [amberlaw01_CrcTold.l0]
        rw [if_pos (by omega), if_pos (by omega), shrbit_ui mask i (by omega), if_pos hb, if_pos rfl, wrapA p i (by omega), eb, if_neg (by omega), wrapS i (by omega)]
      · refine Ev.step (f := fun _ => some true) (fun k => ?_) (Ev.now _)
        simp only [amberlaw01_CrcTold.l0]
        rw [if_pos (by omega), if_pos (by omega), shrbit_ui mask i (by omega), if_pos hb, if_pos rfl, wrapA p i (by omega), eb, if_pos (by omega)]
    · refine Ev.step (fun k => ?_) (ih (i + 1) (by omega) (fun j hj hj2 => by
          by_cases e : j = i
          · subst e; exact absurd hj2 hb
          · exact hm j (by omega) hj2))
      simp only [amberlaw01_CrcTold.l0]
      rw [if_pos (by omega), if_pos (by omega), shrbit_ui mask i (by omega), if_neg hb, if_neg (by decide), wrapS i (by omega)]
theorem CrcTold : amberlaw01_CrcTold.Pure := by
  intro l a x hl hs hw ha hx
  obtain ⟨L, rfl⟩ := of_bytes hw
  obtain ⟨M, rfl⟩ := of_u32 hx
  have ha' := of_i64 ha
  rw [bl_length] at hl hs
  have hl' : L.length ≤ 140737488351232 := by omega
  have eb : wrap64 (8 * ((bl L).length : Int)) = ((8 * L.length : Nat) : Int) := by rw [bl_length]; unfold wrap64; omega
  refine Ev.rounds (g := fun k => amberlaw01_CrcTold.f k (bl L) a (ui M)) ?_
  unfold amberlaw01_CrcTold.f
  refine Ev.bind known_ev ?_
  simp only [if_true]
  rw [eb]
  have out : ∀ b, Ev (fun k => amberlaw01_CrcTold.j0 k (bl L) b (ui M) true) true := fun b => by
    refine Ev.step (f := fun _ => some true) (fun k => ?_) (Ev.now _)
    simp only [amberlaw01_CrcTold.j0]
    rw [if_pos trivial]
  by_cases h0 : a < 0
  · refine Ev.congr (fun k => ?_) (out a)
    rw [if_pos h0]
  · by_cases h1 : a > ((8 * L.length : Nat) : Int)
    · refine Ev.congr (fun k => ?_) (out a)
      rw [if_neg h0, decide_eq_true h1]
    · obtain ⟨p, rfl⟩ := Int.eq_ofNat_of_zero_le (show 0 ≤ a by omega)
      refine Ev.congr (f := fun k => amberlaw01_CrcTold.j0 k (bl L) (p : Int) (ui M) false) (fun k => ?_) ?_
      · rw [if_neg h0, decide_eq_false h1]
      · refine Ev.step (fun k => ?_) (told_all L p M hl' (by omega) 32 0 rfl (fun j hj => by omega))
        simp only [amberlaw01_CrcTold.j0]
        rw [if_neg (by decide)]
        rfl

end Go.Proofs.Ytcfnpippmdijaaa.Pure
