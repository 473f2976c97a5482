/- Package crc's Burst, as it was printed, turns just the bits of the mask's stream: for every list of bytes, every place and mask that are not refused. -/
import Derived.Test.YtcfnpippmdijaaaPAllx4
import Derived.Test.YtcfnpippmdijaaaBridge
namespace Go.Proofs.Ytcfnpippmdijaaa.Bridge
open Go.RowKit Go.Proofs.Ytcfnpippmdijaaa.PAll Go.Proofs.YtcfnpippmdijaaaW.PrintWords Go.Proofs.YtcfnpippmdijaaaW.PrintLast Go.Proofs.YtcfnpippmdijaaaW.PrintMore CrcM

/-- the number of m bits of a stream, from the place b on. -/
def xn (f : Nat → Bool) (b : Nat) : Nat → Nat
  | 0 => 0
  | m + 1 => if f (b + m) = true then xn f b m ||| 2 ^ m else xn f b m
theorem xn_bit (f : Nat → Bool) (b m j : Nat) : (xn f b m).testBit j = (decide (j < m) && f (b + j)) := by
  induction m with
  | zero => simp [xn]
  | succ m ih =>
    rw [xn]
    by_cases h : f (b + m) = true
    · rw [if_pos h, Nat.testBit_or, ih, Nat.testBit_two_pow]
      by_cases h1 : j < m
      · simp [h1, show j < m + 1 by omega]
        intro h2; omega
      · by_cases h2 : m = j
        · subst h2; simp [h]
        · simp [h1, h2, show ¬ j < m + 1 by omega]
    · rw [if_neg h, ih]
      by_cases h1 : j < m
      · simp [h1, show j < m + 1 by omega]
      · by_cases h2 : j = m
        · subst h2; simp [h]
        · simp [h1, show ¬ j < m + 1 by omega]
theorem xn_lt (f : Nat → Bool) (b m : Nat) : xn f b m < 2 ^ m := by
  apply Nat.lt_pow_two_of_testBit
  intro i hi
  rw [xn_bit]; simp; omega
def byteF (f : Nat → Bool) (q : Nat) : UInt8 := UInt8.ofNat (xn f (8 * q) 8)
theorem byteF_toNat (f : Nat → Bool) (q : Nat) : (byteF f q).toNat = xn f (8 * q) 8 := by
  unfold byteF; rw [UInt8.toNat_ofNat']; have := xn_lt f (8 * q) 8; omega
theorem byteF_bit (f : Nat → Bool) (q j : Nat) : (byteF f q).toNat.testBit j = (decide (j < 8) && f (8 * q + j)) := by rw [byteF_toNat, xn_bit]
theorem byte_ext {a b : UInt8} (h : ∀ j, a.toNat.testBit j = b.toNat.testBit j) : a = b := UInt8.toNat_inj.1 (Nat.eq_of_testBit_eq h)
/-- bytes, and the bits of a stream turned. -/
def turn (l : List UInt8) (f : Nat → Bool) : List UInt8 := List.zipWith (· ^^^ ·) l ((List.range l.length).map (byteF f))
theorem turn_length (l : List UInt8) (f : Nat → Bool) : (turn l f).length = l.length := by simp [turn]
theorem turn_at (l : List UInt8) (f : Nat → Bool) (q : Nat) (h : q < l.length) : (turn l f)[q]'(by rw [turn_length]; exact h) = l[q] ^^^ byteF f q := by
  simp [turn]
theorem bit_toNat (m : Nat) (h : m < 8) : (UInt8.ofNat (2 ^ m)).toNat = 2 ^ m := by
  rw [UInt8.toNat_ofNat']; exact Nat.mod_eq_of_lt (Nat.pow_lt_pow_right (a := 2) (by decide) h)
theorem turn_set (l : List UInt8) (f g : Nat → Bool) (t : Nat) (ht : t / 8 < l.length) (h0 : f t = false) (h1 : g t = true) (h2 : ∀ k, k ≠ t → g k = f k) :
    (turn l f).set (t / 8) ((turn l f)[t / 8]'(by rw [turn_length]; exact ht) ^^^ UInt8.ofNat (2 ^ (t % 8))) = turn l g := by
  apply List.ext_getElem
  · rw [List.length_set, turn_length, turn_length]
  · intro i hi1 hi2
    rw [turn_length] at hi2
    rw [List.getElem_set, turn_at l g i hi2]
    by_cases e : t / 8 = i
    · subst e
      rw [if_pos rfl, turn_at l f _ hi2, UInt8.xor_assoc]
      congr 1
      apply byte_ext
      intro j
      rw [UInt8.toNat_xor, Nat.testBit_xor, byteF_bit, byteF_bit, bit_toNat _ (by omega), Nat.testBit_two_pow]
      by_cases hj : j < 8
      · by_cases h3 : t % 8 = j
        · have : 8 * (t / 8) + j = t := by omega
          rw [this, h0, h1]; simp [hj, h3]
        · have : 8 * (t / 8) + j ≠ t := by omega
          rw [h2 _ this]; simp [h3]
      · simp [hj]; omega
    · rw [if_neg e, turn_at l f i hi2]
      congr 1
      apply byte_ext
      intro j
      rw [byteF_bit, byteF_bit]
      by_cases hj : j < 8
      · rw [h2 (8 * i + j) (by omega)]
      · simp [hj]
theorem turn_same (l : List UInt8) (f g : Nat → Bool) (h : ∀ k, g k = f k) : turn l g = turn l f := by
  have : g = f := funext h
  rw [this]
theorem burst_lows (p : Nat) (mask : W) (i k : Nat) : burst p (lows mask i) k = (decide (p ≤ k) && (decide (k - p < i) && mask.getLsbD (k - p))) := by unfold burst; rw [lows_bit]
theorem turn_none (l : List UInt8) (p : Nat) (mask : W) : turn l (burst p (lows mask 0)) = l := by
  apply List.ext_getElem
  · rw [turn_length]
  · intro i h1 h2
    rw [turn_at l _ i h2]
    have : byteF (burst p (lows mask 0)) i = 0 := by
      apply byte_ext
      intro j
      rw [byteF_bit, burst_lows]; simp
    rw [this]; simp
theorem shrbit_ui (mask : W) (i : Nat) (h : i < 32) : Go.bits .and .u32 (shr .u32 (ui mask) (i : Int)) 1 = if mask.getLsbD i = true then 1 else 0 := by
  have e : shr .u32 (ui mask) (i : Int) = ui (mask >>> i) := by
    unfold shr ui
    rw [BitVec.toNat_ushiftRight, Nat.shiftRight_eq_div_pow, Int.toNat_natCast]
    have : min i (IntKind.bits .u32) = i := by simp [IntKind.bits]; omega
    rw [this]; push_cast; rfl
  rw [e, and1_ui, BitVec.getLsbD_ushiftRight, Nat.add_zero]
theorem shl1_byte (m : Nat) (h : m < 8) : shl .u8 1 (m : Int) = ((UInt8.ofNat (2 ^ m)).toNat : Int) := by
  rw [bit_toNat m h]
  unfold shl
  rw [Int.toNat_natCast]
  have : min m (IntKind.bits .u8) = m := by simp [IntKind.bits]; omega
  rw [this, IntKind.wrap_u8', Int.one_mul]
  have h2 := Nat.pow_lt_pow_right (a := 2) (by decide) h
  have h3 : ((2 : Int) ^ m) = ((2 ^ m : Nat) : Int) := by push_cast; rfl
  have h4 := Nat.two_pow_pos m
  rw [h3]; omega
theorem tdiv8 (n : Nat) : Int.tdiv (n : Int) 8 = ((n / 8 : Nat) : Int) := by rw [Int.tdiv_eq_ediv_of_nonneg (by omega)]; omega
theorem tmod8 (n : Nat) : Int.tmod (n : Int) 8 = ((n % 8 : Nat) : Int) := by rw [Int.tmod_eq_emod_of_nonneg (by omega)]; omega
theorem wrapN (n : Nat) (h : n ≤ 9223372036854775807) : wrap64 (n : Int) = (n : Int) := by unfold wrap64; omega
theorem wrapA (n m : Nat) (h : n + m ≤ 9223372036854775807) : wrap64 ((n : Int) + (m : Int)) = ((n + m : Nat) : Int) := by unfold wrap64; omega
theorem burst_loop (m : Nat) : ∀ (l : List UInt8) (p : Nat) (mask : W) (i : Nat), i + m = 32 → l.length ≤ 140737488351232 → p ≤ 8 * l.length → (∀ j, mask.getLsbD j = true → p + j < 8 * l.length) →
    Ev (fun k => crc_Burst.l0 k (p : Int) (ui mask) ((8 * l.length : Nat) : Int) (bl (turn l (burst p (lows mask i)))) (i : Int)) (bl (turn l (burst p mask)), 0) := by
  induction m with
  | zero =>
    intro l p mask i hi hl hp hm
    refine Ev.step (f := fun _ => some _) (fun k => ?_) (Ev.now _)
    simp only [crc_Burst.l0]
    rw [if_neg (by omega), show i = 32 by omega, lows_all mask 32 (fun i hi => BitVec.getLsbD_of_ge _ _ hi)]
  | succ m ih =>
    intro l p mask i hi hl hp hm
    refine Ev.step (fun k => ?_) (ih l p mask (i + 1) (by omega) hl hp hm)
    simp only [crc_Burst.l0]
    rw [if_pos (by omega), if_pos (by omega), shrbit_ui mask i (by omega), wrapS i (by omega)]
    by_cases hb : mask.getLsbD i = true
    · have hlt := hm i hb
      have hq : (p + i) / 8 < l.length := by omega
      rw [if_pos hb, if_neg (by decide), wrapA p i (by omega), if_neg (by omega), tdiv8, wrapN _ (by omega), tmod8, if_pos (by omega), if_pos (by rw [bl_length, turn_length]; omega), if_pos (by omega),
        Int.toNat_natCast, rd_bl _ _ (by rw [turn_length]; exact hq), shl1_byte _ (by omega), xor_byte]
      have hs := turn_set l (burst p (lows mask i)) (burst p (lows mask (i + 1))) (p + i) hq (by rw [burst_lows]; simp) (by rw [burst_lows]; simp [hb]) (fun k hk => by
        rw [burst_lows, burst_lows]
        by_cases h1 : p ≤ k
        · by_cases h2 : k - p < i
          · simp [h2, show k - p < i + 1 by omega]
          · simp [h2, show ¬ k - p < i + 1 by omega]
        · simp [h1])
      rw [← hs]
      congr 1
      unfold bl; rw [List.map_set]
    · rw [if_neg hb, if_pos rfl]
      rw [turn_same l (burst p (lows mask i)) (burst p (lows mask (i + 1)))]
      intro k
      rw [burst_lows, burst_lows]
      by_cases h2 : k - p < i
      · simp [h2, show k - p < i + 1 by omega]
      · by_cases h3 : k - p = i
        · rw [h3]; simp [hb]
        · simp [h2, show ¬ k - p < i + 1 by omega]
theorem burst_ev (l : List UInt8) (p : Nat) (mask : W) (hl : l.length ≤ 140737488351232) (hp : p ≤ 8 * l.length) (hm : ∀ j, mask.getLsbD j = true → p + j < 8 * l.length) :
    Ev (fun k => crc_Burst.f k (bl l) (p : Int) (ui mask)) (bl (turn l (burst p mask)), 0) := by
  have h := burst_loop 32 l p mask 0 rfl hl hp hm
  rw [turn_none] at h
  have e : wrap64 (8 * ((bl l).length : Int)) = ((8 * l.length : Nat) : Int) := by rw [bl_length]; unfold wrap64; omega
  have h2 : Ev (fun k => crc_Burst.j0 k (bl l) (p : Int) (ui mask) (wrap64 (8 * ((bl l).length : Int))) false) (bl (turn l (burst p mask)), 0) := by
    refine Ev.step (fun k => ?_) h
    simp only [crc_Burst.j0]
    rw [if_neg (by decide), if_pos (by rw [bl_length]; simp; omega), List.nil_append, e]
    rfl
  refine Ev.congr (fun k => ?_) h2
  unfold crc_Burst.f
  rw [if_neg (by omega), e]
  congr 1
  exact decide_eq_false (by omega)
/-- the sums differ just if the mask is not 0. -/
theorem told_turn (l : List UInt8) (p : Nat) (mask : W) (hp : p ≤ 8 * l.length) (hm : ∀ j, mask.getLsbD j = true → p + j < 8 * l.length) : CrcM.sum l = CrcM.sum (turn l (burst p mask)) ↔ mask = BitVec.ofNat 32 0 := by
  refine CrcM.told l _ ((List.range l.length).map (byteF (burst p mask))) p mask (by simp) rfl hp hm ?_
  intro i hi j hj
  have hi' : i < l.length := by simpa using hi
  show (bw _).toNat.testBit j = _
  rw [bw_toNat, List.getD_eq_getElem?_getD, List.getElem?_map, List.getElem?_range hi']
  show (byteF (burst p mask) i).toNat.testBit j = _
  rw [byteF_bit]; simp [hj]
end Go.Proofs.Ytcfnpippmdijaaa.Bridge
