/- Bits of bytes turned; a sealed run, written and read, with bits turned: for every list of bytes. No program in sight. -/
import Derived.Test.YtdmliaodacaefaaReadsWalk
import Derived.Test.YtdmliaodacaefaaWritesWalk
namespace Go.Proofs.Ytdmliaodacaefaa.Bu
open Go.RowKit Go.Proofs.YtdmliaodacaefaaW.PrintWords Go.Proofs.YtdmliaodacaefaaW.PrintLast Go.Proofs.YtdmliaodacaefaaW.PrintMore Go.Proofs.Ytdmliaodacaefaa.Bridge Go.Proofs.Ytdmliaodacaefaa.Wr Go.Proofs.Ytdmliaodacaefaa.Rd CrcM
set_option linter.unusedVariables false
set_option linter.unusedSimpArgs false
set_option linter.unusedSectionVars false
/-- the number of m bits of a stream, from the place b on. -/
def xn (f : Nat → Bool) (b : Nat) : Nat → Nat
  | 0 => 0
  | m + 1 => if f (b + m) = true then xn f b m ||| 2 ^ m else xn f b m
theorem xn_bit (f : Nat → Bool) (b m j : Nat) : (xn f b m).testBit j = (decide (j < m) && f (b + j)) := by
  induction m with
  | zero => simp [xn]
  | succ m ih =>
    rw [xn]
    by_cases h : f (b + m) = true
    · rw [if_pos h, Nat.testBit_or, ih, Nat.testBit_two_pow]
      by_cases h1 : j < m
      · simp [h1, show j < m + 1 by omega]
        intro h2; omega
      · by_cases h2 : m = j
        · subst h2; simp [h]
        · simp [h1, h2, show ¬ j < m + 1 by omega]
    · rw [if_neg h, ih]
      by_cases h1 : j < m
      · simp [h1, show j < m + 1 by omega]
      · by_cases h2 : j = m
        · subst h2; simp [h]
        · simp [h1, show ¬ j < m + 1 by omega]
theorem xn_lt (f : Nat → Bool) (b m : Nat) : xn f b m < 2 ^ m := by
  apply Nat.lt_pow_two_of_testBit
  intro i hi
  rw [xn_bit]; simp; omega
def byteF (f : Nat → Bool) (q : Nat) : UInt8 := UInt8.ofNat (xn f (8 * q) 8)
theorem byteF_toNat (f : Nat → Bool) (q : Nat) : (byteF f q).toNat = xn f (8 * q) 8 := by
  unfold byteF; rw [UInt8.toNat_ofNat']; have := xn_lt f (8 * q) 8; omega
theorem byteF_bit (f : Nat → Bool) (q j : Nat) : (byteF f q).toNat.testBit j = (decide (j < 8) && f (8 * q + j)) := by rw [byteF_toNat, xn_bit]
theorem byte_ext {a b : UInt8} (h : ∀ j, a.toNat.testBit j = b.toNat.testBit j) : a = b := UInt8.toNat_inj.1 (Nat.eq_of_testBit_eq h)
/-- bytes, and the bits of a stream turned. -/
def turn (l : List UInt8) (f : Nat → Bool) : List UInt8 := List.zipWith (· ^^^ ·) l ((List.range l.length).map (byteF f))
theorem turn_length (l : List UInt8) (f : Nat → Bool) : (turn l f).length = l.length := by simp [turn]
theorem turn_at (l : List UInt8) (f : Nat → Bool) (q : Nat) (h : q < l.length) : (turn l f)[q]'(by rw [turn_length]; exact h) = l[q] ^^^ byteF f q := by
  simp [turn]
theorem bit_toNat (m : Nat) (h : m < 8) : (UInt8.ofNat (2 ^ m)).toNat = 2 ^ m := by
  rw [UInt8.toNat_ofNat']; exact Nat.mod_eq_of_lt (Nat.pow_lt_pow_right (a := 2) (by decide) h)
theorem turn_set (l : List UInt8) (f g : Nat → Bool) (t : Nat) (ht : t / 8 < l.length) (h0 : f t = false) (h1 : g t = true) (h2 : ∀ k, k ≠ t → g k = f k) :
    (turn l f).set (t / 8) ((turn l f)[t / 8]'(by rw [turn_length]; exact ht) ^^^ UInt8.ofNat (2 ^ (t % 8))) = turn l g := by
  apply List.ext_getElem
  · rw [List.length_set, turn_length, turn_length]
  · intro i hi1 hi2
    rw [turn_length] at hi2
    rw [List.getElem_set, turn_at l g i hi2]
    by_cases e : t / 8 = i
    · subst e
      rw [if_pos rfl, turn_at l f _ hi2, UInt8.xor_assoc]
      congr 1
      apply byte_ext
      intro j
      rw [UInt8.toNat_xor, Nat.testBit_xor, byteF_bit, byteF_bit, bit_toNat _ (by omega), Nat.testBit_two_pow]
      by_cases hj : j < 8
      · by_cases h3 : t % 8 = j
        · have : 8 * (t / 8) + j = t := by omega
          rw [this, h0, h1]; simp [hj, h3]
        · have : 8 * (t / 8) + j ≠ t := by omega
          rw [h2 _ this]; simp [h3]
      · simp [hj]; omega
    · rw [if_neg e, turn_at l f i hi2]
      congr 1
      apply byte_ext
      intro j
      rw [byteF_bit, byteF_bit]
      by_cases hj : j < 8
      · rw [h2 (8 * i + j) (by omega)]
      · simp [hj]
theorem turn_same (l : List UInt8) (f g : Nat → Bool) (h : ∀ k, g k = f k) : turn l g = turn l f := by
  have : g = f := funext h
  rw [this]
theorem burst_lows (p : Nat) (mask : W) (i k : Nat) : burst p (lows mask i) k = (decide (p ≤ k) && (decide (k - p < i) && mask.getLsbD (k - p))) := by unfold burst; rw [lows_bit]
theorem turn_none (l : List UInt8) (p : Nat) (mask : W) : turn l (burst p (lows mask 0)) = l := by
  apply List.ext_getElem
  · rw [turn_length]
  · intro i h1 h2
    rw [turn_at l _ i h2]
    have : byteF (burst p (lows mask 0)) i = 0 := by
      apply byte_ext
      intro j
      rw [byteF_bit, burst_lows]; simp
    rw [this]; simp
theorem shrbit_ui (mask : W) (i : Nat) (h : i < 32) : Go.bits .and .u32 (shr .u32 (ui mask) (i : Int)) 1 = if mask.getLsbD i = true then 1 else 0 := by
  have e : shr .u32 (ui mask) (i : Int) = ui (mask >>> i) := by
    unfold shr ui
    rw [BitVec.toNat_ushiftRight, Nat.shiftRight_eq_div_pow, Int.toNat_natCast]
    have : min i (IntKind.bits .u32) = i := by simp [IntKind.bits]; omega
    rw [this]; push_cast; rfl
  rw [e, and1_ui, BitVec.getLsbD_ushiftRight, Nat.add_zero]
theorem shl1_byte (m : Nat) (h : m < 8) : shl .u8 1 (m : Int) = ((UInt8.ofNat (2 ^ m)).toNat : Int) := by
  rw [bit_toNat m h]
  unfold shl
  rw [Int.toNat_natCast]
  have : min m (IntKind.bits .u8) = m := by simp [IntKind.bits]; omega
  rw [this, IntKind.wrap_u8', Int.one_mul]
  have h2 := Nat.pow_lt_pow_right (a := 2) (by decide) h
  have h3 : ((2 : Int) ^ m) = ((2 ^ m : Nat) : Int) := by push_cast; rfl
  have h4 := Nat.two_pow_pos m
  rw [h3]; omega
theorem tdiv8 (n : Nat) : Int.tdiv (n : Int) 8 = ((n / 8 : Nat) : Int) := by rw [Int.tdiv_eq_ediv_of_nonneg (by omega)]; omega
theorem tmod8 (n : Nat) : Int.tmod (n : Int) 8 = ((n % 8 : Nat) : Int) := by rw [Int.tmod_eq_emod_of_nonneg (by omega)]; omega
theorem wrapN (n : Nat) (h : n ≤ 9223372036854775807) : wrap64 (n : Int) = (n : Int) := by unfold wrap64; omega
theorem wrapA (n m : Nat) (h : n + m ≤ 9223372036854775807) : wrap64 ((n : Int) + (m : Int)) = ((n + m : Nat) : Int) := by unfold wrap64; omega
/-- the sums differ just if the mask is not 0. -/
theorem told_turn (l : List UInt8) (p : Nat) (mask : W) (hp : p ≤ 8 * l.length) (hm : ∀ j, mask.getLsbD j = true → p + j < 8 * l.length) : CrcM.sum l = CrcM.sum (turn l (burst p mask)) ↔ mask = BitVec.ofNat 32 0 := by
  refine CrcM.told l _ ((List.range l.length).map (byteF (burst p mask))) p mask (by simp) rfl hp hm ?_
  intro i hi j hj
  have hi' : i < l.length := by simpa using hi
  show (bw _).toNat.testBit j = _
  rw [bw_toNat, List.getD_eq_getElem?_getD, List.getElem?_map, List.getElem?_range hi']
  show (byteF (burst p mask) i).toNat.testBit j = _
  rw [byteF_bit]; simp [hj]

/-- what the writer's bytes are: the body and its sum's four. -/
def mark (l m : List UInt8) : List UInt8 := m ++ little 4 (CrcM.sum l).toNat
theorem mark_length (l m : List UInt8) : (mark l m).length = m.length + 4 := by unfold mark; rw [List.length_append, little_length]
theorem worth_sum (w : CrcM.W) : worth (little 4 w.toNat) = w.toNat := by
  rw [worth_little]; exact Nat.mod_eq_of_lt (by have := w.isLt; simpa using this)
theorem run_state (l : List UInt8) : ((((WS.new (l.length + 4)).open_).put l).seal) = ⟨mark l l, l.length + 4, [], 0⟩ := by
  have h0 : (WS.new (l.length + 4)).open_ = ⟨[], l.length + 4, [0], 0⟩ := by
    unfold WS.open_ WS.new; rfl
  rw [h0]
  have h1 : (⟨[], l.length + 4, [0], 0⟩ : WS).put l = ⟨l, l.length + 4, [0], 0⟩ := by
    unfold WS.put
    rw [if_pos rfl, if_pos (by show 0 + l.length ≤ l.length + 4; omega)]
    rfl
  rw [h1]
  unfold WS.seal
  rw [if_pos rfl, if_neg (by simp), if_pos (by show l.length + 4 ≤ l.length + 4; omega)]
  unfold WS.shut WS.sealed mark
  simp
section
variable (l m : List UInt8) (hm : m.length = l.length)
include hm
theorem has_run : (RS.new (mark l m)).hasB (l.length : Int) = true := by
  unfold RS.hasB RS.new RS.left
  simp only [mark_length]
  exact decide_eq_true ⟨trivial, by omega, by omega⟩
theorem next_run : (RS.new (mark l m)).next l.length = m := by
  unfold RS.next RS.new mark
  simp [← hm]
theorem next_sum : ((RS.new (mark l m)).go ((RS.new (mark l m)).pos + ((l.length : Int)).toNat)).next 4 = little 4 (CrcM.sum l).toNat := by
  unfold RS.next RS.new RS.go mark
  simp only [Int.toNat_natCast, Nat.zero_add]
  rw [← hm, List.drop_left]
  exact List.take_of_length_le (by rw [little_length]; omega)
theorem left_run : (RS.new (mark l m)).left = l.length + 4 := by
  unfold RS.left RS.new; simp only [mark_length]; omega
theorem sealedS_run (h : CrcM.sum l = CrcM.sum m) : (RS.new (mark l m)).sealedS (l.length : Int) = ⟨mark l m, l.length + 4, 0⟩ := by
  unfold RS.sealedS
  rw [if_pos (has_run l m hm), left_run l m hm, if_neg (by omega), next_sum l m hm, worth_sum, Int.toNat_natCast, next_run l m hm, if_pos (by rw [h])]
  simp [RS.go, RS.new]
theorem sealedL_run (h : CrcM.sum l = CrcM.sum m) : (RS.new (mark l m)).sealedL (l.length : Int) = m := by
  unfold RS.sealedL
  rw [if_pos (has_run l m hm), left_run l m hm, if_neg (by omega), next_sum l m hm, worth_sum, Int.toNat_natCast, next_run l m hm, if_pos (by rw [h])]
theorem sealedS_bad (h : ¬ CrcM.sum l = CrcM.sum m) : (RS.new (mark l m)).sealedS (l.length : Int) = ⟨mark l m, 0, 21⟩ := by
  unfold RS.sealedS
  rw [if_pos (has_run l m hm), left_run l m hm, if_neg (by omega), next_sum l m hm, worth_sum, Int.toNat_natCast, next_run l m hm, if_neg (fun e => h (BitVec.eq_of_toNat_eq e))]
  simp [RS.fail, RS.new]
theorem sealedL_bad (h : ¬ CrcM.sum l = CrcM.sum m) : (RS.new (mark l m)).sealedL (l.length : Int) = [] := by
  unfold RS.sealedL
  rw [if_pos (has_run l m hm), left_run l m hm, if_neg (by omega), next_sum l m hm, worth_sum, Int.toNat_natCast, next_run l m hm, if_neg (fun e => h (BitVec.eq_of_toNat_eq e))]
end
/-- a bit more of the mask. -/
theorem burst_on (l : List UInt8) (p : Nat) (mask : W) (i : Nat) (hb : mask.getLsbD i = true) (hq : (p + i) / 8 < l.length) :
    (turn l (burst p (lows mask i))).set ((p + i) / 8) ((turn l (burst p (lows mask i)))[(p + i) / 8]'(by rw [turn_length]; exact hq) ^^^ UInt8.ofNat (2 ^ ((p + i) % 8))) = turn l (burst p (lows mask (i + 1))) :=
  turn_set l (burst p (lows mask i)) (burst p (lows mask (i + 1))) (p + i) hq (by rw [burst_lows]; simp) (by rw [burst_lows]; simp [hb]) (fun k hk => by
        rw [burst_lows, burst_lows]
        by_cases h1 : p ≤ k
        · by_cases h2 : k - p < i
          · simp [h2, show k - p < i + 1 by omega]
          · simp [h2, show ¬ k - p < i + 1 by omega]
        · simp [h1])
theorem lows_off (mask : W) (i : Nat) (hi : i < 32) (hb : mask.getLsbD i = false) : lows mask (i + 1) = lows mask i := by
  rw [lows_succ mask i hi, hb]; simp
theorem lows_on (mask : W) (i : Nat) (hb : mask.getLsbD i = true) : lows mask (i + 1) ≠ BitVec.ofNat 32 0 := by
  intro h
  have h2 := congrArg (fun z => z.getLsbD i) h
  simp only [lows_bit] at h2
  rw [hb] at h2
  simp at h2
theorem lows_nil (mask : W) : lows mask 0 = BitVec.ofNat 32 0 := by unfold lows; simp [Nat.mod_one]
theorem mark_set (l m : List UInt8) (j : Nat) (x : UInt8) (hj : j < m.length) : (mark l m).set j x = mark l (m.set j x) := by
  unfold mark; rw [List.set_append_left _ _ hj]
end Go.Proofs.Ytdmliaodacaefaa.Bu
