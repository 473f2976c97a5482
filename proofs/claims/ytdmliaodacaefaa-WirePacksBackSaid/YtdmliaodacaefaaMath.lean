/- Plain laws of CRC-32 over 32-bit words: the bit step is linear and invertible, a burst is told, sums join, four bytes can be chosen. No program is in sight. -/
namespace CrcM

abbrev W := BitVec 32
def poly : W := (BitVec.ofNat 32 0xEDB88320)
/-- one bit: the product by x. -/
def X (s : W) : W := if s.getLsbD 0 = true then (s >>> 1) ^^^ poly else s >>> 1
/-- the way back. -/
def Y (s : W) : W := if s.getLsbD 31 = true then ((s ^^^ poly) <<< 1) ||| (BitVec.ofNat 32 1) else s <<< 1
def xs : Nat → W → W
  | 0, s => s
  | n + 1, s => xs n (X s)
def ys : Nat → W → W
  | 0, s => s
  | n + 1, s => ys n (Y s)

theorem X_zero : X (BitVec.ofNat 32 0) = (BitVec.ofNat 32 0) := by decide
theorem xor4 (p q c : W) : p ^^^ c ^^^ (q ^^^ c) = p ^^^ q := by
  rw [BitVec.xor_comm q c, ← BitVec.xor_assoc, BitVec.xor_assoc p c c, BitVec.xor_self, BitVec.xor_zero]
theorem X_xor (a b : W) : X (a ^^^ b) = X a ^^^ X b := by
  unfold X
  rw [BitVec.getLsbD_xor, BitVec.ushiftRight_xor_distrib]
  cases a.getLsbD 0 <;> cases b.getLsbD 0 <;> simp [xor4]
  · rw [BitVec.xor_assoc]
  · rw [BitVec.xor_assoc, BitVec.xor_assoc, BitVec.xor_comm poly]
theorem xs_zero (n : Nat) : xs n (BitVec.ofNat 32 0) = (BitVec.ofNat 32 0) := by
  induction n with
  | zero => rfl
  | succ n ih => rw [xs, X_zero, ih]
theorem xs_xor (n : Nat) : ∀ a b : W, xs n (a ^^^ b) = xs n a ^^^ xs n b := by
  induction n with
  | zero => intro a b; rfl
  | succ n ih => intro a b; rw [xs, X_xor, ih]; rfl
theorem xs_add (m : Nat) : ∀ (n : Nat) (s : W), xs (m + n) s = xs n (xs m s) := by
  induction m with
  | zero => intro n s; rw [Nat.zero_add]; rfl
  | succ m ih => intro n s; rw [show m + 1 + n = (m + n) + 1 by omega, xs, ih]; rfl
theorem xs_succ' (n : Nat) (s : W) : xs (n + 1) s = X (xs n s) := by rw [xs_add]; rfl
theorem Y_X (a : W) : Y (X a) = a := by
  unfold X
  by_cases h : a.getLsbD 0 = true
  · rw [if_pos h]
    have hm : (a >>> 1 ^^^ poly).getLsbD 31 = true := by
      rw [BitVec.getLsbD_xor, BitVec.getLsbD_ushiftRight, BitVec.getLsbD_of_ge a (1 + 31) (by omega)]; decide
    unfold Y; rw [if_pos hm, BitVec.xor_assoc, BitVec.xor_self, BitVec.xor_zero]
    ext i hi
    by_cases h0 : i = 0
    · subst h0; simpa using h.symm
    · simp [h0]; rw [show 1 + (i - 1) = i by omega]; exact BitVec.getLsbD_eq_getElem hi
  · rw [if_neg h]
    have hm : ¬ (a >>> 1).getLsbD 31 = true := by
      rw [BitVec.getLsbD_ushiftRight, BitVec.getLsbD_of_ge a (1 + 31) (by omega)]; decide
    unfold Y; rw [if_neg hm]
    ext i hi
    by_cases h0 : i = 0
    · subst h0; simpa using h
    · simp [h0]; rw [show 1 + (i - 1) = i by omega]; exact BitVec.getLsbD_eq_getElem hi
theorem X_Y (a : W) : X (Y a) = a := by
  unfold Y
  by_cases h : a.getLsbD 31 = true
  · rw [if_pos h]
    have hm : (((a ^^^ poly) <<< 1) ||| (BitVec.ofNat 32 1)).getLsbD 0 = true := by simp
    unfold X; rw [if_pos hm]
    have e : (((a ^^^ poly) <<< 1) ||| (BitVec.ofNat 32 1)) >>> 1 = a ^^^ poly := by
      ext i hi
      by_cases h1 : i = 31
      · subst h1
        simp only [BitVec.getElem_ushiftRight]
        rw [BitVec.getLsbD_of_ge _ (1 + 31) (by omega), BitVec.getElem_xor, ← BitVec.getLsbD_eq_getElem, h, ← BitVec.getLsbD_eq_getElem]; decide
      · simp only [BitVec.getElem_ushiftRight, BitVec.getLsbD_or, BitVec.getLsbD_shiftLeft]
        have : (BitVec.ofNat 32 1).getLsbD (1 + i) = false := by
          rw [BitVec.getLsbD_one]; simp
        rw [this]; simp [show 1 + i - 1 = i by omega, show 1 + i < 32 by omega]
        rw [BitVec.getLsbD_eq_getElem hi, BitVec.getLsbD_eq_getElem hi]
    rw [e, BitVec.xor_assoc, BitVec.xor_self, BitVec.xor_zero]
  · rw [if_neg h]
    have hm : ¬ (a <<< 1).getLsbD 0 = true := by simp
    unfold X; rw [if_neg hm]
    ext i hi
    by_cases h1 : i = 31
    · subst h1
      simp only [BitVec.getElem_ushiftRight]
      rw [BitVec.getLsbD_of_ge _ (1 + 31) (by omega), ← BitVec.getLsbD_eq_getElem]; simpa using h
    · simp only [BitVec.getElem_ushiftRight, BitVec.getLsbD_shiftLeft]
      simp [show 1 + i - 1 = i by omega, show 1 + i < 32 by omega, BitVec.getLsbD_eq_getElem hi]
theorem ys_xs (n : Nat) : ∀ s : W, ys n (xs n s) = s := by
  induction n with
  | zero => intro s; rfl
  | succ n ih => intro s; rw [xs_succ', ys, Y_X, ih]
theorem xs_ys (n : Nat) : ∀ s : W, xs n (ys n s) = s := by
  induction n with
  | zero => intro s; rfl
  | succ n ih => intro s; rw [ys, xs_succ', ih, X_Y]
theorem xs_inj {n : Nat} {a b : W} (h : xs n a = xs n b) : a = b := by rw [← ys_xs n a, h, ys_xs]
theorem ys_add (m : Nat) : ∀ (n : Nat) (s : W), ys (m + n) s = ys n (ys m s) := by
  induction m with
  | zero => intro n s; rw [Nat.zero_add]; rfl
  | succ m ih => intro n s; rw [show m + 1 + n = (m + n) + 1 by omega, ys, ih]; rfl

/-- where the lowest n bits are 0 the steps only shift. -/
theorem xs_shift (n : Nat) : ∀ s : W, (∀ k, k < n → s.getLsbD k = false) → xs n s = s >>> n := by
  induction n with
  | zero => intro s _; simp [xs]
  | succ n ih =>
    intro s h
    have h0 := h 0 (by omega)
    rw [xs, X, if_neg (by rw [h0]; decide), ih _ (fun k hk => by rw [BitVec.getLsbD_ushiftRight]; exact h _ (by omega))]
    rw [← BitVec.shiftRight_add, Nat.add_comm]
theorem xs_shl (n : Nat) (v : W) (h : v.toNat < 2 ^ (32 - n)) (hn : n ≤ 32) : xs n (v <<< n) = v := by
  rw [xs_shift n _ (fun k hk => by rw [BitVec.getLsbD_shiftLeft]; simp [hk])]
  apply BitVec.eq_of_toNat_eq
  rw [BitVec.toNat_ushiftRight, BitVec.toNat_shiftLeft, Nat.shiftLeft_eq, Nat.shiftRight_eq_div_pow]
  have : v.toNat * 2 ^ n < 2 ^ 32 := by
    calc v.toNat * 2 ^ n < 2 ^ (32 - n) * 2 ^ n := Nat.mul_lt_mul_of_pos_right h (Nat.two_pow_pos n)
      _ = 2 ^ 32 := by rw [← Nat.pow_add]; congr 1; omega
  rw [Nat.mod_eq_of_lt this, Nat.mul_div_cancel _ (Nat.two_pow_pos n)]

/-- a byte as a word. -/
def bw (b : UInt8) : W := BitVec.ofNat 32 b.toNat
theorem bw_toNat (b : UInt8) : (bw b).toNat = b.toNat := by
  unfold bw; rw [BitVec.toNat_ofNat, Nat.mod_eq_of_lt]; have := b.toNat_lt; omega
theorem bw_lt (b : UInt8) : (bw b).toNat < 256 := by rw [bw_toNat]; exact b.toNat_lt
theorem bw_zero : bw 0 = (BitVec.ofNat 32 0) := rfl
theorem bw_xor (a b : UInt8) : bw (a ^^^ b) = bw a ^^^ bw b := by
  apply BitVec.eq_of_toNat_eq
  rw [BitVec.toNat_xor, bw_toNat, bw_toNat, bw_toNat, UInt8.toNat_xor]
theorem bw_inj {a b : UInt8} (h : bw a = bw b) : a = b := by
  apply UInt8.toNat_inj.1; rw [← bw_toNat, ← bw_toNat, h]
/-- the rule's step for a byte. -/
def step (s : W) (b : UInt8) : W := xs 8 (s ^^^ bw b)
def entry (b : UInt8) : W := xs 8 (bw b)
/-- the lowest byte. -/
def low (s : W) : UInt8 := UInt8.ofNat s.toNat
theorem low_toNat (s : W) : (low s).toNat = s.toNat % 256 := by
  unfold low; exact UInt8.toNat_ofNat'
theorem low_xor (a b : W) : low (a ^^^ b) = low a ^^^ low b := by
  apply UInt8.toNat_inj.1
  rw [UInt8.toNat_xor, low_toNat, low_toNat, low_toNat, BitVec.toNat_xor]
  exact Nat.xor_mod_two_pow (n := 8)
theorem low_bw (b : UInt8) : low (bw b) = b := by
  apply UInt8.toNat_inj.1; rw [low_toNat, bw_toNat]; have := b.toNat_lt; omega
theorem split8 (s : W) : s = bw (low s) ^^^ ((s >>> 8) <<< 8) := by
  apply BitVec.eq_of_getLsbD_eq
  intro i hi
  rw [BitVec.getLsbD_xor, BitVec.getLsbD_shiftLeft, BitVec.getLsbD_ushiftRight]
  have e : (bw (low s)).getLsbD i = (decide (i < 8) && s.getLsbD i) := by
    show (bw (low s)).toNat.testBit i = _
    rw [bw_toNat, low_toNat, show (256 : Nat) = 2 ^ 8 from rfl, Nat.testBit_mod_two_pow]; rfl
  rw [e]
  by_cases h : i < 8
  · simp [h]
  · simp [h, hi, show 8 + (i - 8) = i by omega]
theorem xs8 (s : W) : xs 8 s = entry (low s) ^^^ (s >>> 8) := by
  conv => lhs; rw [split8 s]
  rw [xs_xor]
  congr 1
  exact xs_shl 8 _ (by rw [BitVec.toNat_ushiftRight, Nat.shiftRight_eq_div_pow]; have := s.isLt; omega) (by omega)
theorem bw_shr (b : UInt8) : bw b >>> 8 = (BitVec.ofNat 32 0) := by
  apply BitVec.eq_of_toNat_eq
  rw [BitVec.toNat_ushiftRight, Nat.shiftRight_eq_div_pow]
  have := bw_lt b; simp; omega
theorem step_table (s : W) (b : UInt8) : step s b = entry (low s ^^^ b) ^^^ (s >>> 8) := by
  unfold step; rw [xs8, low_xor, low_bw, BitVec.ushiftRight_xor_distrib, bw_shr, BitVec.xor_zero]

/-- the register behind some bytes. -/
def reg (s : W) (l : List UInt8) : W := l.foldl step s
theorem reg_nil (s : W) : reg s [] = s := rfl
theorem reg_cons (s : W) (b : UInt8) (l : List UInt8) : reg s (b :: l) = reg (step s b) l := rfl
theorem reg_append (s : W) (l m : List UInt8) : reg s (l ++ m) = reg (reg s l) m := by
  unfold reg; rw [List.foldl_append]
theorem reg_snoc (s : W) (l : List UInt8) (b : UInt8) : reg s (l ++ [b]) = step (reg s l) b := by rw [reg_append]; rfl
def upd (s : W) (l : List UInt8) : W := ~~~ (reg (~~~ s) l)
def sum (l : List UInt8) : W := upd (BitVec.ofNat 32 0) l
theorem upd_append (s : W) (l m : List UInt8) : upd s (l ++ m) = upd (upd s l) m := by
  unfold upd; rw [reg_append, BitVec.not_not]
theorem sum_append (l m : List UInt8) : sum (l ++ m) = upd (sum l) m := upd_append _ _ _
theorem step_xor (s t : W) (a b : UInt8) : step (s ^^^ t) (a ^^^ b) = step s a ^^^ step t b := by
  unfold step; rw [← xs_xor, bw_xor]; congr 1; ac_rfl
theorem reg_xor (l : List UInt8) : ∀ (m : List UInt8) (s t : W), l.length = m.length → reg (s ^^^ t) (List.zipWith (· ^^^ ·) l m) = reg s l ^^^ reg t m := by
  induction l with
  | nil => intro m s t h; cases m with
    | nil => rfl
    | cons b m => simp at h
  | cons a l ih => intro m s t h; cases m with
    | nil => simp at h
    | cons b m => rw [List.zipWith_cons_cons, reg_cons, reg_cons, reg_cons, step_xor]; exact ih m _ _ (by simpa using h)
theorem step_zero (s : W) : step s 0 = xs 8 s := by unfold step; rw [bw_zero, BitVec.xor_zero]
theorem reg_zeros (n : Nat) : ∀ s : W, reg s (List.replicate n 0) = xs (8 * n) s := by
  induction n with
  | zero => intro s; rfl
  | succ n ih => intro s; rw [List.replicate_succ, reg_cons, ih, step_zero, ← xs_add]; congr 1; omega
theorem zipWith_zeros (l : List UInt8) : List.zipWith (· ^^^ ·) (List.replicate l.length 0) l = l := by
  induction l with
  | nil => rfl
  | cons a l ih => rw [List.length_cons, List.replicate_succ, List.zipWith_cons_cons, ih]; simp
theorem reg_shift (s t : W) (l : List UInt8) : reg (s ^^^ t) l = xs (8 * l.length) s ^^^ reg t l := by
  have := reg_xor (List.replicate l.length 0) l s t (by simp)
  rw [zipWith_zeros, reg_zeros] at this; exact this
theorem not_eq (s : W) : ~~~ s = s ^^^ BitVec.allOnes 32 := by rw [BitVec.xor_allOnes]
/-- joining. -/
def join (a b : W) (n : Nat) : W := xs (8 * n) a ^^^ b
theorem upd_join (a : W) (l : List UInt8) : upd a l = join a (sum l) l.length := by
  unfold join sum upd
  rw [not_eq a, reg_shift a, not_eq (BitVec.ofNat 32 0), BitVec.zero_xor, not_eq, not_eq, BitVec.xor_assoc]
theorem sum_join (l m : List UInt8) : sum (l ++ m) = join (sum l) (sum m) m.length := by rw [sum_append, upd_join]
theorem join_assoc (a b c : W) (m n : Nat) : join (join a b m) c n = join a (join b c n) (m + n) := by
  unfold join
  rw [xs_xor, ← xs_add, BitVec.xor_assoc, Nat.mul_add]

/-- the four bytes of a word, lowest first. -/
def four (v : W) : List UInt8 := [low v, low (v >>> 8), low (v >>> 16), low (v >>> 24)]
theorem xs_mask (s v : W) : xs 8 (s ^^^ bw (low v)) ^^^ (v >>> 8) = xs 8 (s ^^^ v) := by
  conv => rhs; rw [split8 v]
  rw [← BitVec.xor_assoc, xs_xor 8 _ ((v >>> 8) <<< 8)]
  congr 1
  exact (xs_shl 8 _ (by rw [BitVec.toNat_ushiftRight, Nat.shiftRight_eq_div_pow]; have := v.isLt; omega) (by omega)).symm
theorem step_low (s v : W) : step s (low v) = xs 8 (s ^^^ v) ^^^ (v >>> 8) := by
  rw [← xs_mask]; unfold step; rw [BitVec.xor_assoc, BitVec.xor_self, BitVec.xor_zero]
theorem reg_four (s v : W) : reg s (four v) = xs 32 (s ^^^ v) := by
  have e (k : Nat) : (v >>> k) >>> 8 = v >>> (k + 8) := by rw [BitVec.shiftRight_add]
  have z : v >>> 32 = (BitVec.ofNat 32 0) := by
    apply BitVec.eq_of_toNat_eq
    rw [BitVec.toNat_ushiftRight, Nat.shiftRight_eq_div_pow]; have := v.isLt; simp; omega
  show step (step (step (step s (low v)) (low (v >>> 8))) (low (v >>> 16))) (low (v >>> 24)) = _
  rw [step_low s v, step_low _ (v >>> 8), e, step_low _ (v >>> 16), e, step_low _ (v >>> 24), e]
  rw [BitVec.xor_assoc _ (v >>> 8), BitVec.xor_self, BitVec.xor_zero, BitVec.xor_assoc _ (v >>> (8 + 8)), BitVec.xor_self, BitVec.xor_zero,
    BitVec.xor_assoc _ (v >>> (16 + 8)), BitVec.xor_self, BitVec.xor_zero, z, BitVec.xor_zero, ← xs_add, ← xs_add, ← xs_add]
theorem sealed (l : List UInt8) : sum (l ++ four (sum l)) = (BitVec.ofNat 32 0x2144DF1C) := by
  rw [sum_append]; unfold upd; rw [reg_four]
  rw [show ~~~ sum l ^^^ sum l = BitVec.allOnes 32 by rw [BitVec.xor_comm, not_eq, ← BitVec.xor_assoc, BitVec.xor_self, BitVec.zero_xor]]
  decide +kernel

theorem linear (x y d : List UInt8) (hd : d.length = x.length) (hy : y = List.zipWith (· ^^^ ·) x d) : sum x ^^^ sum y = sum (List.replicate x.length 0) ^^^ sum d := by
  have h1 := reg_xor x d (BitVec.allOnes 32) (BitVec.ofNat 32 0) hd.symm
  have h2 := reg_xor (List.replicate x.length 0) d (BitVec.allOnes 32) (BitVec.ofNat 32 0) (by simp [hd])
  rw [← hd, zipWith_zeros, hd] at h2
  rw [← hy] at h1
  rw [BitVec.xor_zero] at h1 h2
  have no : ~~~ (BitVec.ofNat 32 0) = BitVec.allOnes 32 := by decide
  unfold sum upd; rw [no, h1, h2]
  rw [not_eq, not_eq, not_eq, not_eq]
  generalize reg (BitVec.allOnes 32) x = p
  generalize reg (BitVec.ofNat 32 0) d = q
  generalize reg (BitVec.allOnes 32) (List.replicate x.length 0) = r
  rw [xor4, xor4, ← BitVec.xor_assoc, BitVec.xor_self, ← BitVec.xor_assoc, BitVec.xor_self]

/-- one byte back. -/
def bk (s : W) (b : UInt8) : W := ys 8 s ^^^ bw b
theorem bk_step (s : W) (b : UInt8) : bk (step s b) b = s := by
  unfold bk step; rw [ys_xs, BitVec.xor_assoc, BitVec.xor_self, BitVec.xor_zero]
theorem step_bk (s : W) (b : UInt8) : step (bk s b) b = s := by
  unfold bk step; rw [BitVec.xor_assoc, BitVec.xor_self, BitVec.xor_zero, xs_ys]
/-- from the end back. -/
def bks (s : W) (l : List UInt8) : W := l.foldr (fun b t => bk t b) s
theorem reg_bks (s : W) (l : List UInt8) : reg (bks s l) l = s := by
  induction l with
  | nil => rfl
  | cons b l ih => rw [reg_cons]; show reg (step (bk (bks s l) b) b) l = s; rw [step_bk, ih]
theorem bks_reg (l : List UInt8) : ∀ s : W, bks (reg s l) l = s := by
  induction l with
  | nil => intro s; rfl
  | cons b l ih => intro s; rw [reg_cons]; show bk (bks (reg (step s b) l) l) b = s; rw [ih, bk_step]
theorem bk_zero (s : W) : bk s 0 = ys 8 s := by unfold bk; rw [bw_zero, BitVec.xor_zero]
/-- the four bytes that are chosen: pre is ahead of them, post behind. -/
def chosen (pre post : List UInt8) (want : W) : W := reg (BitVec.allOnes 32) pre ^^^ ys 32 (bks (~~~ want) post)
theorem made (pre post : List UInt8) (want : W) : sum (pre ++ four (chosen pre post want) ++ post) = want := by
  have no : ~~~ (BitVec.ofNat 32 0) = BitVec.allOnes 32 := by decide
  unfold sum upd
  rw [reg_append, reg_append, reg_four, no]
  unfold chosen
  rw [← BitVec.xor_assoc, BitVec.xor_self, BitVec.zero_xor, xs_ys, reg_bks, BitVec.not_not]
theorem made_one (pre post : List UInt8) (v : W) : chosen pre post (sum (pre ++ four v ++ post)) = v := by
  have no : ~~~ (BitVec.ofNat 32 0) = BitVec.allOnes 32 := by decide
  unfold chosen sum upd
  rw [BitVec.not_not, no, reg_append, reg_append, reg_four, bks_reg, ys_xs, ← BitVec.xor_assoc, BitVec.xor_self, BitVec.zero_xor]

/-- bits fed one by one. -/
def feed (f : Nat → Bool) : Nat → W
  | 0 => (BitVec.ofNat 32 0)
  | n + 1 => X (feed f n ^^^ (BitVec.ofBool (f n)).setWidth 32)
theorem bitw (b : Bool) : (BitVec.ofBool b).setWidth 32 = if b = true then (BitVec.ofNat 32 1) else (BitVec.ofNat 32 0) := by cases b <;> rfl
/-- a burst at the place at: behind m bits from there on. -/
theorem feed_zero (f : Nat → Bool) (n : Nat) (h : ∀ k, k < n → f k = false) : feed f n = (BitVec.ofNat 32 0) := by
  induction n with
  | zero => rfl
  | succ n ih => rw [feed, ih (fun k hk => h k (by omega)), h n (by omega)]; decide
def lows (mask : W) (m : Nat) : W := BitVec.ofNat 32 (mask.toNat % 2 ^ m)
theorem lows_bit (mask : W) (m i : Nat) : (lows mask m).getLsbD i = (decide (i < m) && mask.getLsbD i) := by
  unfold lows
  show (BitVec.ofNat 32 _).toNat.testBit i = _
  rw [BitVec.toNat_ofNat, Nat.mod_eq_of_lt (Nat.lt_of_le_of_lt (Nat.mod_le _ _) mask.isLt), Nat.testBit_mod_two_pow]; rfl
theorem lows_succ (mask : W) (m : Nat) (hm : m < 32) : lows mask (m + 1) = lows mask m ^^^ ((BitVec.ofBool (mask.getLsbD m)).setWidth 32 <<< m) := by
  apply BitVec.eq_of_getLsbD_eq
  intro i hi
  rw [BitVec.getLsbD_xor, lows_bit, lows_bit, BitVec.getLsbD_shiftLeft, bitw]
  by_cases h1 : i < m
  · simp [h1, show i < m + 1 by omega]
  · by_cases h2 : i = m
    · subst h2; cases mask.getLsbD i <;> simp [hi]
    · have e : ¬ i < m + 1 := by omega
      have e2 : i - m ≠ 0 := by omega
      cases mask.getLsbD m <;> simp [h1, e, e2]
theorem feed_bits (f : Nat → Bool) (p : Nat) (v : W) (m : Nat) : m ≤ 32 → (∀ k, k < m → f (p + k) = v.getLsbD k) → feed f (p + m) = xs m (feed f p ^^^ lows v m) := by
  induction m with
  | zero =>
    intro _ _
    show feed f p = feed f p ^^^ BitVec.ofNat 32 (v.toNat % 2 ^ 0)
    rw [Nat.pow_zero, Nat.mod_one]; exact (BitVec.xor_zero).symm
  | succ m ih =>
    intro hm h
    rw [← Nat.add_assoc, feed, ih (by omega) (fun k hk => h k (by omega)), h m (by omega), lows_succ v m (by omega), xs_succ']
    congr 1
    rw [← BitVec.xor_assoc, xs_xor m (feed f p ^^^ lows v m)]
    congr 1
    rw [xs_shl m _ ?_ (by omega)]
    rw [bitw]
    have : 1 < 2 ^ (32 - m) := Nat.one_lt_two_pow (by omega)
    cases v.getLsbD m <;> simp <;> omega
theorem feed_burst (f : Nat → Bool) (p : Nat) (mask : W) (h0 : ∀ k, k < p → f k = false) (h1 : ∀ k, p ≤ k → k < p + 32 → f k = mask.getLsbD (k - p)) (m : Nat) (hm : m ≤ 32) : feed f (p + m) = xs m (lows mask m) := by
  rw [feed_bits f p mask m hm (fun k hk => by rw [h1 (p + k) (by omega) (by omega)]; congr 1; omega), feed_zero f p h0, BitVec.zero_xor]
theorem lows_all (mask : W) (m : Nat) (h : ∀ i, m ≤ i → mask.getLsbD i = false) : lows mask m = mask := by
  apply BitVec.eq_of_getLsbD_eq
  intro i hi
  rw [lows_bit]
  by_cases h1 : i < m
  · simp [h1]
  · simp [h1, h i (by omega)]
theorem feed_rest (f : Nat → Bool) (p : Nat) (h : ∀ k, p ≤ k → f k = false) (j : Nat) : feed f (p + j) = xs j (feed f p) := by
  induction j with
  | zero => rfl
  | succ j ih =>
    rw [← Nat.add_assoc, feed, ih, h (p + j) (by omega), xs_succ']
    congr 1
    show _ ^^^ (BitVec.ofNat 32 0) = _
    rw [BitVec.xor_zero]
/-- the burst as a stream of bits. -/
def burst (p : Nat) (mask : W) (k : Nat) : Bool := decide (p ≤ k) && mask.getLsbD (k - p)
theorem feed_told (p n : Nat) (mask : W) (hp : p ≤ n) (hm : ∀ i, mask.getLsbD i = true → p + i < n) : feed (burst p mask) n = xs (n - p) mask := by
  have h0 : ∀ k, k < p → burst p mask k = false := fun k hk => by unfold burst; simp; omega
  have h1 : ∀ k, p ≤ k → k < p + 32 → burst p mask k = mask.getLsbD (k - p) := fun k hk _ => by unfold burst; simp [hk]
  by_cases h : n ≤ p + 32
  · obtain ⟨m, rfl⟩ : ∃ m, n = p + m := ⟨n - p, by omega⟩
    rw [feed_burst _ p mask h0 h1 m (by omega), lows_all mask m ?_, show p + m - p = m by omega]
    intro i hi
    cases e : mask.getLsbD i with
    | false => rfl
    | true => have := hm i e; omega
  · obtain ⟨m, rfl⟩ : ∃ m, n = p + 32 + m := ⟨n - p - 32, by omega⟩
    rw [feed_rest _ (p + 32) ?_ m, feed_burst _ p mask h0 h1 32 (by omega), lows_all mask 32 ?_, ← xs_add]
    · congr 1; omega
    · intro i hi; exact BitVec.getLsbD_of_ge _ _ hi
    · intro k hk; unfold burst; rw [BitVec.getLsbD_of_ge _ _ (by omega)]; simp
/-- a list of bytes whose bits are a stream's. -/
theorem feed_bytes (f : Nat → Bool) (l : List UInt8) : (∀ i, i < l.length → ∀ j, j < 8 → (bw (l.getD i 0)).getLsbD j = f (8 * i + j)) → feed f (8 * l.length) = reg (BitVec.ofNat 32 0) l := by
  have key : ∀ n, n ≤ l.length → (∀ i, i < l.length → ∀ j, j < 8 → (bw (l.getD i 0)).getLsbD j = f (8 * i + j)) → feed f (8 * n) = reg (BitVec.ofNat 32 0) (l.take n) := by
    intro n
    induction n with
    | zero => intro _ _; rfl
    | succ n ih =>
      intro hn h
      have hlt : n < l.length := by omega
      rw [List.take_succ_eq_append_getElem hlt, reg_snoc, ← ih (by omega) h, show 8 * (n + 1) = 8 * n + 8 by omega]
      rw [feed_bits f (8 * n) (bw l[n]) 8 (by omega) (fun k hk => by rw [← h n hlt k hk, List.getD_eq_getElem?_getD, List.getElem?_eq_getElem hlt]; rfl)]
      unfold step
      rw [lows_all _ 8 (fun i hi => by
        show (bw l[n]).toNat.testBit i = false
        exact Nat.testBit_lt_two_pow (Nat.lt_of_lt_of_le (bw_lt _) (show 2 ^ 8 ≤ 2 ^ i from Nat.pow_le_pow_right (by decide) hi)))]
  intro h
  have := key l.length (Nat.le_refl _) h
  rwa [List.take_length] at this
/-- a burst is told. -/
theorem told (x y d : List UInt8) (p : Nat) (mask : W) (hd : d.length = x.length) (hy : y = List.zipWith (· ^^^ ·) x d) (hp : p ≤ 8 * x.length)
    (hm : ∀ i, mask.getLsbD i = true → p + i < 8 * x.length) (hb : ∀ i, i < d.length → ∀ j, j < 8 → (bw (d.getD i 0)).getLsbD j = burst p mask (8 * i + j)) : sum x = sum y ↔ mask = (BitVec.ofNat 32 0) := by
  have e := linear x y d hd hy
  have e2 : sum (List.replicate x.length 0) ^^^ sum d = reg (BitVec.ofNat 32 0) d := by
    unfold sum; rw [upd_join (BitVec.ofNat 32 0) (List.replicate x.length 0)]
    have h1 := reg_xor (List.replicate x.length 0) d (BitVec.allOnes 32) (BitVec.ofNat 32 0) (by simp [hd])
    have h2 := reg_xor (List.replicate x.length 0) d (BitVec.ofNat 32 0) (BitVec.allOnes 32) (by simp [hd])
    rw [← hd, zipWith_zeros, hd, BitVec.zero_xor, reg_zeros, xs_zero, BitVec.zero_xor] at h2
    rw [← hd, zipWith_zeros, hd, BitVec.xor_zero] at h1
    have no : ~~~ (BitVec.ofNat 32 0) = BitVec.allOnes 32 := by decide
    unfold join sum upd
    rw [xs_zero, BitVec.zero_xor, no, h1, not_eq, not_eq, xor4, ← BitVec.xor_assoc, BitVec.xor_self, BitVec.zero_xor]
  rw [e2, ← feed_bytes (burst p mask) d hb, hd, feed_told p _ mask hp hm] at e
  constructor
  · intro h
    rw [h, BitVec.xor_self] at e
    exact xs_inj (n := 8 * x.length - p) (by rw [← e, xs_zero])
  · intro h
    rw [h, xs_zero] at e
    have := congrArg (· ^^^ sum y) e
    simp only [BitVec.xor_assoc, BitVec.xor_self, BitVec.xor_zero, BitVec.zero_xor] at this
    exact this

/-- the polynomial 1. -/
def one : W := (BitVec.ofNat 32 1) <<< 31
/-- the product, as the document's answer reckons it: n rounds. -/
def tms : Nat → W → W → W → W
  | 0, p, _, _ => p
  | n + 1, p, a, b => tms n (if a.getLsbD 31 = true then p ^^^ b else p) (a <<< 1) (X b)
def times (a b : W) : W := tms 32 (BitVec.ofNat 32 0) a b
theorem tms_X (n : Nat) : ∀ p a b : W, tms n (X p) a (X b) = X (tms n p a b) := by
  induction n with
  | zero => intro p a b; rfl
  | succ n ih =>
    intro p a b
    rw [tms, tms, ← ih]
    congr 1
    by_cases h : a.getLsbD 31 = true
    · rw [if_pos h, if_pos h, X_xor]
    · rw [if_neg h, if_neg h]
theorem times_X (a b : W) : times a (X b) = X (times a b) := by
  unfold times; rw [← tms_X, X_zero]
theorem times_xs (k : Nat) : ∀ a b : W, times a (xs k b) = xs k (times a b) := by
  induction k with
  | zero => intro a b; rfl
  | succ k ih => intro a b; rw [xs_succ', times_X, ih, xs_succ']
theorem tms_one (n : Nat) : n < 32 → ∀ p a : W, tms (n + 1) p a ((BitVec.ofNat 32 1) <<< n) = p ^^^ (a >>> (31 - n)) := by
  induction n with
  | zero =>
    intro _ p a
    show (if a.getLsbD 31 = true then p ^^^ ((BitVec.ofNat 32 1) <<< 0) else p) = _
    have e : a >>> 31 = (BitVec.ofBool (a.getLsbD 31)).setWidth 32 := by
      apply BitVec.eq_of_getLsbD_eq
      intro i hi
      rw [BitVec.getLsbD_ushiftRight, bitw]
      by_cases h : i = 0
      · subst h; cases a.getLsbD 31 <;> simp
      · rw [BitVec.getLsbD_of_ge a _ (by omega)]; cases a.getLsbD 31 <;> simp [h]
    rw [Nat.sub_zero, e, bitw]
    cases a.getLsbD 31 <;> simp
  | succ n ih =>
    intro hn p a
    rw [tms]
    have hX : X ((BitVec.ofNat 32 1) <<< (n + 1)) = (BitVec.ofNat 32 1) <<< n := by
      unfold X
      rw [if_neg (by rw [BitVec.getLsbD_shiftLeft]; simp)]
      apply BitVec.eq_of_toNat_eq
      rw [BitVec.toNat_ushiftRight, BitVec.toNat_shiftLeft, BitVec.toNat_shiftLeft, Nat.shiftRight_eq_div_pow, Nat.shiftLeft_eq, Nat.shiftLeft_eq]
      have h1 : 2 ^ (n + 1) < 2 ^ 32 := Nat.pow_lt_pow_right (by decide) hn
      have h2 : 2 ^ n < 2 ^ 32 := Nat.pow_lt_pow_right (by decide) (by omega)
      have h3 : (2 : Nat) ^ (n + 1) = 2 ^ n * 2 := Nat.pow_succ ..
      simp only [BitVec.toNat_ofNat]
      omega
    rw [hX, ih (by omega)]
    have e : a >>> (31 - (n + 1)) = ((BitVec.ofBool (a.getLsbD 31)).setWidth 32 <<< (n + 1)) ^^^ ((a <<< 1) >>> (31 - n)) := by
      apply BitVec.eq_of_getLsbD_eq
      intro i hi
      rw [BitVec.getLsbD_xor, BitVec.getLsbD_shiftLeft, BitVec.getLsbD_ushiftRight, BitVec.getLsbD_ushiftRight, BitVec.getLsbD_shiftLeft, bitw]
      by_cases h1 : i < n + 1
      · have e1 : 31 - (n + 1) + i = 31 - n + i - 1 := by omega
        have e2 : ¬ 31 - n + i < 1 := by omega
        rw [e1]
        cases a.getLsbD 31 <;> simp only [h1, e2, show 31 - n + i < 32 by omega, decide_true, decide_false, Bool.not_true, Bool.not_false, Bool.and_false, Bool.false_and, Bool.true_and, Bool.and_true, Bool.false_xor]
      · by_cases h2 : i = n + 1
        · subst h2
          rw [show 31 - (n + 1) + (n + 1) = 31 by omega]
          cases a.getLsbD 31 <;> simp [hi, show ¬ (31 - n + (n + 1) < 32) by omega]
        · rw [BitVec.getLsbD_of_ge a (31 - (n + 1) + i) (by omega)]
          have e2 : i - (n + 1) ≠ 0 := by omega
          cases a.getLsbD 31 <;> simp [h1, e2, show ¬ (31 - n + i < 32) by omega]
    rw [e, bitw, ← BitVec.xor_assoc]
    cases a.getLsbD 31 <;> simp
theorem times_one (a : W) : times a one = a := by
  unfold times one
  rw [tms_one 31 (by decide) (BitVec.ofNat 32 0) a]
  simp
theorem times_pow (k : Nat) (a : W) : times a (xs k one) = xs k a := by rw [times_xs, times_one]
theorem one_8 : xs 8 one = (BitVec.ofNat 32 1) <<< 23 := by decide +kernel

/-- a linear map, round by round. -/
theorem of_succ (k : Nat) (v : W) (i : Nat) (hi : i < 32) : xs k (lows v (i + 1)) = if v.getLsbD i = true then xs k (lows v i) ^^^ xs k ((BitVec.ofNat 32 1) <<< i) else xs k (lows v i) := by
  rw [lows_succ v i hi, xs_xor, bitw]
  cases v.getLsbD i <;> simp [xs_zero]
theorem of_zero (k : Nat) (v : W) : xs k (lows v 0) = (BitVec.ofNat 32 0) := by
  show xs k (BitVec.ofNat 32 (v.toNat % 2 ^ 0)) = _
  rw [Nat.pow_zero, Nat.mod_one]; exact xs_zero k
theorem of_all (k : Nat) (v : W) : xs k (lows v 32) = xs k v := by rw [lows_all v 32 (fun i hi => BitVec.getLsbD_of_ge _ _ hi)]
/-- a set bit alone, behind a step. -/
theorem step_bit (i : Nat) : step ((BitVec.ofNat 32 1) <<< i) 0 = xs 8 ((BitVec.ofNat 32 1) <<< i) := step_zero _

/-- the table's highest bytes. -/
def top (s : W) : Nat := s.toNat / 16777216
def tops : List Nat := (List.range 256).map fun i => top (entry (UInt8.ofNat i))
theorem tops_nodup : tops.Nodup := by decide +kernel
theorem nodup_inj {l : List Nat} (h : l.Nodup) {i j : Nat} (hi : i < l.length) (hj : j < l.length) (e : l[i] = l[j]) : i = j := by
  unfold List.Nodup at h
  rw [List.pairwise_iff_getElem] at h
  by_cases h1 : i < j
  · exact absurd e (h i j hi hj h1)
  · by_cases h2 : j < i
    · exact absurd e.symm (h j i hj hi h2)
    · omega
theorem top_inj {a b : UInt8} (h : top (entry a) = top (entry b)) : a = b := by
  have ha := a.toNat_lt
  have hb := b.toNat_lt
  have hl : tops.length = 256 := by simp [tops]
  have e (c : UInt8) (hc : c.toNat < tops.length) : tops[c.toNat] = top (entry c) := by simp [tops]
  have h1 : tops[a.toNat]'(by omega) = tops[b.toNat]'(by omega) := by rw [e, e, h]
  have h2 := nodup_inj tops_nodup _ _ h1
  exact UInt8.toNat_inj.1 h2
theorem top_xor (a t : W) : top (a ^^^ (t >>> 8)) = top a := by
  unfold top
  rw [BitVec.toNat_xor, BitVec.toNat_ushiftRight, show 16777216 = 2 ^ 24 from rfl, ← Nat.shiftRight_eq_div_pow, ← Nat.shiftRight_eq_div_pow, Nat.shiftRight_xor_distrib, ← Nat.shiftRight_add]
  have : t.toNat >>> (8 + 24) = 0 := by rw [Nat.shiftRight_eq_div_pow]; have := t.isLt; omega
  rw [this, Nat.xor_zero]
/-- the entry with s's highest byte is the one of the register's lowest byte. -/
theorem top_of (s : W) (i : UInt8) : top (entry i) = top s ↔ i = low (ys 8 s) := by
  have e : s = entry (low (ys 8 s)) ^^^ ((ys 8 s) >>> 8) := by rw [← xs8, xs_ys]
  constructor
  · intro h
    rw [e, top_xor] at h
    exact top_inj h
  · intro h
    subst h
    conv => rhs; rw [e, top_xor]
theorem bk_table (s : W) (b i : UInt8) (h : top (entry i) = top s) : ((s ^^^ entry i) <<< 8) ||| bw (i ^^^ b) = bk s b := by
  have hi := (top_of s i).1 h
  have e : s ^^^ entry i = (ys 8 s) >>> 8 := by
    conv => lhs; rw [show s = entry (low (ys 8 s)) ^^^ ((ys 8 s) >>> 8) by rw [← xs8, xs_ys]]
    rw [← hi, BitVec.xor_comm (entry i), BitVec.xor_assoc, BitVec.xor_self, BitVec.xor_zero]
  rw [e]
  unfold bk
  conv => rhs; rw [split8 (ys 8 s)]
  rw [← hi, bw_xor]
  apply BitVec.eq_of_getLsbD_eq
  intro j hj
  rw [BitVec.getLsbD_or, BitVec.getLsbD_xor, BitVec.getLsbD_xor, BitVec.getLsbD_xor, BitVec.getLsbD_shiftLeft]
  have small (c : UInt8) (hj : ¬ j < 8) : (bw c).getLsbD j = false := by
    show (bw c).toNat.testBit j = false
    exact Nat.testBit_lt_two_pow (Nat.lt_of_lt_of_le (bw_lt _) (show 2 ^ 8 ≤ 2 ^ j from Nat.pow_le_pow_right (by decide) (by omega)))
  by_cases h8 : j < 8
  · simp [h8]
  · rw [small i h8, small b h8]; simp
end CrcM
