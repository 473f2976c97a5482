/- What Pack and Unpack do at one sign of a shape that is written out. No program in sight. -/
import Derived.Test.YtdmliaodacaefaaShape
import Derived.Test.YtdmliaodacaefaaRdb
import Derived.Test.YtdmliaodacaefaaWrs
namespace Go.Proofs.Ytdmliaodacaefaa.Shape
open Go.RowKit Go.Proofs.Ytdmliaodacaefaa.Bridge Go.Proofs.Ytdmliaodacaefaa.Wr Go.Proofs.Ytdmliaodacaefaa.Rd
set_option linter.unusedVariables false
set_option linter.unusedSimpArgs false
/-- a letter's bytes. -/
def wid (c : UInt8) : Nat := if c = 98 then 1 else if c = 104 then 2 else if c = 119 then 4 else 8
/-- a reader, and the numbers so far. -/
abbrev UX := RS × List Int
def ulet (c : UInt8) (x : UX) : Except Int UX :=
  if (x.1.takeS (wid c)).err = 0 then .ok (x.1.takeS (wid c), x.2 ++ [wrap64 (x.1.takeV (wid c) : Nat)]) else .error (x.1.takeS (wid c)).err
def ushut (x : UX) (t : Nat) : Except Int UX :=
  if (x.1.checkS t).err = 0 then .ok (x.1.checkS t, x.2) else .error (x.1.checkS t).err
def ustep (c : UInt8) (x : UX × List Nat) : Except Int (UX × List Nat) :=
  if c = 40 then .ok (x.1, x.1.1.pos :: x.2)
  else if c = 41 then (match x.2 with
    | [] => .error 0
    | t :: st => (ushut x.1 t).map fun y => (y, st))
  else (ulet c x.1).map fun y => (y, x.2)
theorem ustep40 (x : UX) (st : List Nat) : ustep 40 (x, st) = .ok (x, x.1.pos :: st) := rfl
theorem ustep41 (x : UX) (t : Nat) (st : List Nat) : ustep 41 (x, t :: st) = (ushut x t).map fun y => (y, st) := rfl
theorem ustepl (c : UInt8) (x : UX) (st : List Nat) (h : ¬ c = 40) (h1 : ¬ c = 41) : ustep c (x, st) = (ulet c x).map fun y => (y, st) := by
  unfold ustep; rw [if_neg h, if_neg h1]
/-- a shape's units level the stack. -/
theorem ulevel (l : List U) (x : UX) (hf : fineL l) : Level ustep (flatL l) x := level_flatL (mark := fun x : UX => x.1.pos) (shut := ushut) (lt := ulet) ustep40 ustep41 ustepl l x hf
theorem takeS_ok {s : RS} {n : Nat} (h : (s.takeS n).err = 0) : s.hasB n = true ∧ s.takeS n = s.go (s.pos + n) := by
  cases hb : s.hasB n with
  | true => exact ⟨rfl, by unfold RS.takeS; rw [hb]; rfl⟩
  | false =>
    have e : s.takeS n = s.hasS n := by unfold RS.takeS; rw [hb]; rfl
    rw [e] at h
    exact (has_err hb h).elim
theorem checkS_ok {s : RS} {t : Nat} (h : (s.checkS t).err = 0) : s.hasB 4 = true ∧ s.checkS t = s.go (s.pos + 4) := by
  cases hb : s.hasB 4 with
  | true =>
    refine ⟨rfl, ?_⟩
    unfold RS.checkS at h ⊢
    rw [hb] at h ⊢
    simp only [if_true] at h ⊢
    split at h
    · rename_i he; rw [if_pos he]
    · exact absurd h (by show ¬ (21 : Int) = 0; decide)
  | false =>
    have e : s.checkS t = s.hasS 4 := by unfold RS.checkS; rw [hb]; rfl
    rw [e] at h
    exact (has_err hb h).elim
/-- a step goes on, and adds at most one number. -/
def Onw (x y : UX) (k : Nat) : Prop := x.1.pos ≤ y.1.pos ∧ y.1.inp = x.1.inp ∧ y.2.length ≤ x.2.length + k
theorem onw_refl (x : UX) : Onw x x 0 := ⟨Nat.le_refl _, rfl, Nat.le_refl _⟩
theorem onw_trans {x y z : UX} {a b : Nat} (h : Onw x y a) (k : Onw y z b) : Onw x z (a + b) :=
  ⟨Nat.le_trans h.1 k.1, k.2.1.trans h.2.1, by have := h.2.2; have := k.2.2; omega⟩
theorem onw_let {c : UInt8} {x y : UX} (h : ulet c x = .ok y) : Onw x y 1 := by
  unfold ulet at h
  split at h
  · rename_i h0
    have e := (takeS_ok h0).2
    simp only [Except.ok.injEq] at h
    subst h
    refine ⟨?_, ?_, ?_⟩
    · show x.1.pos ≤ (x.1.takeS (wid c)).pos; rw [e]; exact Nat.le_add_right _ _
    · show (x.1.takeS (wid c)).inp = _; rw [e]; rfl
    · show (x.2 ++ [_]).length ≤ _; rw [List.length_append]; exact Nat.le_refl _
  · cases h
theorem onw_shut {t : Nat} {x y : UX} (h : ushut x t = .ok y) : Onw x y 0 := by
  unfold ushut at h
  split at h
  · rename_i h0
    have e := (checkS_ok h0).2
    simp only [Except.ok.injEq] at h
    subst h
    refine ⟨?_, ?_, Nat.le_refl _⟩
    · show x.1.pos ≤ (x.1.checkS t).pos; rw [e]; exact Nat.le_add_right _ _
    · show (x.1.checkS t).inp = _; rw [e]; rfl
  · cases h
theorem onw_step {c : UInt8} {x y : UX × List Nat} (h : ustep c x = .ok y) : Onw x.1 y.1 1 := by
  unfold ustep at h
  split at h
  · simp only [Except.ok.injEq] at h
    subst h
    exact ⟨Nat.le_refl _, rfl, Nat.le_succ _⟩
  · split at h
    · split at h
      · cases h
      · rename_i t st _
        cases hs : ushut x.1 t with
        | error e => rw [hs] at h; cases h
        | ok z =>
          rw [hs] at h
          simp only [Except.map, Except.ok.injEq] at h
          subst h
          have := onw_shut hs
          exact ⟨this.1, this.2.1, Nat.le_succ_of_le this.2.2⟩
    · cases hs : ulet c x.1 with
      | error e => rw [hs] at h; cases h
      | ok z =>
        rw [hs] at h
        simp only [Except.map, Except.ok.injEq] at h
        subst h
        exact onw_let hs
theorem onw_run {l : List UInt8} : ∀ {x y : UX × List Nat}, run ustep l x = .ok y → Onw x.1 y.1 l.length := by
  induction l with
  | nil =>
    intro x y h
    simp only [run, Except.ok.injEq] at h
    subst h
    exact onw_refl _
  | cons c l ih =>
    intro x y h
    cases hs : ustep c x with
    | error e => rw [run_cons_error ustep hs] at h; cases h
    | ok z =>
      rw [run_cons_ok ustep hs] at h
      have := onw_trans (onw_step hs) (ih h)
      rwa [Nat.add_comm] at this
theorem un_letter {c : UInt8} (hc : isLetter c = true) (g : List U) (rest : List UInt8) (z : UX) : run ustep (once c g ++ rest) (z, []) = match ulet c z with | .error e => .error e | .ok y => run ustep rest (y, []) := by
  have h40 : ¬ c = 40 := by intro e; subst e; revert hc; decide
  have h41 : ¬ c = 41 := by intro e; subst e; revert hc; decide
  rw [once_letter h40]
  have hs := ustepl c z [] h40 h41
  cases he : ulet c z with
  | error e => rw [he] at hs; exact run_cons_error ustep hs
  | ok y => rw [he] at hs; exact run_cons_ok ustep hs
theorem un_group_error {g : List U} (hf : fineL g) {z : UX} {e : Int} (h : run ustep (flatL g) (z, []) = .error e) (rest : List UInt8) : run ustep (once 40 g ++ rest) (z, []) = .error e := by
  rw [once_group]
  show run ustep (40 :: (flatL g ++ [41] ++ rest)) (z, []) = _
  rw [run_cons_ok ustep (ustep40 z []), List.append_assoc]
  rcases ulevel g z hf with ⟨e2, h2⟩ | ⟨y, h2⟩
  · rw [h2 []] at h
    cases h
    exact run_append_error ustep (h2 _)
  · rw [h2 []] at h; cases h
theorem un_group_ok {g : List U} (hf : fineL g) {z y : UX} (h : run ustep (flatL g) (z, []) = .ok (y, [])) (rest : List UInt8) :
    run ustep (once 40 g ++ rest) (z, []) = match ushut y z.1.pos with | .error e => .error e | .ok y2 => run ustep rest (y2, []) := by
  rw [once_group]
  show run ustep (40 :: (flatL g ++ [41] ++ rest)) (z, []) = _
  rw [run_cons_ok ustep (ustep40 z []), List.append_assoc]
  rcases ulevel g z hf with ⟨e2, h2⟩ | ⟨y1, h2⟩
  · rw [h2 []] at h; cases h
  · rw [h2 []] at h
    simp only [Except.ok.injEq, Prod.mk.injEq, and_true] at h
    subst h
    rw [run_append_ok ustep (h2 _)]
    have hs := ustep41 y1 z.1.pos []
    show run ustep (41 :: rest) (y1, [z.1.pos]) = _
    cases he : ushut y1 z.1.pos with
    | error e => rw [he] at hs; exact run_cons_error ustep hs
    | ok y2 => rw [he] at hs; exact run_cons_ok ustep hs
theorem ulet_ok {c : UInt8} {z : UX} (h : (z.1.takeS (wid c)).err = 0) : ulet c z = .ok (z.1.takeS (wid c), z.2 ++ [wrap64 (z.1.takeV (wid c) : Nat)]) := by unfold ulet; rw [if_pos h]
theorem ulet_error {c : UInt8} {z : UX} (h : ¬ (z.1.takeS (wid c)).err = 0) : ulet c z = .error (z.1.takeS (wid c)).err := by unfold ulet; rw [if_neg h]
theorem ushut_ok {z : UX} {t : Nat} (h : (z.1.checkS t).err = 0) : ushut z t = .ok (z.1.checkS t, z.2) := by unfold ushut; rw [if_pos h]
theorem ushut_error {z : UX} {t : Nat} (h : ¬ (z.1.checkS t).err = 0) : ushut z t = .error (z.1.checkS t).err := by unfold ushut; rw [if_neg h]
/-- a number by its letter. -/
def putc (c : UInt8) (s : WS) (v : Int) : WS :=
  if c = 98 then s.num v 255 1 else if c = 104 then s.num v 65535 2 else if c = 119 then s.num v 4294967295 4 else s.put (little 8 (v % 18446744073709551616).toNat)
/-- a writer, and the numbers that are left. -/
abbrev PX := WS × List Int
def plet (c : UInt8) (x : PX) : Except Int PX :=
  match x.2 with
  | [] => .error 0
  | v :: vs => if (putc c x.1 v).err = 0 then .ok (putc c x.1 v, vs) else .error (putc c x.1 v).err
def pstep (c : UInt8) (x : PX) : Except Int PX :=
  if c = 40 then .ok (x.1.open_, x.2) else if c = 41 then .ok (x.1.seal, x.2) else plet c x
/-- the letters of a shape that is written out. -/
def ltrs (l : List UInt8) : Nat := (l.filter fun c => !(c == 40 || c == 41)).length
theorem ltrs_append (a b : List UInt8) : ltrs (a ++ b) = ltrs a + ltrs b := by unfold ltrs; rw [List.filter_append, List.length_append]
theorem ltrs_cons (c : UInt8) (l : List UInt8) : ltrs (c :: l) = (if c = 40 ∨ c = 41 then 0 else 1) + ltrs l := by
  unfold ltrs
  rw [List.filter_cons]
  by_cases h : c = 40 ∨ c = 41
  · rw [if_pos h, if_neg (by rcases h with h | h <;> subst h <;> decide), Nat.zero_add]
  · rw [if_neg h, if_pos (by simp only [Bool.not_eq_true', Bool.or_eq_false_iff, beq_eq_false_iff_ne]; exact ⟨fun e => h (.inl e), fun e => h (.inr e)⟩), List.length_cons, Nat.add_comm]
theorem ltrs_le (l : List UInt8) : ltrs l ≤ l.length := List.length_filter_le _ _
theorem plen_step {c : UInt8} {x y : PX} (h : pstep c x = .ok y) : y.2.length + (if c = 40 ∨ c = 41 then 0 else 1) = x.2.length := by
  unfold pstep at h
  split at h
  · rename_i hc
    simp only [Except.ok.injEq] at h
    subst h
    rw [if_pos (.inl hc)]; rfl
  · split at h
    · rename_i hc
      simp only [Except.ok.injEq] at h
      subst h
      rw [if_pos (.inr hc)]; rfl
    · rename_i h1 h2
      rw [if_neg (by rintro (h | h); exact h1 h; exact h2 h)]
      unfold plet at h
      split at h
      · cases h
      · rename_i v vs hv
        split at h
        · simp only [Except.ok.injEq] at h
          subst h
          rw [hv]; rfl
        · cases h
theorem plen_run {l : List UInt8} : ∀ {x y : PX}, run pstep l x = .ok y → y.2.length + ltrs l = x.2.length := by
  induction l with
  | nil =>
    intro x y h
    simp only [run, Except.ok.injEq] at h
    subst h
    rfl
  | cons c l ih =>
    intro x y h
    cases hs : pstep c x with
    | error e => rw [run_cons_error pstep hs] at h; cases h
    | ok z =>
      rw [run_cons_ok pstep hs] at h
      have h1 := ih h
      have h2 := plen_step hs
      rw [ltrs_cons]
      omega
theorem ltrs_many (n : Nat) (c : UInt8) (g : List U) : ltrs (many n c g) = n * ltrs (once c g) := by
  induction n with
  | zero => rw [many_zero, Nat.zero_mul]; rfl
  | succ n ih => rw [many_succ, ltrs_append, ih, Nat.succ_mul, Nat.add_comm]
/-- what count counts. -/
def signs (l : List UInt8) : Nat := (l.filter fun c => !(c == 41)).length
theorem signs_append (a b : List UInt8) : signs (a ++ b) = signs a + signs b := by unfold signs; rw [List.filter_append, List.length_append]
theorem signs_many (n : Nat) (c : UInt8) (g : List U) : signs (many n c g) = n * signs (once c g) := by
  induction n with
  | zero => rw [many_zero, Nat.zero_mul]; rfl
  | succ n ih => rw [many_succ, signs_append, ih, Nat.succ_mul, Nat.add_comm]
mutual
theorem count_flat1 : ∀ (u : U), fine1 u → count1 u = (signs (flat1 u), ltrs (flat1 u))
  | .mk c n g, hf => by
    unfold fine1 at hf
    rw [flat1_many, signs_many, ltrs_many]
    have h := count_flatL g hf.2
    show (if c = 40 then (((countL g).1 + 1) * n, (countL g).2 * n) else (n, n)) = _
    by_cases hc : c = 40
    · rw [if_pos hc, hc, once_group, h]
      have e1 : signs (40 :: (flatL g ++ [41])) = signs (flatL g) + 1 := by
        rw [show (40 :: (flatL g ++ [41]) : List UInt8) = [40] ++ (flatL g ++ [41]) from rfl, signs_append, signs_append]
        show 1 + (signs (flatL g) + 0) = _; omega
      have e2 : ltrs (40 :: (flatL g ++ [41])) = ltrs (flatL g) := by
        rw [ltrs_cons, ltrs_append, if_pos (.inl rfl)]
        show 0 + (ltrs (flatL g) + 0) = _; omega
      rw [e1, e2, Nat.mul_comm n, Nat.mul_comm n]
    · rw [if_neg hc, once_letter hc]
      have h41 : ¬ c = 41 := by
        intro e
        rcases hf.1 with h | h
        · exact hc h
        · rw [e] at h; revert h; decide
      have e1 : signs [c] = 1 := by
        unfold signs
        rw [List.filter_cons, if_pos (by simpa using h41)]; rfl
      have e2 : ltrs [c] = 1 := by rw [ltrs_cons, if_neg (by rintro (h | h); exact hc h; exact h41 h)]; rfl
      rw [e1, e2, Nat.mul_one]
theorem count_flatL : ∀ (l : List U), fineL l → countL l = (signs (flatL l), ltrs (flatL l))
  | [], _ => rfl
  | u :: l, hf => by
    unfold fineL at hf
    show ((count1 u).1 + (countL l).1, (count1 u).2 + (countL l).2) = (signs (flat1 u ++ flatL l), ltrs (flat1 u ++ flatL l))
    rw [count_flat1 u hf.1, count_flatL l hf.2, signs_append, ltrs_append]
end
mutual
theorem flat_len1 : ∀ (u : U), (flat1 u).length ≤ 2 * (count1 u).1
  | .mk c n g => by
    have h := flat_lenL g
    rw [flat1_many]
    have e : ∀ m, (many m c g).length = m * (once c g).length := by
      intro m
      induction m with
      | zero => rw [many_zero, Nat.zero_mul]; rfl
      | succ m ih => rw [many_succ, List.length_append, ih, Nat.succ_mul, Nat.add_comm]
    rw [e]
    show _ ≤ 2 * (if c = 40 then (((countL g).1 + 1) * n, (countL g).2 * n) else (n, n)).1
    by_cases hc : c = 40
    · rw [if_pos hc, hc, once_group]
      have e1 : (40 :: (flatL g ++ [41]) : List UInt8).length = (flatL g).length + 2 := by simp
      rw [e1]
      show n * _ ≤ 2 * (((countL g).1 + 1) * n)
      have h2 : n * ((flatL g).length + 2) ≤ n * (2 * ((countL g).1 + 1)) := Nat.mul_le_mul_left n (by omega)
      have e3 : n * (2 * ((countL g).1 + 1)) = 2 * (((countL g).1 + 1) * n) := by rw [Nat.mul_left_comm, Nat.mul_comm n]
      omega
    · rw [if_neg hc, once_letter hc]
      show n * 1 ≤ 2 * n
      omega
theorem flat_lenL : ∀ (l : List U), (flatL l).length ≤ 2 * (countL l).1
  | [] => Nat.zero_le _
  | u :: l => by
    have h1 := flat_len1 u
    have h2 := flat_lenL l
    show (flat1 u ++ flatL l).length ≤ 2 * ((count1 u).1 + (countL l).1)
    rw [List.length_append]; omega
end
end Go.Proofs.Ytdmliaodacaefaa.Shape
