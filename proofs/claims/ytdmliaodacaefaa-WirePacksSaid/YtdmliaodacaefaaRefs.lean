/- The reference's shape, written out: just what the program's units are, written out. No program's walk in sight. -/
import Derived.Test.YtdmliaodacaefaaSteps
import Derived.Test.YtdmliaodacaefaaParse
import Derived.Test.YtdmliaodacaefaaPWirex4
import Derived.Test.YtdmliaodacaefaaBridge
import Derived.Test.YtdmliaodacaefaaUnp
import Derived.Test.YtdmliaodacaefaaPck
import Derived.Test.YtdmliaodacaefaaPWirex5
namespace Go.Proofs.Ytdmliaodacaefaa.Shape
open Go.RowKit Go.Proofs.YtdmliaodacaefaaW.PrintWords Go.Proofs.Ytdmliaodacaefaa.Bridge Go.Proofs.Ytdmliaodacaefaa.PWire
set_option linter.unusedVariables false
set_option linter.unusedSimpArgs false
theorem bt_get (s : ByteArray) (i : Nat) (h : i < s.size) : bt s (i : Int) = (s[i].toNat : Int) := by
  have h2 := bt_at s (i : Int) (by simpa using h)
  rw [← h2]
  rfl
theorem units_tail (y : List UInt8) (hy : y.length ≤ 100000) (m : Nat) : ∀ i, i + m = y.length → Ev (fun k => amberref02_units.l0 k (bl y) ((signs (y.take i) : Nat) : Int) (i : Int)) ((signs y : Nat) : Int) := by
  induction m with
  | zero =>
    intro i hi
    exact Ev.step (f := fun _ => some _) (fun k => by simp only [amberref02_units.l0]; rw [if_neg (by rw [bl_length]; omega), List.take_of_length_le (by omega)]) (Ev.now _)
  | succ m ih =>
    intro i hi
    have hs : signs (y.take (i + 1)) = signs (y.take i) + (if y[i] = 41 then 0 else 1) := by
      rw [List.take_succ_eq_append_getElem (by omega), signs_append]
      congr 1
      unfold signs
      rw [List.filter_cons]
      by_cases h : y[i] = 41
      · rw [if_pos h, if_neg (by simp [h])]; rfl
      · rw [if_neg h, if_pos (by simp [h])]; rfl
    have hb : signs (y.take i) ≤ i := Nat.le_trans (List.length_filter_le _ _) (List.length_take_le _ _)
    refine Ev.step (fun k => ?_) (ih (i + 1) (by omega))
    simp only [amberref02_units.l0]
    rw [if_pos (by rw [bl_length]; omega), if_pos (by omega), rd_bl y i (by omega), hs, wrapS i (by omega)]
    by_cases h : y[i] = 41
    · rw [if_pos (by rw [h]; rfl), if_pos h]; rfl
    · rw [if_neg (by intro e; exact h (UInt8.toNat_inj.1 (by show y[i].toNat = 41; omega))), if_neg h, wrapS _ (by omega)]
theorem units_ev (y : List UInt8) (hy : y.length ≤ 100000) : Ev (fun k => amberref02_units.f k (bl y)) ((signs y : Nat) : Int) := units_tail y hy y.length 0 (by omega)
theorem many_snoc (m : Nat) (c : UInt8) (g : List U) : many (m + 1) c g = many m c g ++ once c g := by
  induction m with
  | zero => rw [many_succ, many_zero, List.append_nil, List.nil_append]
  | succ m ih => rw [many_succ (m + 1), ih, ← List.append_assoc, ← many_succ, ih]
/-- what spreading comes to: all of it, or a refusal. -/
def Sp (t : List UInt8) (i d : Nat) (F : List UInt8) (g : Nat → Option (List Int × Int × Bool)) : Prop :=
  (∃ us j, par t i d = some (us, j) ∧ signs F + signs (flatL us) ≤ 256 ∧ Ev g (bl (F ++ flatL us), (j : Int), true)) ∨
  ((∀ us j, par t i d = some (us, j) → 256 < signs F + signs (flatL us)) ∧ ∃ r1 r2, Ev g (r1, r2, false))
theorem Sp.step {t : List UInt8} {i d : Nat} {F : List UInt8} {g f : Nat → Option (List Int × Int × Bool)} (h : ∀ k, g (k + 1) = f k) (k : Sp t i d F f) : Sp t i d F g := by
  rcases k with ⟨us, j, h1, h2, h3⟩ | ⟨h1, r1, r2, h3⟩
  · exact .inl ⟨us, j, h1, h2, Ev.step h h3⟩
  · exact .inr ⟨h1, r1, r2, Ev.step h h3⟩
theorem Sp.no {t : List UInt8} {i d : Nat} {F : List UInt8} {g : Nat → Option (List Int × Int × Bool)} (hp : par t i d = none) {r1 : List Int} {r2 : Int} (h : ∀ k, g (k + 1) = some (r1, r2, false)) : Sp t i d F g :=
  .inr ⟨fun us j e => (by rw [hp] at e; cases e), r1, r2, Ev.step (f := fun _ => some _) h (Ev.now _)⟩
/-- a unit's times, and on. -/
theorem times_sp (s : ByteArray) (i i2 d : Nat) (F : List UInt8) (c : UInt8) (n : Nat) (g : List U) (hn : n ≤ 9) (hi2 : i2 ≤ 1000)
    (hpar : par s.data.toList i d = behind [.mk c n g] (par s.data.toList i2 d)) (hF : F.length ≤ 2 * signs F) (hu : (once c g).length ≤ 2 * signs (once c g)) (hub : signs (once c g) ≤ 1000)
    (hrest : ∀ F1 : List UInt8, signs F1 ≤ 256 → F1.length ≤ 2 * signs F1 → Sp s.data.toList i2 d F1 (fun k => amberref02_spread.l0 k s (i2 : Int) (d : Int) (bl F1))) (q : Nat) :
    ∀ m, m + q = n → signs (F ++ many m c g) ≤ 256 → Sp s.data.toList i d F (fun k => amberref02_spread.l1 k s (i2 : Int) (d : Int) (bl (F ++ many m c g)) (n : Int) (bl (once c g)) (m : Int)) := by
  have hlm : ∀ m, (many m c g).length ≤ 2 * signs (many m c g) := by
    intro m
    rw [signs_many]
    have e : (many m c g).length = m * (once c g).length := by
      induction m with
      | zero => rw [many_zero, Nat.zero_mul]; rfl
      | succ m ih => rw [many_succ, List.length_append, ih, Nat.succ_mul, Nat.add_comm]
    rw [e, Nat.mul_left_comm]
    exact Nat.mul_le_mul_left m hu
  have hF1 : ∀ m, (F ++ many m c g).length ≤ 2 * signs (F ++ many m c g) := by
    intro m
    rw [List.length_append, signs_append]
    have := hlm m
    omega
  induction q with
  | zero =>
    intro m hm hs
    have hmn : m = n := by omega
    subst hmn
    refine Sp.step (f := fun k => amberref02_spread.l0 k s (i2 : Int) (d : Int) (bl (F ++ many m c g))) (fun k => by simp only [amberref02_spread.l1]; rw [if_neg (by omega)]) ?_
    rcases hrest _ hs (hF1 m) with ⟨us, j, h1, h2, h3⟩ | ⟨h1, r1, r2, h3⟩
    · refine .inl ⟨.mk c m g :: us, j, by rw [hpar, h1]; rfl, ?_, ?_⟩
      · show signs F + signs (many m c g ++ flatL us) ≤ 256
        rw [signs_append] at h2 ⊢
        omega
      · show Ev _ (bl (F ++ (many m c g ++ flatL us)), (j : Int), true)
        rw [← List.append_assoc]
        exact h3
    · refine .inr ⟨fun us j e => ?_, r1, r2, h3⟩
      cases hp : par s.data.toList i2 d with
      | none => rw [hpar, hp] at e; cases e
      | some r =>
        obtain ⟨us2, j2⟩ := r
        rw [hpar, hp] at e
        simp only [behind, Option.map_some, Option.some.injEq, Prod.mk.injEq] at e
        obtain ⟨rfl, rfl⟩ := e
        have := h1 us2 j2 hp
        show 256 < signs F + signs (many m c g ++ flatL us2)
        rw [signs_append] at this ⊢
        omega
  | succ q ih =>
    intro m hm hs
    have hlen := hF1 m
    have hlen2 := hF1 (m + 1)
    have e1 : F ++ many m c g ++ once c g = F ++ many (m + 1) c g := by rw [many_snoc, List.append_assoc]
    have hsg : signs (F ++ many (m + 1) c g) ≤ 1256 := by rw [← e1, signs_append]; omega
    have hu2 := units_ev (F ++ many (m + 1) c g) (by omega)
    have hstep : ∀ k, amberref02_spread.l1 (k + 1) s (i2 : Int) (d : Int) (bl (F ++ many m c g)) (n : Int) (bl (once c g)) (m : Int) =
        (amberref02_units.f k (bl (F ++ many (m + 1) c g))).bind fun t184 => if t184 > 256 then some (([] : List Int), (i2 : Int), false) else amberref02_spread.l1 k s (i2 : Int) (d : Int) (bl (F ++ many (m + 1) c g)) (n : Int) (bl (once c g)) (((m + 1 : Nat)) : Int) := by
      intro k
      simp only [amberref02_spread.l1]
      rw [if_pos (by omega), if_pos (by rw [bl_length, bl_length]; omega), wrapS m (by omega)]
      simp only [Option.bind_some]
      rw [← bl_append, e1]
    by_cases hbig : 256 < signs (F ++ many (m + 1) c g)
    · refine .inr ⟨fun us j e => ?_, [], (i2 : Int), ?_⟩
      · cases hp : par s.data.toList i2 d with
        | none => rw [hpar, hp] at e; cases e
        | some r =>
          obtain ⟨us2, j2⟩ := r
          rw [hpar, hp] at e
          simp only [behind, Option.map_some, Option.some.injEq, Prod.mk.injEq] at e
          obtain ⟨rfl, rfl⟩ := e
          show 256 < signs F + signs (many n c g ++ flatL us2)
          rw [signs_append] at hbig ⊢
          rw [signs_many] at hbig ⊢
          have : (m + 1) * signs (once c g) ≤ n * signs (once c g) := Nat.mul_le_mul_right _ (by omega)
          omega
      · refine Ev.step hstep (Ev.bind hu2 ?_)
        refine Ev.congr (f := fun _ => some (([] : List Int), (i2 : Int), false)) (fun k => ?_) (Ev.now _)
        rw [if_pos (by omega)]
    · have h := ih (m + 1) (by omega) (by omega)
      have hg : ∀ r, Ev (fun k => amberref02_spread.l1 k s (i2 : Int) (d : Int) (bl (F ++ many (m + 1) c g)) (n : Int) (bl (once c g)) (((m + 1 : Nat)) : Int)) r → Ev (fun k => amberref02_spread.l1 k s (i2 : Int) (d : Int) (bl (F ++ many m c g)) (n : Int) (bl (once c g)) (m : Int)) r := by
        intro r hr
        refine Ev.step hstep (Ev.bind hu2 ?_)
        refine Ev.congr (fun k => ?_) hr
        rw [if_neg (by omega)]
      rcases h with ⟨us, j, h1, h2, h3⟩ | ⟨h1, r1, r2, h3⟩
      · exact .inl ⟨us, j, h1, h2, hg _ h3⟩
      · exact .inr ⟨h1, r1, r2, hg _ h3⟩
/-- the bytes of one unit. -/
theorem once_len {c : UInt8} {g : List U} (h : (flatL g).length ≤ 2 * signs (flatL g)) (hl : isLetter c = true ∨ c = 40) : (once c g).length ≤ 2 * signs (once c g) ∧ (signs (once c g) ≤ signs (flatL g) + 1) ∧ signs (flatL g) ≤ signs (once 40 g) := by
  have e1 : signs (once 40 g) = signs (flatL g) + 1 := by
    rw [once_group, show (40 :: (flatL g ++ [41]) : List UInt8) = [40] ++ (flatL g ++ [41]) from rfl, signs_append, signs_append]
    show 1 + (signs (flatL g) + 0) = _; omega
  rcases hl with hl | hl
  · have hc : ¬ c = 40 := by intro e; subst e; revert hl; decide
    have h41 : ¬ c = 41 := by intro e; subst e; revert hl; decide
    have e2 : signs (once c g) = 1 := by rw [once_letter hc]; unfold signs; rw [List.filter_cons, if_pos (by simpa using h41)]; rfl
    refine ⟨by rw [e2, once_letter hc]; exact Nat.le_succ 1, by omega, by omega⟩
  · subst hl
    refine ⟨by rw [e1, once_group]; simp; omega, by omega, by omega⟩
theorem flat_signs {us : List U} (h : fineL us) : (flatL us).length ≤ 2 * signs (flatL us) := by
  have h1 := flat_lenL us
  have h2 := count_flatL us h
  rw [h2] at h1
  exact h1
theorem bt_size (s : ByteArray) : s.data.toList.length = s.size := rfl
/-- behind the digit: the letter or the group. -/
theorem rest_sp (s : ByteArray) (hs : s.size ≤ 64) (i d : Nat) (F : List UInt8) (hi : i < s.size) (hd : d ≤ 4) (h41 : ¬ s[i] = 41) (hF : F.length ≤ 2 * signs F) (hF2 : signs F ≤ 256)
    (hrec : ∀ i2 d2 : Nat, i < i2 → i2 ≤ s.size → d2 ≤ 4 → Sp s.data.toList i2 d2 [] (fun k => amberref02_spread.f k s (i2 : Int) (d2 : Int)))
    (hon : ∀ i2, i < i2 → i2 ≤ s.size → ∀ F1 : List UInt8, signs F1 ≤ 256 → F1.length ≤ 2 * signs F1 → Sp s.data.toList i2 d F1 (fun k => amberref02_spread.l0 k s (i2 : Int) (d : Int) (bl F1))) :
    Sp s.data.toList i d F (fun k => amberref02_spread.j3 k s ((let_ s[i] i : Nat) : Int) (d : Int) (bl F) ((tim s[i] : Nat) : Int)) := by
  have hle : i ≤ let_ s[i] i := by unfold let_; split <;> omega
  have ht := tim_bd s[i]
  by_cases hk : let_ s[i] i < s.size
  · obtain ⟨p, hp⟩ : ∃ p, p = let_ s[i] i := ⟨_, rfl⟩
    have hb := bt_get s p (by omega)
    have hlt := s[p].toNat_lt
    -- the unit's times
    have htimes : ∀ (c : UInt8) (g : List U) (i2 : Nat), p < i2 → i2 ≤ s.size → (isLetter c = true ∨ c = 40) → fineL g → signs (flatL g) ≤ 256 → par s.data.toList i d = behind [.mk c (tim s[i]) g] (par s.data.toList i2 d) →
        Sp s.data.toList i d F (fun k => amberref02_spread.j5 k s (i2 : Int) (d : Int) (bl F) ((tim s[i] : Nat) : Int) (bl (once c g))) := by
      intro c g i2 h1 h2 hc hg hsg hpar
      have ho := once_len (flat_signs hg) hc
      refine Sp.step (f := fun k => amberref02_spread.l1 k s (i2 : Int) (d : Int) (bl F) ((tim s[i] : Nat) : Int) (bl (once c g)) 0) (fun k => by simp only [amberref02_spread.j5]) ?_
      have h := times_sp s i i2 d F c (tim s[i]) g ht.2 (by omega) hpar hF ho.1 (by omega) (hon i2 (by omega) h2) (tim s[i]) 0 (by omega) (by rw [many_zero, List.append_nil]; exact hF2)
      rw [many_zero, List.append_nil] at h
      exact h
    by_cases hl : isLetter s[p] = true
    · have hpl : par s.data.toList i d = behind [.mk s[p] (tim s[i]) []] (par s.data.toList (p + 1) d) := by
        have h := par_letter (t := s.data.toList) (d := d) (show i < s.data.toList.length from hi) h41 (show let_ s[i] i < s.data.toList.length from hk) (by subst hp; exact hl)
        subst hp
        exact h
      have h5 := htimes s[p] [] (p + 1) (by omega) (by omega) (.inl hl) (by unfold fineL; trivial) (by show 0 ≤ 256; omega) hpl
      have hc40 : ¬ s[p] = 40 := by intro e; rw [e] at hl; revert hl; decide
      rw [once_letter hc40] at h5
      rw [← hp]
      have h4 : Sp s.data.toList i d F (fun k => amberref02_spread.j4 k s (p : Int) (d : Int) (bl F) ((tim s[i] : Nat) : Int) ([] : List Int) (bt s (p : Int)) true) := by
        refine Sp.step (fun k => ?_) h5
        simp only [amberref02_spread.j4, if_true]
        rw [if_pos (by omega), if_pos (by omega), if_pos (by simp), wrapS p (by omega), hb]
        rfl
      refine Sp.step (fun k => ?_) h4
      simp only [amberref02_spread.j3]
      rw [if_neg (by omega), if_pos (by omega), if_pos (by omega)]
      unfold isLetter at hl
      simp only [Bool.or_eq_true, beq_iff_eq] at hl
      rcases hl with ((h | h) | h) | h <;> (rw [hb, h]; simp)
    · rw [← hp]
      have hnl : ∀ L : UInt8, isLetter L = true → ¬ s[p] = L := fun L h e => hl (e ▸ h)
      have n98 : ¬ bt s (p : Int) = 98 := by rw [hb]; intro e; exact hnl 98 rfl (UInt8.toNat_inj.1 (by show s[p].toNat = 98; omega))
      have n104 : ¬ bt s (p : Int) = 104 := by rw [hb]; intro e; exact hnl 104 rfl (UInt8.toNat_inj.1 (by show s[p].toNat = 104; omega))
      have n119 : ¬ bt s (p : Int) = 119 := by rw [hb]; intro e; exact hnl 119 rfl (UInt8.toNat_inj.1 (by show s[p].toNat = 119; omega))
      have n108 : ¬ bt s (p : Int) = 108 := by rw [hb]; intro e; exact hnl 108 rfl (UInt8.toNat_inj.1 (by show s[p].toNat = 108; omega))
      have hj : ∀ g, Sp s.data.toList i d F g → (∀ k, amberref02_spread.j4 k s (p : Int) (d : Int) (bl F) ((tim s[i] : Nat) : Int) ([] : List Int) (bt s (p : Int)) false = g k) → Sp s.data.toList i d F (fun k => amberref02_spread.j3 k s (p : Int) (d : Int) (bl F) ((tim s[i] : Nat) : Int)) := by
        intro g hg he
        refine Sp.step (fun k => ?_) hg
        simp only [amberref02_spread.j3]
        rw [if_neg (by omega), if_pos (by omega), if_pos (by omega), if_neg n98, if_neg n104, if_neg n119, ← he k]
        congr 1
        simpa using n108
      refine hj _ ?_ (fun k => rfl)
      by_cases h40 : s[p] = 40
      · have hb40 : bt s (p : Int) = 40 := by rw [hb, h40]; rfl
        by_cases hd4 : d = 4
        · have hpd : par s.data.toList i d = none := par_deep (t := s.data.toList) (show i < s.data.toList.length from hi) h41 (show let_ s[i] i < s.data.toList.length from hk) (by subst hp; exact h40) hd4
          refine Sp.no hpd (r1 := []) (r2 := (p : Int)) (fun k => ?_)
          simp only [amberref02_spread.j4, Bool.false_eq_true, if_false]
          rw [if_pos hb40, if_pos (by omega)]
        · have hpo := par_open (t := s.data.toList) (show i < s.data.toList.length from hi) h41 (show let_ s[i] i < s.data.toList.length from hk) (by subst hp; exact h40) hd4
          have hti : tim s.data.toList[i] = tim s[i] := rfl
          have hle1 : let_ s.data.toList[i] i = p := by rw [hp]; rfl
          rw [hti, hle1] at hpo
          have hstep : ∀ k, amberref02_spread.j4 (k + 1) s (p : Int) (d : Int) (bl F) ((tim s[i] : Nat) : Int) ([] : List Int) (bt s (p : Int)) false = ((amberref02_spread.f k s ((p + 1 : Nat) : Int) ((d + 1 : Nat) : Int)).bind fun bt167 => (if bt167.2.2 = true then (if bt167.2.1 ≥ (s.size : Int) then (some (([] : List Int), (p : Int), false)) else (if ([] : List Int).length < 140737488355328 then ((some (([] : List Int) ++ [40] : List Int)).bind fun y172 => (if y172.length + bt167.1.length < 140737488355328 then ((some (y172 ++ bt167.1 : List Int)).bind fun y175 => (if y175.length < 140737488355328 then (amberref02_spread.j5 k s (wrap64 (bt167.2.1 + 1)) (d : Int) (bl F) ((tim s[i] : Nat) : Int) (y175 ++ [41])) else (none))) else (none))) else (none))) else (some (([] : List Int), (p : Int), false)))) := by
            intro k
            simp only [amberref02_spread.j4, Bool.false_eq_true, if_false]
            rw [if_pos hb40, if_neg (by omega), wrapS p (by omega), wrapS d (by omega)]
          rcases hrec (p + 1) (d + 1) (by omega) (by omega) (by omega) with ⟨g, j, h1, h2, h3⟩ | ⟨h1, r1, r2, h3⟩
          · have hjl := par_le h1 (show p + 1 ≤ s.data.toList.length by rw [bt_size]; omega)
            have hgood := par_good (s.data.toList.length + 1) _ (d + 1) g j (by omega) (show p + 1 ≤ s.data.toList.length by rw [bt_size]; omega) (by omega) h1
            have hjs : j ≤ s.size := hjl.2.1
            rw [h1] at hpo
            simp only at hpo
            have h2' : signs (flatL g) ≤ 256 := by have e : signs ([] : List UInt8) = 0 := rfl; omega
            have hgl := flat_signs hgood.fine
            by_cases hjlt : j < s.size
            · rw [if_pos (show j < s.data.toList.length from hjlt)] at hpo
              have h5 := htimes 40 g (j + 1) (by omega) (by omega) (.inr rfl) hgood.fine h2' hpo
              have hE : ∀ r, Ev (fun k => amberref02_spread.j5 k s ((j + 1 : Nat) : Int) (d : Int) (bl F) ((tim s[i] : Nat) : Int) (bl (once 40 g))) r → Ev (fun k => amberref02_spread.j4 k s (p : Int) (d : Int) (bl F) ((tim s[i] : Nat) : Int) ([] : List Int) (bt s (p : Int)) false) r := by
                intro r hr
                refine Ev.step hstep (Ev.bind h3 ?_)
                refine Ev.congr (fun k => ?_) hr
                simp only [if_true, List.nil_append, Option.bind_some]
                rw [if_neg (by omega), if_pos (by simp), if_pos (by rw [bl_length]; simp; omega), if_pos (by rw [List.length_append, bl_length]; simp; omega), wrapS j (by omega)]
                congr 1
                rw [once_group]
                simp [bl]
              rcases h5 with ⟨us, j2, g1, g2, g3⟩ | ⟨g1, r1, r2, g3⟩
              · exact .inl ⟨us, j2, g1, g2, hE _ g3⟩
              · exact .inr ⟨g1, r1, r2, hE _ g3⟩
            · rw [if_neg (show ¬ j < s.data.toList.length from hjlt)] at hpo
              refine .inr ⟨fun us j e => (by rw [hpo] at e; cases e), [], (p : Int), ?_⟩
              refine Ev.step hstep (Ev.bind h3 ?_)
              refine Ev.congr (f := fun _ => some _) (fun k => ?_) (Ev.now _)
              simp only [if_true]
              rw [if_pos (by omega)]
          · refine .inr ⟨fun us j e => ?_, [], (p : Int), ?_⟩
            · cases hin : par s.data.toList (p + 1) (d + 1) with
              | none => rw [hpo, hin] at e; cases e
              | some r =>
                obtain ⟨g, j1⟩ := r
                have h7 := h1 g j1 hin
                rw [hpo, hin] at e
                simp only at e
                split at e
                · cases hp2 : par s.data.toList (j1 + 1) d with
                  | none => rw [hp2] at e; cases e
                  | some r2 =>
                    rw [hp2] at e
                    simp only [behind, Option.map_some, Option.some.injEq, Prod.mk.injEq] at e
                    obtain ⟨e1, e2⟩ := e
                    subst e1
                    show 256 < signs F + signs (many (tim s[i]) 40 g ++ flatL r2.1)
                    have hgd := par_good (s.data.toList.length + 1) _ (d + 1) g j1 (by omega) (show p + 1 ≤ s.data.toList.length by rw [bt_size]; omega) (by omega) hin
                    have h8 := (once_len (flat_signs hgd.fine) (.inr rfl) (c := 40)).2.2
                    rw [signs_append, signs_many]
                    have e0 : signs ([] : List UInt8) = 0 := rfl
                    have h9 : 1 * signs (once 40 g) ≤ tim s[i] * signs (once 40 g) := Nat.mul_le_mul_right _ ht.1
                    omega
                · cases e
            · refine Ev.step hstep (Ev.bind h3 ?_)
              exact Ev.congr (f := fun _ => some _) (fun k => by simp only [Bool.false_eq_true, if_false]) (Ev.now _)
      · have hpb : par s.data.toList i d = none := par_bad (t := s.data.toList) (show i < s.data.toList.length from hi) h41 (show let_ s[i] i < s.data.toList.length from hk) (by subst hp; exact Bool.eq_false_iff.2 hl) (by subst hp; exact h40)
        refine Sp.no hpb (r1 := []) (r2 := (p : Int)) (fun k => ?_)
        simp only [amberref02_spread.j4, Bool.false_eq_true, if_false]
        rw [if_neg (by rw [hb]; intro e; exact h40 (UInt8.toNat_inj.1 (by show s[p].toNat = 40; omega)))]
  · have hpc : par s.data.toList i d = none := par_cut (t := s.data.toList) (show i < s.data.toList.length from hi) h41 (show ¬ let_ s[i] i < s.data.toList.length from hk)
    refine Sp.no hpc (r1 := []) (r2 := ((let_ s[i] i : Nat) : Int)) (fun k => ?_)
    simp only [amberref02_spread.j3]
    rw [if_pos (by omega)]
/-- from a place on. -/
theorem spread_sp (s : ByteArray) (hs : s.size ≤ 64) (n : Nat) : ∀ (i d : Nat), s.size - i < n → i ≤ s.size → d ≤ 4 →
    (∀ F : List UInt8, signs F ≤ 256 → F.length ≤ 2 * signs F → Sp s.data.toList i d F (fun k => amberref02_spread.l0 k s (i : Int) (d : Int) (bl F))) := by
  induction n with
  | zero => intro i d hn; omega
  | succ n ih =>
    intro i d hn hi hd F hF2 hF
    have hend : ∀ g, par s.data.toList i d = some ([], i) → (∀ k, g (k + 1) = amberref02_spread.j1 k s (i : Int) (d : Int) (bl F) false) → Sp s.data.toList i d F g := by
      intro g hp hg
      refine Sp.step hg (Sp.step (f := fun _ => some (bl F, (i : Int), true)) (fun k => by simp only [amberref02_spread.j1, Bool.false_eq_true, if_false]) ?_)
      refine .inl ⟨[], i, hp, ?_, ?_⟩
      · show signs F + 0 ≤ 256; omega
      · have e : F ++ flatL [] = F := List.append_nil F
        rw [e]
        exact Ev.now _
    by_cases hlt : i < s.size
    · have hb := bt_get s i hlt
      by_cases h41 : s[i] = 41
      · refine hend _ (par_close (t := s.data.toList) (show i < s.data.toList.length from hlt) h41) (fun k => ?_)
        simp only [amberref02_spread.l0]
        rw [if_pos (by omega), if_pos (by omega), hb, h41]
        rfl
      · have hrest := rest_sp s hs i d F hlt hd h41 hF hF2 (fun i2 d2 h1 h2 h3 => Sp.step (fun k => by simp only [amberref02_spread.f]; rfl) (ih i2 d2 (by omega) h2 h3 [] (by show 0 ≤ 256; omega) (Nat.le_refl _)))
          (fun i2 h1 h2 F1 h3 h4 => ih i2 d (by omega) h2 hd F1 h3 h4)
        have hne : (bt s (i : Int) != 41) = true := by
          rw [hb]
          simp only [bne_iff_ne, ne_eq]
          intro e
          exact h41 (UInt8.toNat_inj.1 (by show s[i].toNat = 41; omega))
        refine Sp.step (f := fun k => amberref02_spread.j1 k s (i : Int) (d : Int) (bl F) true) (fun k => by simp only [amberref02_spread.l0]; rw [if_pos (by omega), if_pos (by omega), hne]) ?_
        by_cases hdig : isDigit s[i] = true
        · have hr : 50 ≤ s[i].toNat ∧ s[i].toNat ≤ 57 := by unfold isDigit at hdig; simpa using hdig
          refine Sp.step (f := fun k => amberref02_spread.j2 k s (i : Int) (d : Int) (bl F) 1 true) (fun k => by simp only [amberref02_spread.j1, if_true]; rw [if_pos (by omega), if_pos (by omega), if_pos (by rw [hb]; omega), hb, decide_eq_true (by omega)]) ?_
          refine Sp.step (fun k => ?_) hrest
          simp only [amberref02_spread.j2, if_true]
          rw [if_pos (by omega), if_pos (by omega), hb, wrapS i (by omega)]
          unfold let_ tim
          rw [if_pos hdig, if_pos hdig]
          congr 1
          omega
        · have hj2 : Sp s.data.toList i d F (fun k => amberref02_spread.j2 k s (i : Int) (d : Int) (bl F) 1 false) := by
            refine Sp.step (fun k => ?_) hrest
            simp only [amberref02_spread.j2, Bool.false_eq_true, if_false]
            unfold let_ tim
            rw [if_neg hdig, if_neg hdig]
            rfl
          refine Sp.step (fun k => ?_) hj2
          simp only [amberref02_spread.j1, if_true]
          rw [if_pos (by omega), if_pos (by omega)]
          by_cases h50 : bt s (i : Int) ≥ 50
          · rw [if_pos h50, decide_eq_false (by unfold isDigit at hdig; rw [hb] at h50 ⊢; simp at hdig; omega)]
          · rw [if_neg h50]
    · refine hend _ (par_end (t := s.data.toList) (show ¬ i < s.data.toList.length from hlt)) (fun k => ?_)
      simp only [amberref02_spread.l0]
      rw [if_neg (by omega)]
end Go.Proofs.Ytdmliaodacaefaa.Shape
/- The reference's Flat, Letters, Unpack and Pack over a shape that is written out: just the program's steps. No walk in sight. -/
namespace Go.Proofs.Ytdmliaodacaefaa.Shape
open Go.RowKit Go.Proofs.YtdmliaodacaefaaW.PrintWords Go.Proofs.Ytdmliaodacaefaa.Bridge Go.Proofs.Ytdmliaodacaefaa.PWire Go.Proofs.Ytdmliaodacaefaa.Wr Go.Proofs.Ytdmliaodacaefaa.Rd
set_option linter.unusedVariables false
set_option linter.unusedSimpArgs false
/-- Flat, of every text. -/
def flatS (t : List UInt8) : List UInt8 × Bool := match whole t with | some us => (flatL us, true) | none => ([], false)
theorem flat_ev (s : ByteArray) : Ev (fun k => amberref02_Flat.f k s) (bl (flatS s.data.toList).1, (flatS s.data.toList).2) := by
  by_cases hs : s.size ≤ 64
  · have hf : Sp s.data.toList 0 0 [] (fun k => amberref02_spread.f k s 0 0) := Sp.step (fun k => by simp only [amberref02_spread.f]; rfl) (spread_sp s hs (s.size + 1) 0 0 (by omega) (Nat.zero_le _) (by omega) [] (by show 0 ≤ 256; omega) (Nat.le_refl _))
    have hw : whole s.data.toList = match par s.data.toList 0 0 with | none => none | some r => if r.2 < s.data.toList.length then none else if 256 < (countL r.1).1 then none else some r.1 := by
      unfold whole; rw [if_pos (show s.data.toList.length ≤ 64 from hs)]; cases par s.data.toList 0 0 <;> rfl
    rcases hf with ⟨us, j, h1, h2, h3⟩ | ⟨h1, r1, r2, h3⟩
    · have hjl := par_le h1 (Nat.zero_le _)
      have hg := par_good (s.data.toList.length + 1) 0 0 us j (by omega) (Nat.zero_le _) (by omega) h1
      have hc := count_flatL us hg.fine
      have e0 : signs ([] : List UInt8) = 0 := rfl
      rw [h1] at hw
      simp only [hc] at hw
      by_cases hj : j < s.size
      · rw [if_pos (show j < s.data.toList.length from hj)] at hw
        unfold flatS
        rw [hw]
        unfold amberref02_Flat.f
        simp only
        refine Ev.congr (fun k => by rw [if_neg (by omega)]) (Ev.bind h3 (Ev.congr (f := fun _ => some _) (fun k => ?_) (Ev.now _)))
        simp only [if_true]
        rw [if_pos (by omega)]
        rfl
      · rw [if_neg (show ¬ j < s.data.toList.length from hj), if_neg (by omega)] at hw
        unfold flatS
        rw [hw]
        unfold amberref02_Flat.f
        simp only
        refine Ev.congr (fun k => by rw [if_neg (by omega)]) (Ev.bind h3 (Ev.congr (f := fun _ => some _) (fun k => ?_) (Ev.now _)))
        simp only [if_true]
        rw [if_neg (by omega)]
        rfl
    · have hn : whole s.data.toList = none := by
        rw [hw]
        cases hp : par s.data.toList 0 0 with
        | none => rfl
        | some r =>
          obtain ⟨us, j⟩ := r
          have hg := par_good (s.data.toList.length + 1) 0 0 us j (by omega) (Nat.zero_le _) (by omega) hp
          have hc := count_flatL us hg.fine
          have h4 := h1 us j hp
          have e0 : signs ([] : List UInt8) = 0 := rfl
          simp only [hc]
          split
          · rfl
          · rw [if_pos (by omega)]
      unfold flatS
      rw [hn]
      unfold amberref02_Flat.f
      refine Ev.congr (fun k => by rw [if_neg (by omega)]) (Ev.bind h3 (Ev.congr (f := fun _ => some _) (fun k => ?_) (Ev.now _)))
      simp only [Bool.false_eq_true, if_false]
      rfl
  · have hw : whole s.data.toList = none := by unfold whole; rw [if_neg (show ¬ s.data.toList.length ≤ 64 from hs)]
    unfold flatS
    rw [hw]
    unfold amberref02_Flat.f
    refine Ev.congr (f := fun _ => some _) (fun k => ?_) (Ev.now _)
    rw [if_pos (by omega)]
    rfl
theorem letters_tail (y : List UInt8) (hy : y.length ≤ 100000) (m : Nat) : ∀ i, i + m = y.length → Ev (fun k => amberref02_Letters.l0 k (bl y) ((ltrs (y.take i) : Nat) : Int) (i : Int)) ((ltrs y : Nat) : Int) := by
  induction m with
  | zero =>
    intro i hi
    exact Ev.step (f := fun _ => some _) (fun k => by simp only [amberref02_Letters.l0]; rw [if_neg (by rw [bl_length]; omega), List.take_of_length_le (by omega)]) (Ev.now _)
  | succ m ih =>
    intro i hi
    have hs : ltrs (y.take (i + 1)) = ltrs (y.take i) + (if y[i] = 40 ∨ y[i] = 41 then 0 else 1) := by
      rw [List.take_succ_eq_append_getElem (by omega), ltrs_append, ltrs_cons]
      rfl
    have hb : ltrs (y.take i) ≤ i := Nat.le_trans (List.length_filter_le _ _) (List.length_take_le _ _)
    refine Ev.step (fun k => ?_) (ih (i + 1) (by omega))
    simp only [amberref02_Letters.l0]
    rw [if_pos (by rw [bl_length]; omega), if_pos (by omega), rd_bl y i (by omega), hs, wrapS i (by omega)]
    by_cases h : y[i] = 40
    · rw [if_pos (by rw [h]; rfl), if_pos (.inl h)]; rfl
    · rw [if_neg (by intro e; exact h (UInt8.toNat_inj.1 (by show y[i].toNat = 40; omega)))]
      by_cases h1 : y[i] = 41
      · rw [if_pos (by rw [h1]; rfl), if_pos (.inr h1)]; rfl
      · rw [if_neg (by intro e; exact h1 (UInt8.toNat_inj.1 (by show y[i].toNat = 41; omega))), if_neg (by rintro (e | e); exact h e; exact h1 e), wrapS _ (by omega)]
theorem letters_ev (y : List UInt8) (hy : y.length ≤ 100000) : Ev (fun k => amberref02_Letters.f k (bl y)) ((ltrs y : Nat) : Int) := letters_tail y hy y.length 0 (by omega)
/-- brackets that meet, at most four deep. -/
def bal : Nat → List UInt8 → Prop
  | n, [] => n = 0
  | n, c :: l => if c = 40 then n < 4 ∧ bal (n + 1) l else if c = 41 then 0 < n ∧ bal (n - 1) l else bal n l
mutual
/-- how deep brackets are nested. -/
def nest1 : U → Nat
  | .mk c n g => if c = 40 then nestL g + 1 else 0
def nestL : List U → Nat
  | [] => 0
  | u :: l => max (nest1 u) (nestL l)
end
theorem bal_group {n : Nat} {m l : List UInt8} (hn : n < 4) (h : bal (n + 1) (m ++ ([41] ++ l)) ↔ bal (n + 1) ([41] ++ l)) : bal n (40 :: (m ++ [41]) ++ l) ↔ bal n l := by
  have e : (40 :: (m ++ [41]) ++ l : List UInt8) = 40 :: (m ++ ([41] ++ l)) := by simp
  rw [e]
  show (if (40 : UInt8) = 40 then n < 4 ∧ bal (n + 1) (m ++ ([41] ++ l)) else _) ↔ _
  rw [if_pos rfl, h]
  have e2 : bal (n + 1) ([41] ++ l) ↔ bal n l := by
    show (if (41 : UInt8) = 40 then _ else if (41 : UInt8) = 41 then 0 < n + 1 ∧ bal (n + 1 - 1) l else _) ↔ _
    rw [if_neg (by decide), if_pos rfl, Nat.add_sub_cancel]
    exact ⟨fun h => h.2, fun h => ⟨by omega, h⟩⟩
  rw [e2]
  exact ⟨fun h => h.2, fun h => ⟨hn, h⟩⟩
mutual
theorem bal_flat1 : ∀ (u : U) (n : Nat) (l : List UInt8), fine1 u → nest1 u + n ≤ 4 → (bal n (flat1 u ++ l) ↔ bal n l)
  | .mk c k g, n, l, hf, hn => by
    unfold fine1 at hf
    rw [flat1_many]
    have hg : ∀ m l, nestL g + m ≤ 4 → (bal m (flatL g ++ l) ↔ bal m l) := fun m l h => bal_flatL g m l hf.2 h
    induction k with
    | zero => rw [many_zero]; exact Iff.rfl
    | succ k ih =>
      rw [many_succ, List.append_assoc]
      by_cases hc : c = 40
      · have hn2 : nestL g + 1 + n ≤ 4 := by
          have : nest1 (.mk c k g) = nestL g + 1 := by show (if c = 40 then _ else _) = _; rw [if_pos hc]
          have e : nest1 (.mk c (k + 1) g) = nestL g + 1 := by show (if c = 40 then _ else _) = _; rw [if_pos hc]
          omega
        rw [hc, once_group]
        rw [hc] at ih
        exact (bal_group (by omega) (hg (n + 1) _ (by omega))).trans (ih (by rw [hc] at hn; exact hn))
      · have h41 : ¬ c = 41 := by
          intro e
          rcases hf.1 with h | h
          · exact hc h
          · rw [e] at h; revert h; decide
        rw [once_letter hc]
        show (if c = 40 then _ else if c = 41 then _ else bal n (many k c g ++ l)) ↔ _
        rw [if_neg hc, if_neg h41]
        exact ih hn
theorem bal_flatL : ∀ (us : List U) (n : Nat) (l : List UInt8), fineL us → nestL us + n ≤ 4 → (bal n (flatL us ++ l) ↔ bal n l)
  | [], n, l, _, _ => Iff.rfl
  | u :: us, n, l, hf, hn => by
    unfold fineL at hf
    have e : nestL (u :: us) = max (nest1 u) (nestL us) := rfl
    show bal n (flat1 u ++ flatL us ++ l) ↔ _
    rw [List.append_assoc]
    exact (bal_flat1 u n _ hf.1 (by omega)).trans (bal_flatL us n l hf.2 (by omega))
end
theorem par_nest {t : List UInt8} : ∀ (n i d : Nat) (us : List U) (j : Nat), t.length - i < n → i ≤ t.length → d ≤ 4 → par t i d = some (us, j) → nestL us + d ≤ 4
  | 0, i, d, us, j, hn, hi, hd, h => by omega
  | n + 1, i, d, us, j, hn, hi, hd, h => by
    by_cases hlt : i < t.length
    · by_cases h41 : t[i] = 41
      · rw [par_close hlt h41] at h
        simp only [Option.some.injEq, Prod.mk.injEq] at h
        obtain ⟨rfl, rfl⟩ := h
        show 0 + d ≤ 4; omega
      · by_cases hk : let_ t[i] i < t.length
        · have hle : i ≤ let_ t[i] i := by unfold let_; split <;> omega
          by_cases hl : isLetter t[let_ t[i] i] = true
          · rw [par_letter hlt h41 hk hl] at h
            cases hp : par t (let_ t[i] i + 1) d with
            | none => rw [hp] at h; simp [behind] at h
            | some r =>
              rw [hp] at h
              simp only [behind, Option.map_some, Option.some.injEq, Prod.mk.injEq] at h
              obtain ⟨e1, e2⟩ := h
              subst e1
              have h1 := par_nest n _ d r.1 r.2 (by omega) (by omega) hd hp
              have hc40 : ¬ t[let_ t[i] i] = 40 := by intro e; rw [e] at hl; revert hl; decide
              show max (if t[let_ t[i] i] = 40 then _ else 0) (nestL r.1) + d ≤ 4
              rw [if_neg hc40]
              omega
          · by_cases h40 : t[let_ t[i] i] = 40
            · by_cases hd4 : d = 4
              · rw [par_deep hlt h41 hk h40 hd4] at h; cases h
              · rw [par_open hlt h41 hk h40 hd4] at h
                cases hp1 : par t (let_ t[i] i + 1) (d + 1) with
                | none => rw [hp1] at h; cases h
                | some r1 =>
                  obtain ⟨g, j1⟩ := r1
                  rw [hp1] at h
                  simp only at h
                  have hle1 := par_le hp1 (by omega)
                  by_cases hj1 : j1 < t.length
                  · rw [if_pos hj1] at h
                    cases hp : par t (j1 + 1) d with
                    | none => rw [hp] at h; simp [behind] at h
                    | some r =>
                      rw [hp] at h
                      simp only [behind, Option.map_some, Option.some.injEq, Prod.mk.injEq] at h
                      obtain ⟨e1, e2⟩ := h
                      subst e1
                      have h1 := par_nest n _ d r.1 r.2 (by omega) (by omega) hd hp
                      have h2 := par_nest n _ (d + 1) g j1 (by omega) (by omega) (by omega) hp1
                      show max (nestL g + 1) (nestL r.1) + d ≤ 4
                      omega
                  · rw [if_neg hj1] at h; cases h
            · rw [par_bad hlt h41 hk (Bool.eq_false_iff.2 hl) h40] at h; cases h
        · rw [par_cut hlt h41 hk] at h; cases h
    · rw [par_end hlt] at h
      simp only [Option.some.injEq, Prod.mk.injEq] at h
      obtain ⟨rfl, rfl⟩ := h
      show 0 + d ≤ 4; omega
theorem whole_bal {t : List UInt8} {us : List U} (h : whole t = some us) : bal 0 (flatL us) := by
  have hf := (whole_good h).2.1
  unfold whole at h
  split at h
  · cases hp : par t 0 0 with
    | none => rw [hp] at h; cases h
    | some r =>
      obtain ⟨us1, j⟩ := r
      rw [hp] at h
      simp only at h
      split at h
      · cases h
      · split at h
        · cases h
        · injection h with h
          subst h
          have hn := par_nest (t.length + 1) 0 0 us1 j (by omega) (Nat.zero_le _) (by omega) hp
          have h2 := (bal_flatL us1 0 [] hf (by omega)).2 rfl
          rwa [List.append_nil] at h2
  · cases h
end Go.Proofs.Ytdmliaodacaefaa.Shape
/- The reference's Unpack and Pack: what the program's tell. No walk in sight. -/
namespace Go.Proofs.Ytdmliaodacaefaa.Shape
open Go.RowKit Go.Proofs.YtdmliaodacaefaaW.PrintWords Go.Proofs.Ytdmliaodacaefaa.Bridge Go.Proofs.Ytdmliaodacaefaa.PWire Go.Proofs.Ytdmliaodacaefaa.Wr Go.Proofs.Ytdmliaodacaefaa.Rd
set_option linter.unusedVariables false
set_option linter.unusedSimpArgs false
/-- what Unpack tells at the end of a run. -/
def endU : Except Int (UX × List Nat) → List Int × Int
  | .error z => ([], z)
  | .ok y => if y.1.1.endE = 0 then (y.1.2, 0) else ([], y.1.1.endE)
theorem width_eq (c : UInt8) : amberref02_Width.f (c.toNat : Int) = some ((wid c : Nat) : Int) := by
  unfold amberref02_Width.f wid
  by_cases h1 : c = 98
  · rw [if_pos (by rw [h1]; rfl), if_pos h1]; rfl
  · rw [if_neg (by intro e; exact h1 (UInt8.toNat_inj.1 (by show c.toNat = 98; omega))), if_neg h1]
    by_cases h2 : c = 104
    · rw [if_pos (by rw [h2]; rfl), if_pos h2]; rfl
    · rw [if_neg (by intro e; exact h2 (UInt8.toNat_inj.1 (by show c.toNat = 104; omega))), if_neg h2]
      by_cases h3 : c = 119
      · rw [if_pos (by rw [h3]; rfl), if_pos h3]; rfl
      · rw [if_neg (by intro e; exact h3 (UInt8.toNat_inj.1 (by show c.toNat = 119; omega))), if_neg h3]; rfl
theorem wid_bd (c : UInt8) : 1 ≤ wid c ∧ wid c ≤ 8 := by
  unfold wid
  split
  · omega
  · split
    · omega
    · split <;> omega
/-- marks as whole numbers, the last one last. -/
def mk (st : List Nat) : List Int := nl st.reverse
theorem mk_push (p : Nat) (st : List Nat) : mk (p :: st) = mk st ++ [(p : Int)] := by unfold mk; rw [List.reverse_cons, nl_append]; rfl
theorem mk_len (st : List Nat) : (mk st).length = st.length := by unfold mk; rw [nl_length, List.length_reverse]
theorem mk_last (p : Nat) (st : List Nat) : rd (mk (p :: st)) (st.length : Int) = (p : Int) := by
  rw [mk_push]
  show (mk st ++ [(p : Int)]).getD ((st.length : Int)).toNat 0 = _
  rw [Int.toNat_natCast, List.getD_eq_getElem?_getD, List.getElem?_append_right (by rw [mk_len]; exact Nat.le_refl _), mk_len]
  simp
theorem mk_pop (p : Nat) (st : List Nat) : (mk (p :: st)).take st.length = mk st := by
  rw [mk_push, List.take_append_of_le_length (by rw [mk_len]; exact Nat.le_refl _), List.take_of_length_le (by rw [mk_len]; exact Nat.le_refl _)]
theorem byte_ne {c : UInt8} {n : Nat} (hn : n < 256) (h : ¬ c = UInt8.ofNat n) : ¬ (c.toNat : Int) = (n : Int) := by
  intro e
  exact h (UInt8.toNat_inj.1 (by rw [UInt8.toNat_ofNat']; omega))
theorem bit_pieces (l : List UInt8) (a n : Nat) : (bl l).take (a + n) = bl (l.take (a + n)) := bl_take l _
theorem u64_ui (x : CrcM.W) : IntKind.u64.wrap (ui x) = ((x.toNat : Nat) : Int) := by
  rw [u64_of]
  unfold ui
  have := x.isLt
  omega
theorem wrap_small (a : Int) (h0 : -9000000000000000000 ≤ a) (h1 : a ≤ 9000000000000000000) : wrap64 a = a := by unfold wrap64; omega
theorem bind_eq {α β : Type} {a : Option α} {f g : α → Option β} (h : ∀ t, f t = g t) : a.bind f = a.bind g := by rw [funext h]
/-- the loop of Unpack. -/
theorem un_loop (l fl : List UInt8) (hl : l.length ≤ 140737488351232) (hfl : fl.length ≤ 100000) (n : Nat) : ∀ (i at_ : Nat) (vals : List Int) (st : List Nat), i + n = fl.length → at_ ≤ l.length → bal st.length (fl.drop i) → (∀ x ∈ st, x ≤ at_) → vals.length ≤ i → st.length ≤ i →
    Ev (fun k => amberref02_Unpack.l0 k (bl l) (bl fl) vals (mk st) (at_ : Int) (i : Int)) (endU (run ustep (fl.drop i) ((⟨l, at_, 0⟩, vals), st))) := by
  induction n with
  | zero =>
    intro i at_ vals st hi hat hb hst hv hsi
    have e : fl.drop i = [] := List.drop_of_length_le (by omega)
    rw [e]
    show Ev _ (endU (.ok ((⟨l, at_, 0⟩, vals), st)))
    show Ev _ (if (⟨l, at_, 0⟩ : RS).endE = 0 then (vals, 0) else ([], (⟨l, at_, 0⟩ : RS).endE))
    by_cases hlt : at_ < l.length
    · have he : (⟨l, at_, 0⟩ : RS).endE = 22 := by unfold RS.endE RS.left; rw [if_pos ⟨rfl, by show 0 < l.length - at_; omega⟩]
      rw [he, if_neg (by decide)]
      refine Ev.step (f := fun _ => some _) (fun k => ?_) (Ev.now _)
      simp only [amberref02_Unpack.l0]
      rw [if_neg (by rw [bl_length]; omega), if_pos (by rw [bl_length]; omega)]
    · have he : (⟨l, at_, 0⟩ : RS).endE = 0 := by unfold RS.endE RS.left; rw [if_neg (by rintro ⟨_, h⟩; have h2 : 0 < l.length - at_ := h; omega)]
      rw [he, if_pos rfl]
      refine Ev.step (f := fun _ => some _) (fun k => ?_) (Ev.now _)
      simp only [amberref02_Unpack.l0]
      rw [if_neg (by rw [bl_length]; omega), if_neg (by rw [bl_length]; omega)]
  | succ n ih =>
    intro i at_ vals st hi hat hb hst hv hsi
    have hlt : i < fl.length := by omega
    have hd : fl.drop i = fl[i] :: fl.drop (i + 1) := List.drop_eq_getElem_cons hlt
    have hstl : st.length ≤ 100000 := by omega
    rw [hd] at hb ⊢
    by_cases h40 : fl[i] = 40
    · have hs : run ustep (fl[i] :: fl.drop (i + 1)) ((⟨l, at_, 0⟩, vals), st) = run ustep (fl.drop (i + 1)) ((⟨l, at_, 0⟩, vals), at_ :: st) := run_cons_ok ustep (by rw [h40]; exact ustep40 _ _)
      rw [hs]
      have hb2 : bal (st.length + 1) (fl.drop (i + 1)) := by
        unfold bal at hb; rw [if_pos h40] at hb; exact hb.2
      refine Ev.step (fun k => ?_) (ih (i + 1) at_ vals (at_ :: st) (by omega) hat hb2 (fun x hx => by
        rcases List.mem_cons.1 hx with h | h
        · omega
        · exact hst x h) (by omega) (by rw [List.length_cons]; omega))
      simp only [amberref02_Unpack.l0]
      rw [if_pos (by rw [bl_length]; omega), if_pos (by omega), rd_bl fl i hlt, if_pos (by rw [h40]; rfl), if_pos (by rw [mk_len]; omega), wrapS i (by omega), mk_push]
    · have n40 : ¬ (fl[i].toNat : Int) = 40 := byte_ne (by decide) h40
      have hstep : ∀ (w : Nat) (res : List Int × Int), (∀ k, amberref02_Unpack.l0 (k + 1) (bl l) (bl fl) vals (mk st) (at_ : Int) (i : Int) = amberref02_Unpack.j1 k (bl l) (bl fl) vals (mk st) (at_ : Int) (i : Int) (w : Int)) → Ev (fun k => amberref02_Unpack.j1 k (bl l) (bl fl) vals (mk st) (at_ : Int) (i : Int) (w : Int)) res → Ev (fun k => amberref02_Unpack.l0 k (bl l) (bl fl) vals (mk st) (at_ : Int) (i : Int)) res := fun w res h1 h2 => Ev.step h1 h2
      have hwl : ∀ u : Unit, wrap64 (((bl l).length : Int) - (at_ : Int)) = ((l.length - at_ : Nat) : Int) := fun _ => by rw [bl_length, wrap_small _ (by omega) (by omega)]; omega
      have hwo : ∀ w : Nat, w ≤ 8 → wrap64 ((at_ : Int) + (w : Int)) = ((at_ + w : Nat) : Int) := fun w hw => by rw [wrap_small _ (by omega) (by omega)]; omega
      have hpiece : ∀ w : Nat, ((bl l).take (((at_ + w : Nat) : Int).toNat)).drop ((at_ : Int).toNat) = bl ((⟨l, at_, 0⟩ : RS).next w) := by
        intro w
        rw [Int.toNat_natCast, Int.toNat_natCast, bl_take, bl_drop]
        congr 1
        unfold RS.next
        rw [List.drop_take]
        congr 1
        omega
      have hnl : ∀ w : Nat, ((⟨l, at_, 0⟩ : RS).next w).length ≤ w := fun w => List.length_take_le _ _
      by_cases h41 : fl[i] = 41
      · cases st with
        | nil =>
          unfold bal at hb
          rw [if_neg h40, if_pos h41] at hb
          exact absurd hb.1 (Nat.lt_irrefl 0)
        | cons p st =>
          have hb2 : bal st.length (fl.drop (i + 1)) := by
            unfold bal at hb
            rw [if_neg h40, if_pos h41] at hb
            simpa using hb.2
          have hp : p ≤ at_ := hst p (List.mem_cons_self)
          have hsl : st.length ≤ 100000 := by have h := hsi; rw [List.length_cons] at h; omega
          refine hstep 4 _ (fun k => ?_) ?_
          · simp only [amberref02_Unpack.l0]
            rw [if_pos (by rw [bl_length]; omega), if_pos (by omega), rd_bl fl i hlt, if_neg n40, if_pos (by rw [h41]; rfl)]
            rfl
          have hu := ustep41 (⟨l, at_, 0⟩, vals) p st
          by_cases hsh : l.length - at_ < 4
          · have hr : run ustep (fl[i] :: fl.drop (i + 1)) ((⟨l, at_, 0⟩, vals), p :: st) = .error 20 := by
              refine run_cons_error ustep ?_
              rw [h41, hu]
              have hc : (⟨l, at_, 0⟩ : RS).checkS p = (⟨l, at_, 20⟩ : RS) := by
                have hnb : (⟨l, at_, 0⟩ : RS).hasB 4 = false := by unfold RS.hasB RS.left; simp; omega
                unfold RS.checkS
                rw [hnb, if_neg Bool.false_ne_true]
                unfold RS.hasS RS.left
                rw [if_pos rfl, if_neg (by decide), if_pos (by show ((l.length - at_ : Nat) : Int) < 4; omega)]
                rfl
              rw [ushut_error (z := (⟨l, at_, 0⟩, vals)) (by show ¬ ((⟨l, at_, 0⟩ : RS).checkS p).err = 0; rw [hc]; show ¬ (20 : Int) = 0; decide)]
              show Except.error ((⟨l, at_, 0⟩ : RS).checkS p).err = _
              rw [hc]
            rw [hr]
            refine Ev.step (f := fun _ => some ([], 20)) (fun k => ?_) (Ev.now _)
            simp only [amberref02_Unpack.j1]
            rw [hwl (), if_pos (by omega)]
          · have hhas : (⟨l, at_, 0⟩ : RS).hasB 4 = true := by unfold RS.hasB RS.left; simp; omega
            have hckp : worth ((⟨l, at_, 0⟩ : RS).next 4) = (CrcM.sum ((l.take at_).drop p)).toNat → (⟨l, at_, 0⟩ : RS).checkS p = (⟨l, at_ + 4, 0⟩ : RS) := by
              intro h
              unfold RS.checkS
              rw [hhas, if_pos rfl, if_pos h]
              rfl
            have hckn : ¬ worth ((⟨l, at_, 0⟩ : RS).next 4) = (CrcM.sum ((l.take at_).drop p)).toNat → (⟨l, at_, 0⟩ : RS).checkS p = (⟨l, at_, 21⟩ : RS) := by
              intro h
              unfold RS.checkS
              rw [hhas, if_pos rfl, if_neg h]
              rfl
            have hsum := rsum_ev ((l.take at_).drop p) (by rw [List.length_drop, List.length_take]; unfold maxLen; omega)
            have hwo4 := worth_ev ((⟨l, at_, 0⟩ : RS).next 4) (Nat.le_trans (hnl 4) (by decide))
            have hpc : ((bl l).take ((at_ : Int).toNat)).drop (((p : Nat) : Int).toNat) = bl ((l.take at_).drop p) := by rw [Int.toNat_natCast, Int.toNat_natCast, bl_take, bl_drop]
            have hlm1 : ∀ u : Unit, wrap64 (((mk (p :: st)).length : Int) - 1) = (st.length : Int) := fun _ => by rw [mk_len, List.length_cons, wrap_small _ (by omega) (by omega)]; omega
            have hj : ∀ k, amberref02_Unpack.j1 (k + 1) (bl l) (bl fl) vals (mk (p :: st)) (at_ : Int) (i : Int) 4 = (amberref02_Worth.f k (bl ((⟨l, at_, 0⟩ : RS).next 4))).bind fun t202 => (amberref02_Sum.f k (bl ((l.take at_).drop p))).bind fun t206 => if t202 = IntKind.u64.wrap t206 then amberref02_Unpack.l0 k (bl l) (bl fl) vals (mk st) ((at_ + 4 : Nat) : Int) ((i + 1 : Nat) : Int) else some (([] : List Int), 21) := by
              intro k
              simp only [amberref02_Unpack.j1]
              have h4 : ∀ u : Unit, wrap64 ((at_ : Int) + 4) = ((at_ + 4 : Nat) : Int) := fun _ => hwo 4 (by decide)
              rw [hwl (), if_neg (by omega), if_pos (by omega), h4 (), if_pos (by omega), if_pos (by rw [bl_length]; omega), hpiece 4]
              refine bind_eq fun t => ?_
              rw [if_pos (by omega), if_pos (by rw [bl_length]; omega), rd_bl fl i hlt, if_pos (by rw [h41]; rfl), hlm1 (), if_pos (by omega), if_pos (by rw [mk_len, List.length_cons]; omega), mk_last, if_pos (by omega), if_pos (by omega), if_pos (by rw [bl_length]; omega), hpc]
              refine bind_eq fun t2 => ?_
              by_cases hq : t = IntKind.u64.wrap t2
              · rw [if_pos hq, if_pos hq, if_pos (by rw [mk_len, List.length_cons]; omega), Int.toNat_natCast, mk_pop, wrapS i (by omega)]
              · rw [if_neg hq, if_neg hq]
            by_cases hgood : worth ((⟨l, at_, 0⟩ : RS).next 4) = (CrcM.sum ((l.take at_).drop p)).toNat
            · have hck := hckp hgood
              have hr : run ustep (fl[i] :: fl.drop (i + 1)) ((⟨l, at_, 0⟩, vals), p :: st) = run ustep (fl.drop (i + 1)) ((⟨l, at_ + 4, 0⟩, vals), st) := by
                refine run_cons_ok ustep ?_
                rw [h41, hu, ushut_ok (z := (⟨l, at_, 0⟩, vals)) (by show ((⟨l, at_, 0⟩ : RS).checkS p).err = 0; rw [hck])]
                show Except.ok (((⟨l, at_, 0⟩ : RS).checkS p, vals), st) = _
                rw [hck]
              rw [hr]
              refine Ev.step hj (Ev.bind hwo4 (Ev.bind hsum (Ev.congr (fun k => ?_) (ih (i + 1) (at_ + 4) vals st (by omega) (by omega) hb2 (fun x hx => Nat.le_trans (hst x (List.mem_cons_of_mem _ hx)) (by omega)) (by omega) (by rw [List.length_cons] at hsi; omega)))))
              rw [u64_ui, if_pos (by rw [hgood])]
            · have hck := hckn hgood
              have hr : run ustep (fl[i] :: fl.drop (i + 1)) ((⟨l, at_, 0⟩, vals), p :: st) = .error 21 := by
                refine run_cons_error ustep ?_
                rw [h41, hu, ushut_error (z := (⟨l, at_, 0⟩, vals)) (by show ¬ ((⟨l, at_, 0⟩ : RS).checkS p).err = 0; rw [hck]; show ¬ (21 : Int) = 0; decide)]
                show Except.error ((⟨l, at_, 0⟩ : RS).checkS p).err = _
                rw [hck]
              rw [hr]
              refine Ev.step hj (Ev.bind hwo4 (Ev.bind hsum (Ev.congr (f := fun _ => some ([], 21)) (fun k => ?_) (Ev.now _))))
              rw [u64_ui, if_neg (by omega)]
      · have n41 : ¬ (fl[i].toNat : Int) = 41 := byte_ne (by decide) h41
        have hw := wid_bd fl[i]
        have hb2 : bal st.length (fl.drop (i + 1)) := by
          unfold bal at hb
          rw [if_neg h40, if_neg h41] at hb
          exact hb
        have hu := ustepl fl[i] (⟨l, at_, 0⟩, vals) st h40 h41
        refine hstep (wid fl[i]) _ (fun k => ?_) ?_
        · simp only [amberref02_Unpack.l0]
          rw [if_pos (by rw [bl_length]; omega), if_pos (by omega), rd_bl fl i hlt, if_neg n40, if_neg n41, width_eq]
          rfl
        by_cases hsh : l.length - at_ < wid fl[i]
        · have ht : (⟨l, at_, 0⟩ : RS).takeS (wid fl[i]) = (⟨l, at_, 20⟩ : RS) := by
            unfold RS.takeS RS.hasB RS.hasS RS.left
            rw [if_neg (by simp; omega), if_pos rfl, if_neg (by omega), if_pos (by show ((l.length - at_ : Nat) : Int) < _; omega)]
            rfl
          have hr : run ustep (fl[i] :: fl.drop (i + 1)) ((⟨l, at_, 0⟩, vals), st) = .error 20 := by
            refine run_cons_error ustep ?_
            rw [hu, ulet_error (z := (⟨l, at_, 0⟩, vals)) (by show ¬ ((⟨l, at_, 0⟩ : RS).takeS (wid fl[i])).err = 0; rw [ht]; show ¬ (20 : Int) = 0; decide)]
            show Except.error ((⟨l, at_, 0⟩ : RS).takeS (wid fl[i])).err = _
            rw [ht]
          rw [hr]
          refine Ev.step (f := fun _ => some ([], 20)) (fun k => ?_) (Ev.now _)
          simp only [amberref02_Unpack.j1]
          rw [hwl (), if_pos (by omega)]
        · have hhas : (⟨l, at_, 0⟩ : RS).hasB (wid fl[i]) = true := by unfold RS.hasB RS.left; simp; omega
          have ht : (⟨l, at_, 0⟩ : RS).takeS (wid fl[i]) = (⟨l, at_ + wid fl[i], 0⟩ : RS) := by unfold RS.takeS; rw [hhas]; simp only [if_true]; rfl
          have htv : (⟨l, at_, 0⟩ : RS).takeV (wid fl[i]) = worth ((⟨l, at_, 0⟩ : RS).next (wid fl[i])) := by unfold RS.takeV; rw [hhas]; rfl
          have hwo4 := worth_ev ((⟨l, at_, 0⟩ : RS).next (wid fl[i])) (Nat.le_trans (hnl _) hw.2)
          have hr : run ustep (fl[i] :: fl.drop (i + 1)) ((⟨l, at_, 0⟩, vals), st) = run ustep (fl.drop (i + 1)) ((⟨l, at_ + wid fl[i], 0⟩, vals ++ [wrap64 ((worth ((⟨l, at_, 0⟩ : RS).next (wid fl[i])) : Nat) : Int)]), st) := by
            refine run_cons_ok ustep ?_
            rw [hu, ulet_ok (z := (⟨l, at_, 0⟩, vals)) (by show ((⟨l, at_, 0⟩ : RS).takeS (wid fl[i])).err = 0; rw [ht])]
            show Except.ok (((⟨l, at_, 0⟩ : RS).takeS (wid fl[i]), vals ++ [wrap64 (((⟨l, at_, 0⟩ : RS).takeV (wid fl[i]) : Nat) : Int)]), st) = _
            rw [ht, htv]
          rw [hr]
          refine Ev.step (f := fun k => (amberref02_Worth.f k (bl ((⟨l, at_, 0⟩ : RS).next (wid fl[i])))).bind fun t202 => amberref02_Unpack.l0 k (bl l) (bl fl) (vals ++ [wrap64 t202]) (mk st) ((at_ + wid fl[i] : Nat) : Int) ((i + 1 : Nat) : Int)) (fun k => ?_) ?_
          · simp only [amberref02_Unpack.j1]
            rw [hwl (), if_neg (by omega), if_pos (by omega), hwo _ hw.2, if_pos (by omega), if_pos (by rw [bl_length]; omega), hpiece]
            refine bind_eq fun t => ?_
            rw [if_pos (by omega), if_pos (by rw [bl_length]; omega), rd_bl fl i hlt, if_neg n41, if_pos (by omega), wrapS i (by omega)]
          · exact Ev.bind hwo4 (ih (i + 1) (at_ + wid fl[i]) _ st (by omega) (by omega) hb2 (fun x hx => Nat.le_trans (hst x hx) (by omega)) (by rw [List.length_append]; simp; omega) (by omega))
/-- Unpack, of every text and bytes. -/
theorem unpack_ev (s : ByteArray) (l : List UInt8) (hl : l.length ≤ 140737488351232) : Ev (fun k => amberref02_Unpack.f k s (bl l)) (unpackS s.data.toList l) := by
  have hf := flat_ev s
  unfold unpackS
  unfold flatS at hf
  cases hw : whole s.data.toList with
  | none =>
    rw [hw] at hf
    exact Ev.bind hf (Ev.congr (f := fun _ => some _) (fun k => by simp only [Bool.false_eq_true, if_false]) (Ev.now _))
  | some us =>
    rw [hw] at hf
    have hg := whole_good hw
    have hlen := flat_lenL us
    have h := un_loop l (flatL us) hl (by omega) (flatL us).length 0 0 [] [] (by omega) (Nat.zero_le _) (whole_bal hw) (fun x hx => by cases hx) (Nat.le_refl _) (Nat.le_refl _)
    refine Ev.bind hf (Ev.congr (fun k => ?_) h)
    simp only [if_true]
    rfl
/-- does a number fit its letter? -/
def fitsB (c : UInt8) (v : Int) : Bool :=
  if c = 98 then decide (0 ≤ v ∧ v ≤ 255) else if c = 104 then decide (0 ≤ v ∧ v ≤ 65535) else if c = 119 then decide (0 ≤ v ∧ v ≤ 4294967295) else true
theorem dec_two (v m : Int) : (if v ≥ 0 then some (decide (v ≤ m)) else some false) = some (decide (0 ≤ v ∧ v ≤ m)) := by
  by_cases h : v ≥ 0
  · rw [if_pos h]
    congr 1
    rw [Bool.eq_iff_iff, decide_eq_true_iff, decide_eq_true_iff]
    exact ⟨fun h2 => ⟨h, h2⟩, fun h2 => h2.2⟩
  · rw [if_neg h, decide_eq_false (by rintro ⟨h2, _⟩; exact h h2)]
theorem fits_eq (c : UInt8) (v : Int) : amberref02_Fits.f (c.toNat : Int) v = some (fitsB c v) := by
  unfold amberref02_Fits.f fitsB
  by_cases h1 : c = 98
  · rw [if_pos (by rw [h1]; rfl), if_pos h1, dec_two]
  · rw [if_neg (show ¬ (c.toNat : Int) = 98 from byte_ne (by decide) h1), if_neg h1]
    by_cases h2 : c = 104
    · rw [if_pos (by rw [h2]; rfl), if_pos h2, dec_two]
    · rw [if_neg (show ¬ (c.toNat : Int) = 104 from byte_ne (by decide) h2), if_neg h2]
      by_cases h3 : c = 119
      · rw [if_pos (by rw [h3]; rfl), if_pos h3, dec_two]
      · rw [if_neg (show ¬ (c.toNat : Int) = 119 from byte_ne (by decide) h3), if_neg h3]
theorem put_room {s : WS} {l : List UInt8} (he : s.err = 0) (hr : s.out.length + l.length ≤ s.lim) : s.put l = s.with_ (s.out ++ l) := by
  unfold WS.put; rw [if_pos he, if_pos hr]
theorem num_fit {s : WS} {v : Int} {m n : Nat} (he : s.err = 0) (h : 0 ≤ v ∧ v ≤ (m : Int)) : s.num v m n = s.put (little n (v % 18446744073709551616).toNat) := by
  unfold WS.num; rw [if_neg (by rintro ⟨_, h2 | h2⟩ <;> omega)]
theorem num_bad {s : WS} {v : Int} {m n : Nat} (he : s.err = 0) (h : ¬ (0 ≤ v ∧ v ≤ (m : Int))) : s.num v m n = s.fail 1 := by
  unfold WS.num; rw [if_pos ⟨he, by omega⟩]
theorem putc_fit {s : WS} {c : UInt8} {v : Int} (he : s.err = 0) (hr : s.out.length + 8 ≤ s.lim) (h : fitsB c v = true) : putc c s v = s.with_ (s.out ++ little (wid c) (v % 18446744073709551616).toNat) := by
  have hp : ∀ n, n ≤ 8 → s.put (little n (v % 18446744073709551616).toNat) = s.with_ (s.out ++ little n (v % 18446744073709551616).toNat) := fun n hn => put_room he (by rw [little_length]; omega)
  unfold fitsB at h
  unfold putc wid
  split
  · rename_i hc
    rw [if_pos hc] at h
    rw [num_fit he (by simpa using h), hp 1 (by decide)]
  · rename_i hc
    rw [if_neg hc] at h
    split
    · rename_i hc2
      rw [if_pos hc2] at h
      rw [num_fit he (by simpa using h), hp 2 (by decide)]
    · rename_i hc2
      rw [if_neg hc2] at h
      split
      · rename_i hc3
        rw [if_pos hc3] at h
        rw [num_fit he (by simpa using h), hp 4 (by decide)]
      · rw [hp 8 (by decide)]
theorem putc_bad {s : WS} {c : UInt8} {v : Int} (he : s.err = 0) (h : fitsB c v = false) : putc c s v = s.fail 1 := by
  unfold fitsB at h
  unfold putc
  split
  · rename_i hc
    rw [if_pos hc] at h
    exact num_bad he (by simpa using h)
  · rename_i hc
    rw [if_neg hc] at h
    split
    · rename_i hc2
      rw [if_pos hc2] at h
      exact num_bad he (by simpa using h)
    · rename_i hc2
      rw [if_neg hc2] at h
      split
      · rename_i hc3
        rw [if_pos hc3] at h
        exact num_bad he (by simpa using h)
      · rename_i hc3
        rw [if_neg hc3] at h
        cases h
/-- what Pack tells at the end of a run. -/
def endP : Except Int PX → List UInt8 × Int
  | .error z => ([], z)
  | .ok y => y.1.told
/-- a state without an error. -/
def ws (o : List UInt8) (q : List Nat) : WS := ⟨o, 1048576, q, 0⟩
/-- the loop of Pack. -/
theorem pk_loop (fl : List UInt8) (vs : List Int) (hfl : fl.length ≤ 100000) (hvl : vs.length ≤ 100000) (n : Nat) : ∀ (i j : Nat) (o : List UInt8) (q : List Nat), i + n = fl.length → bal q.length (fl.drop i) → (∀ x ∈ q, x ≤ o.length) → o.length ≤ 8 * i → j + ltrs (fl.drop i) = vs.length → q.length ≤ i →
    Ev (fun k => amberref02_Pack.l0 k vs (bl fl) (bl o) (nl q) (j : Int) (i : Int)) (bl (endP (run pstep (fl.drop i) (ws o q, vs.drop j))).1, (endP (run pstep (fl.drop i) (ws o q, vs.drop j))).2) := by
  induction n with
  | zero =>
    intro i j o q hi hb hq ho hj hqi
    have e : fl.drop i = [] := List.drop_of_length_le (by omega)
    rw [e] at hb ⊢
    have hq0 : q = [] := List.length_eq_zero_iff.1 hb
    subst hq0
    have ht : endP (run pstep [] (ws o [], vs.drop j)) = (o, 0) := by
      show (ws o []).told = _
      unfold WS.told
      rw [if_pos (show (ws o []).err = 0 from rfl), if_pos (show (ws o []).opn = [] from rfl)]
      rfl
    rw [ht]
    refine Ev.step (f := fun _ => some _) (fun k => ?_) (Ev.now _)
    simp only [amberref02_Pack.l0]
    rw [if_neg (by rw [bl_length]; omega)]
  | succ n ih =>
    intro i j o q hi hb hq ho hj hqi
    have hlt : i < fl.length := by omega
    have hd : fl.drop i = fl[i] :: fl.drop (i + 1) := List.drop_eq_getElem_cons hlt
    rw [hd] at hb hj ⊢
    rw [ltrs_cons] at hj
    by_cases h40 : fl[i] = 40
    · unfold bal at hb
      rw [if_pos h40] at hb
      rw [if_pos (.inl h40)] at hj
      have hs : run pstep (fl[i] :: fl.drop (i + 1)) (ws o q, vs.drop j) = run pstep (fl.drop (i + 1)) (ws o (q ++ [o.length]), vs.drop j) := by
        refine run_cons_ok pstep ?_
        rw [h40]
        show Except.ok ((ws o q).open_, vs.drop j) = _
        unfold WS.open_
        rw [if_pos (show (ws o q).err = 0 from rfl), if_neg (show ¬ (ws o q).opn.length = 4 from by show ¬ q.length = 4; omega)]
        rfl
      rw [hs]
      refine Ev.step (fun k => ?_) (ih (i + 1) j o (q ++ [o.length]) (by omega) (by rw [List.length_append]; exact hb.2) (fun x hx => by
        rcases List.mem_append.1 hx with h | h
        · exact hq x h
        · have : x = o.length := by simpa using h
          omega) (by omega) (by omega) (by rw [List.length_append]; simp; omega))
      simp only [amberref02_Pack.l0]
      rw [if_pos (by rw [bl_length]; omega), if_pos (by omega), rd_bl fl i hlt, if_pos (by rw [h40]; rfl), if_pos (by rw [nl_length]; omega), wrapS i (by omega), nl_append, bl_length]
      rfl
    · have n40 : ¬ (fl[i].toNat : Int) = 40 := byte_ne (by decide) h40
      by_cases h41 : fl[i] = 41
      · unfold bal at hb
        rw [if_neg h40, if_pos h41] at hb
        rw [if_pos (.inr h41)] at hj
        rcases List.eq_nil_or_concat q with hq0 | ⟨q1, p, hq0⟩
        · rw [hq0] at hb
          exact absurd hb.1 (Nat.lt_irrefl 0)
        · rw [List.concat_eq_append] at hq0
          subst hq0
          rw [List.length_append] at hb hqi
          have hb2 : bal q1.length (fl.drop (i + 1)) := by simpa using hb.2
          have hq1 : q1.length ≤ 100000 := by simp at hqi; omega
          have hp : p ≤ o.length := hq p (by simp)
          have hs : run pstep (fl[i] :: fl.drop (i + 1)) (ws o (q1 ++ [p]), vs.drop j) = run pstep (fl.drop (i + 1)) (ws (o ++ little 4 (CrcM.sum (o.drop p)).toNat) q1, vs.drop j) := by
            refine run_cons_ok pstep ?_
            rw [h41]
            show Except.ok ((ws o (q1 ++ [p])).seal, vs.drop j) = _
            have hsl : (ws o (q1 ++ [p])).sealed = little 4 (CrcM.sum (o.drop p)).toNat := by
              unfold WS.sealed
              rw [show (ws o (q1 ++ [p])).opn = q1 ++ [p] from rfl, List.getLastD_concat]
              rfl
            unfold WS.seal
            rw [if_pos (show (ws o (q1 ++ [p])).err = 0 from rfl), if_neg (show ¬ (ws o (q1 ++ [p])).opn = [] from by show ¬ q1 ++ [p] = []; simp), if_pos (show (ws o (q1 ++ [p])).out.length + 4 ≤ (ws o (q1 ++ [p])).lim from by show o.length + 4 ≤ 1048576; omega)]
            unfold WS.shut
            rw [hsl]
            show Except.ok ((⟨o ++ _, 1048576, (q1 ++ [p]).dropLast, 0⟩ : WS), _) = _
            rw [List.dropLast_concat]
            rfl
          rw [hs]
          have hsum := rsum_ev (o.drop p) (by rw [List.length_drop]; unfold maxLen; omega)
          have hlit := little_ev 4 (CrcM.sum (o.drop p)).toNat (by decide) (by have := (CrcM.sum (o.drop p)).isLt; omega)
          have hlm : ∀ u : Unit, wrap64 (((nl (q1 ++ [p])).length : Int) - 1) = (q1.length : Int) := fun _ => by
            have e : (nl (q1 ++ [p])).length = q1.length + 1 := by rw [nl_length, List.length_append]; rfl
            rw [e, wrap_small _ (by omega) (by omega)]; omega
          have hlen : (nl (q1 ++ [p])).length = q1.length + 1 := by rw [nl_length, List.length_append]; rfl
          have hrd : YtdmliaodacaefaaW.PrintWords.rd (nl (q1 ++ [p])) (q1.length : Int) = (p : Int) := by
            show (nl (q1 ++ [p])).getD ((q1.length : Int)).toNat 0 = _
            rw [nl_append, Int.toNat_natCast, List.getD_eq_getElem?_getD, List.getElem?_append_right (by rw [nl_length]; exact Nat.le_refl _), nl_length]
            simp [nl]
          have htk : (nl (q1 ++ [p])).take q1.length = nl q1 := by
            rw [nl_append, List.take_append_of_le_length (by rw [nl_length]; exact Nat.le_refl _), List.take_of_length_le (by rw [nl_length]; exact Nat.le_refl _)]
          refine Ev.step (f := fun k => (amberref02_Sum.f k (bl (o.drop p))).bind fun t236 => (amberref02_Little.f k (IntKind.u64.wrap t236) 4).bind fun t240 => if (bl o).length + t240.length < 140737488355328 then amberref02_Pack.l0 k vs (bl fl) (bl o ++ t240) (nl q1) (j : Int) ((i + 1 : Nat) : Int) else none) (fun k => ?_) ?_
          · simp only [amberref02_Pack.l0]
            rw [if_pos (by rw [bl_length]; omega), if_pos (by omega), rd_bl fl i hlt, if_neg n40, if_pos (by rw [h41]; rfl), hlm (), if_pos (by omega), if_pos (by rw [hlen]; omega), hrd, if_pos (by omega), if_pos (by rw [bl_length]; omega), Int.toNat_natCast, bl_drop]
            refine bind_eq fun t => ?_
            rw [if_pos (by rw [hlen]; omega), Int.toNat_natCast, htk, wrapS i (by omega)]
          · refine Ev.bind hsum ?_
            refine Ev.bind (g := fun k => amberref02_Little.f k (IntKind.u64.wrap (ui (CrcM.sum (o.drop p)))) 4) (Ev.congr (fun k => by rw [u64_ui]; rfl) hlit) ?_
            refine Ev.congr (fun k => ?_) (ih (i + 1) j (o ++ little 4 (CrcM.sum (o.drop p)).toNat) q1 (by omega) hb2 (fun x hx => Nat.le_trans (hq x (List.mem_append_left _ hx)) (by rw [List.length_append]; omega)) (by rw [List.length_append, little_length]; omega) (by omega) (by simp at hqi; omega))
            rw [if_pos (by rw [bl_length, bl_length, little_length]; omega), ← bl_append]
      · have n41 : ¬ (fl[i].toNat : Int) = 41 := byte_ne (by decide) h41
        have hw := wid_bd fl[i]
        unfold bal at hb
        rw [if_neg h40, if_neg h41] at hb
        rw [if_neg (by rintro (h | h); exact h40 h; exact h41 h)] at hj
        have hjl : j < vs.length := by omega
        have hvd : vs.drop j = vs[j] :: vs.drop (j + 1) := List.drop_eq_getElem_cons hjl
        have hrv : YtdmliaodacaefaaW.PrintWords.rd vs (j : Int) = vs[j] := by
          show vs.getD ((j : Int)).toNat 0 = _
          rw [Int.toNat_natCast, List.getD_eq_getElem?_getD, List.getElem?_eq_getElem hjl]
          rfl
        rw [hvd]
        have hps : pstep fl[i] (ws o q, vs[j] :: vs.drop (j + 1)) = if (putc fl[i] (ws o q) vs[j]).err = 0 then .ok (putc fl[i] (ws o q) vs[j], vs.drop (j + 1)) else .error (putc fl[i] (ws o q) vs[j]).err := by
          unfold pstep; rw [if_neg h40, if_neg h41]; rfl
        cases hfit : fitsB fl[i] vs[j] with
        | false =>
          have hpc := putc_bad (s := ws o q) rfl hfit
          have hs : run pstep (fl[i] :: fl.drop (i + 1)) (ws o q, vs[j] :: vs.drop (j + 1)) = .error 1 := by
            refine run_cons_error pstep ?_
            rw [hps, hpc, if_neg (by show ¬ (1 : Int) = 0; decide)]
            rfl
          rw [hs]
          show Ev _ (([] : List Int), (1 : Int))
          refine Ev.step (f := fun _ => some _) (fun k => ?_) (Ev.now _)
          simp only [amberref02_Pack.l0]
          rw [if_pos (by rw [bl_length]; omega), if_pos (by omega), rd_bl fl i hlt, if_neg n40, if_neg n41, if_pos (by omega), if_pos (by omega), hrv, fits_eq, hfit]
          simp only [Option.bind_some, Bool.false_eq_true, if_false]
        | true =>
          have hpc := putc_fit (s := ws o q) rfl (by show o.length + 8 ≤ 1048576; omega) hfit
          have hs : run pstep (fl[i] :: fl.drop (i + 1)) (ws o q, vs[j] :: vs.drop (j + 1)) = run pstep (fl.drop (i + 1)) (ws (o ++ little (wid fl[i]) (vs[j] % 18446744073709551616).toNat) q, vs.drop (j + 1)) := by
            refine run_cons_ok pstep ?_
            rw [hps, hpc, if_pos (by rfl)]
            rfl
          rw [hs]
          have hlit := little_ev (wid fl[i]) (vs[j] % 18446744073709551616).toNat (by omega) (by omega)
          refine Ev.step (f := fun k => (amberref02_Little.f k (((vs[j] % 18446744073709551616).toNat : Nat) : Int) ((wid fl[i] : Nat) : Int)).bind fun t252 => if (bl o).length + t252.length < 140737488355328 then amberref02_Pack.l0 k vs (bl fl) (bl o ++ t252) (nl q) ((j + 1 : Nat) : Int) ((i + 1 : Nat) : Int) else none) (fun k => ?_) ?_
          · simp only [amberref02_Pack.l0]
            rw [if_pos (by rw [bl_length]; omega), if_pos (by omega), rd_bl fl i hlt, if_neg n40, if_neg n41, if_pos (by omega), if_pos (by omega), hrv, fits_eq, hfit]
            simp only [Option.bind_some, if_true]
            rw [width_eq]
            simp only [Option.bind_some]
            rw [u64_of, wrapS i (by omega), wrapS j (by omega)]
          · refine Ev.bind hlit ?_
            refine Ev.congr (fun k => ?_) (ih (i + 1) (j + 1) (o ++ little (wid fl[i]) (vs[j] % 18446744073709551616).toNat) q (by omega) hb (fun x hx => Nat.le_trans (hq x hx) (by rw [List.length_append]; omega)) (by rw [List.length_append, little_length]; omega) (by omega) (by omega))
            rw [if_pos (by rw [bl_length, bl_length, little_length]; omega), ← bl_append]
/-- Pack, of every text and numbers. -/
theorem pack_ev (s : ByteArray) (vs : List Int) : Ev (fun k => amberref02_Pack.f k s vs) (bl (packS s.data.toList vs).1, (packS s.data.toList vs).2) := by
  have hf := flat_ev s
  unfold flatS at hf
  unfold packS
  cases hw : whole s.data.toList with
  | none =>
    rw [hw] at hf
    exact Ev.bind hf (Ev.congr (f := fun _ => some _) (fun k => by simp only [Bool.false_eq_true, if_false]; rfl) (Ev.now _))
  | some us =>
    rw [hw] at hf
    have hg := whole_good hw
    have hlen := flat_lenL us
    have hc := count_flatL us hg.2.1
    have hlt := letters_ev (flatL us) (by omega)
    have h2 : (countL us).2 = ltrs (flatL us) := by rw [hc]
    simp only
    by_cases he : (countL us).2 = vs.length
    · rw [if_pos he]
      have h := pk_loop (flatL us) vs (by omega) (by have := letters_leL us; omega) (flatL us).length 0 0 [] [] (by omega) (whole_bal hw) (fun x hx => by cases hx) (Nat.le_refl _) (by rw [List.drop_zero]; omega) (Nat.le_refl _)
      rw [List.drop_zero, List.drop_zero] at h
      refine Ev.bind hf (Ev.congr (f := fun k => (amberref02_Letters.f k (bl (flatL us))).bind fun t226 => if t226 = (vs.length : Int) then amberref02_Pack.l0 k vs (bl (flatL us)) [] [] 0 0 else some ([], 25)) (fun k => by simp only [if_true]) (Ev.bind hlt (Ev.congr (fun k => ?_) h)))
      rw [if_pos (by omega)]
      rfl
    · rw [if_neg he]
      refine Ev.bind hf (Ev.congr (f := fun k => (amberref02_Letters.f k (bl (flatL us))).bind fun t226 => if t226 = (vs.length : Int) then amberref02_Pack.l0 k vs (bl (flatL us)) [] [] 0 0 else some ([], 25)) (fun k => by simp only [if_true]) (Ev.bind hlt (Ev.congr (f := fun _ => some _) (fun k => ?_) (Ev.now _))))
      rw [if_neg (by omega)]
      rfl
end Go.Proofs.Ytdmliaodacaefaa.Shape
