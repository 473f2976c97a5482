/- Shapes that are written out: brackets that meet; a number by its letter. No walk in sight. -/
import Derived.Test.YtdmliaodacaefaaSteps
import Derived.Test.YtdmliaodacaefaaParse
import Derived.Test.YtdmliaodacaefaaBridge
namespace Go.Proofs.Ytdmliaodacaefaa.Shape
open Go.RowKit Go.Proofs.YtdmliaodacaefaaW.PrintWords Go.Proofs.Ytdmliaodacaefaa.Bridge Go.Proofs.Ytdmliaodacaefaa.Wr
set_option linter.unusedVariables false
set_option linter.unusedSimpArgs false
/-- brackets that meet, at most four deep. -/
def bal : Nat → List UInt8 → Prop
  | n, [] => n = 0
  | n, c :: l => if c = 40 then n < 4 ∧ bal (n + 1) l else if c = 41 then 0 < n ∧ bal (n - 1) l else bal n l
mutual
/-- how deep brackets are nested. -/
def nest1 : U → Nat
  | .mk c n g => if c = 40 then nestL g + 1 else 0
def nestL : List U → Nat
  | [] => 0
  | u :: l => max (nest1 u) (nestL l)
end
theorem bal_group {n : Nat} {m l : List UInt8} (hn : n < 4) (h : bal (n + 1) (m ++ ([41] ++ l)) ↔ bal (n + 1) ([41] ++ l)) : bal n (40 :: (m ++ [41]) ++ l) ↔ bal n l := by
  have e : (40 :: (m ++ [41]) ++ l : List UInt8) = 40 :: (m ++ ([41] ++ l)) := by simp
  rw [e]
  show (if (40 : UInt8) = 40 then n < 4 ∧ bal (n + 1) (m ++ ([41] ++ l)) else _) ↔ _
  rw [if_pos rfl, h]
  have e2 : bal (n + 1) ([41] ++ l) ↔ bal n l := by
    show (if (41 : UInt8) = 40 then _ else if (41 : UInt8) = 41 then 0 < n + 1 ∧ bal (n + 1 - 1) l else _) ↔ _
    rw [if_neg (by decide), if_pos rfl, Nat.add_sub_cancel]
    exact ⟨fun h => h.2, fun h => ⟨by omega, h⟩⟩
  rw [e2]
  exact ⟨fun h => h.2, fun h => ⟨hn, h⟩⟩
mutual
theorem bal_flat1 : ∀ (u : U) (n : Nat) (l : List UInt8), fine1 u → nest1 u + n ≤ 4 → (bal n (flat1 u ++ l) ↔ bal n l)
  | .mk c k g, n, l, hf, hn => by
    unfold fine1 at hf
    rw [flat1_many]
    have hg : ∀ m l, nestL g + m ≤ 4 → (bal m (flatL g ++ l) ↔ bal m l) := fun m l h => bal_flatL g m l hf.2 h
    induction k with
    | zero => rw [many_zero]; exact Iff.rfl
    | succ k ih =>
      rw [many_succ, List.append_assoc]
      by_cases hc : c = 40
      · have hn2 : nestL g + 1 + n ≤ 4 := by
          have : nest1 (.mk c k g) = nestL g + 1 := by show (if c = 40 then _ else _) = _; rw [if_pos hc]
          have e : nest1 (.mk c (k + 1) g) = nestL g + 1 := by show (if c = 40 then _ else _) = _; rw [if_pos hc]
          omega
        rw [hc, once_group]
        rw [hc] at ih
        exact (bal_group (by omega) (hg (n + 1) _ (by omega))).trans (ih (by rw [hc] at hn; exact hn))
      · have h41 : ¬ c = 41 := by
          intro e
          rcases hf.1 with h | h
          · exact hc h
          · rw [e] at h; revert h; decide
        rw [once_letter hc]
        show (if c = 40 then _ else if c = 41 then _ else bal n (many k c g ++ l)) ↔ _
        rw [if_neg hc, if_neg h41]
        exact ih hn
theorem bal_flatL : ∀ (us : List U) (n : Nat) (l : List UInt8), fineL us → nestL us + n ≤ 4 → (bal n (flatL us ++ l) ↔ bal n l)
  | [], n, l, _, _ => Iff.rfl
  | u :: us, n, l, hf, hn => by
    unfold fineL at hf
    have e : nestL (u :: us) = max (nest1 u) (nestL us) := rfl
    show bal n (flat1 u ++ flatL us ++ l) ↔ _
    rw [List.append_assoc]
    exact (bal_flat1 u n _ hf.1 (by omega)).trans (bal_flatL us n l hf.2 (by omega))
end
theorem par_nest {t : List UInt8} : ∀ (n i d : Nat) (us : List U) (j : Nat), t.length - i < n → i ≤ t.length → d ≤ 4 → par t i d = some (us, j) → nestL us + d ≤ 4
  | 0, i, d, us, j, hn, hi, hd, h => by omega
  | n + 1, i, d, us, j, hn, hi, hd, h => by
    by_cases hlt : i < t.length
    · by_cases h41 : t[i] = 41
      · rw [par_close hlt h41] at h
        simp only [Option.some.injEq, Prod.mk.injEq] at h
        obtain ⟨rfl, rfl⟩ := h
        show 0 + d ≤ 4; omega
      · by_cases hk : let_ t[i] i < t.length
        · have hle : i ≤ let_ t[i] i := by unfold let_; split <;> omega
          by_cases hl : isLetter t[let_ t[i] i] = true
          · rw [par_letter hlt h41 hk hl] at h
            cases hp : par t (let_ t[i] i + 1) d with
            | none => rw [hp] at h; simp [behind] at h
            | some r =>
              rw [hp] at h
              simp only [behind, Option.map_some, Option.some.injEq, Prod.mk.injEq] at h
              obtain ⟨e1, e2⟩ := h
              subst e1
              have h1 := par_nest n _ d r.1 r.2 (by omega) (by omega) hd hp
              have hc40 : ¬ t[let_ t[i] i] = 40 := by intro e; rw [e] at hl; revert hl; decide
              show max (if t[let_ t[i] i] = 40 then _ else 0) (nestL r.1) + d ≤ 4
              rw [if_neg hc40]
              omega
          · by_cases h40 : t[let_ t[i] i] = 40
            · by_cases hd4 : d = 4
              · rw [par_deep hlt h41 hk h40 hd4] at h; cases h
              · rw [par_open hlt h41 hk h40 hd4] at h
                cases hp1 : par t (let_ t[i] i + 1) (d + 1) with
                | none => rw [hp1] at h; cases h
                | some r1 =>
                  obtain ⟨g, j1⟩ := r1
                  rw [hp1] at h
                  simp only at h
                  have hle1 := par_le hp1 (by omega)
                  by_cases hj1 : j1 < t.length
                  · rw [if_pos hj1] at h
                    cases hp : par t (j1 + 1) d with
                    | none => rw [hp] at h; simp [behind] at h
                    | some r =>
                      rw [hp] at h
                      simp only [behind, Option.map_some, Option.some.injEq, Prod.mk.injEq] at h
                      obtain ⟨e1, e2⟩ := h
                      subst e1
                      have h1 := par_nest n _ d r.1 r.2 (by omega) (by omega) hd hp
                      have h2 := par_nest n _ (d + 1) g j1 (by omega) (by omega) (by omega) hp1
                      show max (nestL g + 1) (nestL r.1) + d ≤ 4
                      omega
                  · rw [if_neg hj1] at h; cases h
            · rw [par_bad hlt h41 hk (Bool.eq_false_iff.2 hl) h40] at h; cases h
        · rw [par_cut hlt h41 hk] at h; cases h
    · rw [par_end hlt] at h
      simp only [Option.some.injEq, Prod.mk.injEq] at h
      obtain ⟨rfl, rfl⟩ := h
      show 0 + d ≤ 4; omega
theorem whole_bal {t : List UInt8} {us : List U} (h : whole t = some us) : bal 0 (flatL us) := by
  have hf := (whole_good h).2.1
  unfold whole at h
  split at h
  · cases hp : par t 0 0 with
    | none => rw [hp] at h; cases h
    | some r =>
      obtain ⟨us1, j⟩ := r
      rw [hp] at h
      simp only at h
      split at h
      · cases h
      · split at h
        · cases h
        · injection h with h
          subst h
          have hn := par_nest (t.length + 1) 0 0 us1 j (by omega) (Nat.zero_le _) (by omega) hp
          have h2 := (bal_flatL us1 0 [] hf (by omega)).2 rfl
          rwa [List.append_nil] at h2
  · cases h
theorem wid_bd (c : UInt8) : 1 ≤ wid c ∧ wid c ≤ 8 := by
  unfold wid
  split
  · omega
  · split
    · omega
    · split <;> omega
/-- does a number fit its letter? -/
def fitsB (c : UInt8) (v : Int) : Bool :=
  if c = 98 then decide (0 ≤ v ∧ v ≤ 255) else if c = 104 then decide (0 ≤ v ∧ v ≤ 65535) else if c = 119 then decide (0 ≤ v ∧ v ≤ 4294967295) else true
theorem put_room {s : WS} {l : List UInt8} (he : s.err = 0) (hr : s.out.length + l.length ≤ s.lim) : s.put l = s.with_ (s.out ++ l) := by
  unfold WS.put; rw [if_pos he, if_pos hr]
theorem num_fit {s : WS} {v : Int} {m n : Nat} (he : s.err = 0) (h : 0 ≤ v ∧ v ≤ (m : Int)) : s.num v m n = s.put (little n (v % 18446744073709551616).toNat) := by
  unfold WS.num; rw [if_neg (by rintro ⟨_, h2 | h2⟩ <;> omega)]
theorem num_bad {s : WS} {v : Int} {m n : Nat} (he : s.err = 0) (h : ¬ (0 ≤ v ∧ v ≤ (m : Int))) : s.num v m n = s.fail 1 := by
  unfold WS.num; rw [if_pos ⟨he, by omega⟩]
theorem putc_fit {s : WS} {c : UInt8} {v : Int} (he : s.err = 0) (hr : s.out.length + 8 ≤ s.lim) (h : fitsB c v = true) : putc c s v = s.with_ (s.out ++ little (wid c) (v % 18446744073709551616).toNat) := by
  have hp : ∀ n, n ≤ 8 → s.put (little n (v % 18446744073709551616).toNat) = s.with_ (s.out ++ little n (v % 18446744073709551616).toNat) := fun n hn => put_room he (by rw [little_length]; omega)
  unfold fitsB at h
  unfold putc wid
  split
  · rename_i hc
    rw [if_pos hc] at h
    rw [num_fit he (by simpa using h), hp 1 (by decide)]
  · rename_i hc
    rw [if_neg hc] at h
    split
    · rename_i hc2
      rw [if_pos hc2] at h
      rw [num_fit he (by simpa using h), hp 2 (by decide)]
    · rename_i hc2
      rw [if_neg hc2] at h
      split
      · rename_i hc3
        rw [if_pos hc3] at h
        rw [num_fit he (by simpa using h), hp 4 (by decide)]
      · rw [hp 8 (by decide)]
theorem putc_bad {s : WS} {c : UInt8} {v : Int} (he : s.err = 0) (h : fitsB c v = false) : putc c s v = s.fail 1 := by
  unfold fitsB at h
  unfold putc
  split
  · rename_i hc
    rw [if_pos hc] at h
    exact num_bad he (by simpa using h)
  · rename_i hc
    rw [if_neg hc] at h
    split
    · rename_i hc2
      rw [if_pos hc2] at h
      exact num_bad he (by simpa using h)
    · rename_i hc2
      rw [if_neg hc2] at h
      split
      · rename_i hc3
        rw [if_pos hc3] at h
        exact num_bad he (by simpa using h)
      · rename_i hc3
        rw [if_neg hc3] at h
        cases h
/-- a state without an error. -/
def ws (o : List UInt8) (q : List Nat) : WS := ⟨o, 1048576, q, 0⟩
end Go.Proofs.Ytdmliaodacaefaa.Shape
