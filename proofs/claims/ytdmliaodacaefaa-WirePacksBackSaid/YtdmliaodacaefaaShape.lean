/- Shapes, plain: the units of a text as the program parses them, what they count and what they are written out. No program in sight. -/
import Derived.Test.YtdmliaodacaefaaWr
namespace Go.Proofs.Ytdmliaodacaefaa.Shape
open Go.RowKit Go.Proofs.Ytdmliaodacaefaa.Bridge
set_option linter.unusedVariables false
set_option linter.unusedSimpArgs false
/-- a letter, or a group, so many times. -/
inductive U where
  | mk (letter : UInt8) (times : Nat) (group : List U)
def U.letter : U → UInt8 | .mk c _ _ => c
def U.times : U → Nat | .mk _ n _ => n
def U.group : U → List U | .mk _ _ g => g
mutual
/-- a unit, written out. -/
def flat1 : U → List UInt8
  | .mk c n g => (List.replicate n (if c = 40 then 40 :: (flatL g ++ [41]) else [c])).flatten
def flatL : List U → List UInt8
  | [] => []
  | u :: l => flat1 u ++ flatL l
end
mutual
/-- units and letters, written out. -/
def count1 : U → Nat × Nat
  | .mk c n g => if c = 40 then (((countL g).1 + 1) * n, (countL g).2 * n) else (n, n)
def countL : List U → Nat × Nat
  | [] => (0, 0)
  | u :: l => ((count1 u).1 + (countL l).1, (count1 u).2 + (countL l).2)
end
def isDigit (c : UInt8) : Bool := decide (50 ≤ c.toNat ∧ c.toNat ≤ 57)
def isLetter (c : UInt8) : Bool := c == 98 || c == 104 || c == 119 || c == 108
/-- the units from a place on, and the place behind them; none where the text is no shape. The fuel is the letters that are left, and one. -/
def parse : Nat → List UInt8 → Nat → Nat → Option (List U × Nat)
  | 0, _, _, _ => none
  | fuel + 1, t, i, d =>
    if h : i < t.length then
      if t[i] = 41 then some ([], i)
      else
        let n := if isDigit t[i] then t[i].toNat - 48 else 1
        let k := if isDigit t[i] then i + 1 else i
        if hk : k < t.length then
          if isLetter t[k] then (parse fuel t (k + 1) d).map fun r => (.mk t[k] n [] :: r.1, r.2)
          else if t[k] = 40 then
            if d = 4 then none
            else
              match parse fuel t (k + 1) (d + 1) with
              | none => none
              | some (g, j) => if j < t.length then (parse fuel t (j + 1) d).map fun r => (.mk 40 n g :: r.1, r.2) else none
          else none
        else none
    else some ([], i)
theorem flatL_append (a b : List U) : flatL (a ++ b) = flatL a ++ flatL b := by
  induction a with
  | nil => rfl
  | cons u l ih => show flat1 u ++ flatL (l ++ b) = _; rw [ih, ← List.append_assoc]; rfl
theorem countL_append (a b : List U) : countL (a ++ b) = ((countL a).1 + (countL b).1, (countL a).2 + (countL b).2) := by
  induction a with
  | nil => show countL b = (0 + _, 0 + _); rw [Nat.zero_add, Nat.zero_add]
  | cons u l ih =>
    show ((count1 u).1 + (countL (l ++ b)).1, (count1 u).2 + (countL (l ++ b)).2) = _
    rw [ih]
    show _ = ((count1 u).1 + (countL l).1 + _, (count1 u).2 + (countL l).2 + _)
    rw [Nat.add_assoc, Nat.add_assoc]
end Go.Proofs.Ytdmliaodacaefaa.Shape
/- Shapes, plain: parsing does not hang on its fuel; one step of it; depth and times of what is parsed. -/
namespace Go.Proofs.Ytdmliaodacaefaa.Shape
open Go.RowKit Go.Proofs.Ytdmliaodacaefaa.Bridge
set_option linter.unusedVariables false
set_option linter.unusedSimpArgs false
/-- the place behind is not before the place. -/
theorem parse_le : ∀ (f : Nat) (t : List UInt8) (i d : Nat) (us : List U) (j : Nat), parse f t i d = some (us, j) → i ≤ t.length → i ≤ j ∧ j ≤ t.length ∧ (j < t.length → t[j]? = some 41)
  | 0, _, _, _, _, _, h, _ => by simp [parse] at h
  | f + 1, t, i, d, us, j, h, hi => by
    unfold parse at h
    split at h
    · rename_i hlt
      split at h
      · rename_i h41
        simp only [Option.some.injEq, Prod.mk.injEq] at h
        obtain ⟨_, rfl⟩ := h
        exact ⟨Nat.le_refl _, hi, fun hl => by rw [List.getElem?_eq_getElem hl, h41]⟩
      · simp only at h
        have hk : i ≤ (if isDigit t[i] = true then i + 1 else i) := by split <;> omega
        generalize (if isDigit t[i] = true then i + 1 else i) = k at h hk
        split at h
        · rename_i hkl
          split at h
          · cases hp : parse f t (k + 1) d with
            | none => rw [hp] at h; simp at h
            | some r =>
              rw [hp] at h
              simp only [Option.map_some, Option.some.injEq, Prod.mk.injEq] at h
              have := parse_le f t (k + 1) d r.1 r.2 hp (by omega)
              rw [h.2] at this
              exact ⟨by omega, this.2⟩
          · split at h
            · split at h
              · cases h
              · split at h
                · cases h
                · rename_i g j1 hp1
                  split at h
                  · rename_i hj1
                    have h1 := parse_le f t (k + 1) (d + 1) g j1 hp1 (by omega)
                    cases hp : parse f t (j1 + 1) d with
                    | none => rw [hp] at h; simp at h
                    | some r =>
                      rw [hp] at h
                      simp only [Option.map_some, Option.some.injEq, Prod.mk.injEq] at h
                      have := parse_le f t (j1 + 1) d r.1 r.2 hp (by omega)
                      rw [h.2] at this
                      exact ⟨by omega, this.2⟩
                  · cases h
            · cases h
        · cases h
    · simp only [Option.some.injEq, Prod.mk.injEq] at h
      obtain ⟨_, rfl⟩ := h
      exact ⟨Nat.le_refl _, hi, fun hl => by omega⟩
/-- enough fuel is enough. -/
theorem parse_fuel : ∀ (f g : Nat) (t : List UInt8) (i d : Nat), i ≤ t.length → t.length < i + f → t.length < i + g → parse f t i d = parse g t i d
  | 0, g, t, i, d, hi, hf, hg => by omega
  | f + 1, 0, t, i, d, hi, hf, hg => by omega
  | f + 1, g + 1, t, i, d, hi, hf, hg => by
    unfold parse
    by_cases hlt : i < t.length
    · rw [dif_pos hlt, dif_pos hlt]
      by_cases h41 : t[i] = 41
      · rw [if_pos h41, if_pos h41]
      · rw [if_neg h41, if_neg h41]
        simp only
        have hk : i ≤ (if isDigit t[i] = true then i + 1 else i) := by split <;> omega
        generalize (if isDigit t[i] = true then i + 1 else i) = k at hk
        by_cases hkl : k < t.length
        · rw [dif_pos hkl, dif_pos hkl, parse_fuel f g t (k + 1) d (by omega) (by omega) (by omega), parse_fuel f g t (k + 1) (d + 1) (by omega) (by omega) (by omega)]
          split
          · rfl
          · split
            · split
              · rfl
              · cases hp : parse g t (k + 1) (d + 1) with
                | none => rfl
                | some r =>
                  obtain ⟨gr, j⟩ := r
                  have h1 := parse_le g t (k + 1) (d + 1) gr j hp (by omega)
                  simp only
                  split
                  · rw [parse_fuel f g t (j + 1) d (by omega) (by omega) (by omega)]
                  · rfl
            · rfl
        · rw [dif_neg hkl, dif_neg hkl]
    · rw [dif_neg hlt, dif_neg hlt]
/-- the units from a place on. -/
def par (t : List UInt8) (i d : Nat) : Option (List U × Nat) := parse (t.length + 1) t i d
/-- behind some units. -/
def behind (us : List U) (o : Option (List U × Nat)) : Option (List U × Nat) := o.map fun r => (us ++ r.1, r.2)
theorem behind_behind (us vs : List U) (o : Option (List U × Nat)) : behind us (behind vs o) = behind (us ++ vs) o := by
  cases o with
  | none => rfl
  | some r => show some (us ++ (vs ++ r.1), r.2) = some (us ++ vs ++ r.1, r.2); rw [List.append_assoc]
theorem behind_nil (o : Option (List U × Nat)) : behind [] o = o := by cases o <;> rfl
theorem par_le {t : List UInt8} {i d j : Nat} {us : List U} (h : par t i d = some (us, j)) (hi : i ≤ t.length) : i ≤ j ∧ j ≤ t.length ∧ (j < t.length → t[j]? = some 41) := parse_le _ _ _ _ _ _ h hi
theorem par_end {t : List UInt8} {i d : Nat} (h : ¬ i < t.length) : par t i d = some ([], i) := by
  unfold par parse; rw [dif_neg h]
theorem par_close {t : List UInt8} {i d : Nat} (h : i < t.length) (h41 : t[i] = 41) : par t i d = some ([], i) := by
  unfold par parse; rw [dif_pos h, if_pos h41]
/-- how often the unit at a place, and the place of its letter. -/
def tim (c : UInt8) : Nat := if isDigit c then c.toNat - 48 else 1
def let_ (c : UInt8) (i : Nat) : Nat := if isDigit c then i + 1 else i
theorem par_cut {t : List UInt8} {i d : Nat} (h : i < t.length) (h41 : ¬ t[i] = 41) (hk : ¬ let_ t[i] i < t.length) : par t i d = none := by
  unfold par parse; rw [dif_pos h, if_neg h41]; simp only
  unfold let_ at hk
  rw [dif_neg hk]
theorem par_bad {t : List UInt8} {i d : Nat} (h : i < t.length) (h41 : ¬ t[i] = 41) (hk : let_ t[i] i < t.length) (h1 : isLetter t[let_ t[i] i] = false) (h2 : ¬ t[let_ t[i] i] = 40) : par t i d = none := by
  unfold par parse; rw [dif_pos h, if_neg h41]; simp only
  unfold let_ at hk h1 h2
  rw [dif_pos hk, if_neg (by rw [h1]; decide), if_neg h2]
theorem par_letter {t : List UInt8} {i d : Nat} (h : i < t.length) (h41 : ¬ t[i] = 41) (hk : let_ t[i] i < t.length) (h1 : isLetter t[let_ t[i] i] = true) :
    par t i d = behind [.mk t[let_ t[i] i] (tim t[i]) []] (par t (let_ t[i] i + 1) d) := by
  have hle : i ≤ let_ t[i] i := by unfold let_; split <;> omega
  have e := parse_fuel t.length (t.length + 1) t (let_ t[i] i + 1) d (by omega) (by omega) (by omega)
  unfold par
  rw [← e]
  conv => lhs; unfold parse
  rw [dif_pos h, if_neg h41]; simp only
  unfold let_ at hk h1
  rw [dif_pos hk, if_pos h1]
  rfl
theorem par_deep {t : List UInt8} {i d : Nat} (h : i < t.length) (h41 : ¬ t[i] = 41) (hk : let_ t[i] i < t.length) (h1 : t[let_ t[i] i] = 40) (hd : d = 4) : par t i d = none := by
  unfold par parse; rw [dif_pos h, if_neg h41]; simp only
  unfold let_ at hk h1
  rw [dif_pos hk, h1]
  rw [if_neg (by decide), if_pos rfl, if_pos hd]
theorem par_open {t : List UInt8} {i d : Nat} (h : i < t.length) (h41 : ¬ t[i] = 41) (hk : let_ t[i] i < t.length) (h1 : t[let_ t[i] i] = 40) (hd : ¬ d = 4) :
    par t i d = match par t (let_ t[i] i + 1) (d + 1) with
      | none => none
      | some (g, j) => if j < t.length then behind [.mk 40 (tim t[i]) g] (par t (j + 1) d) else none := by
  have hle : i ≤ let_ t[i] i := by unfold let_; split <;> omega
  have e := parse_fuel t.length (t.length + 1) t (let_ t[i] i + 1) (d + 1) (by omega) (by omega) (by omega)
  unfold par
  rw [← e]
  conv => lhs; unfold parse
  rw [dif_pos h, if_neg h41]; simp only
  unfold let_ at hk h1 e hle
  rw [dif_pos hk, h1]
  rw [if_neg (by decide), if_pos rfl, if_neg hd]
  simp only [let_]
  cases hp : parse t.length t ((if isDigit t[i] = true then i + 1 else i) + 1) (d + 1) with
  | none => rfl
  | some r =>
    obtain ⟨g, j⟩ := r
    have h2 := parse_le _ _ _ _ _ _ hp (by omega)
    simp only
    by_cases hj : j < t.length
    · rw [if_pos hj, if_pos hj, parse_fuel t.length (t.length + 1) t (j + 1) d (by omega) (by omega) (by omega)]
      rfl
    · rw [if_neg hj, if_neg hj]
end Go.Proofs.Ytdmliaodacaefaa.Shape
/- Units in memory: a row of cells, each unit three, with its group's row in another block. -/
namespace Go.Proofs.Ytdmliaodacaefaa.Shape
open Go.RowKit Go.Proofs.YtdmliaodacaefaaW.PrintWords Go.Proofs.Ytdmliaodacaefaa.Sep Go.Proofs.Ytdmliaodacaefaa.Bridge
set_option linter.unusedVariables false
set_option linter.unusedSimpArgs false
mutual
def UnitAt (w : World) (F : Blks) (b : Nat) : Nat → U → Prop
  | i, .mk c n g => w.cell? ⟨b, i * 3, none⟩ = some (.int .u8 (c.toNat : Int)) ∧ w.cell? ⟨b, i * 3 + 1, none⟩ = some (.int .i64 (n : Int)) ∧
      ∃ ga gc, w.cell? ⟨b, i * 3 + 2, none⟩ = some (.slice ga g.length gc) ∧ g.length ≤ gc ∧ (g = [] ∨ ∃ b', ga = some ⟨b', 0, none⟩ ∧ F b' ∧ RowAt w F b' 0 g)
def RowAt (w : World) (F : Blks) (b : Nat) : Nat → List U → Prop
  | _, [] => True
  | i, u :: l => UnitAt w F b i u ∧ RowAt w F b (i + 1) l
end
theorem cell_keep {w w' : World} {F : Blks} (hk : ∀ b, F b → b < w.heap.size → w'.heap[b]? = w.heap[b]?) {b o : Nat} {v : Value} (hF : F b) (h : w.cell? ⟨b, o, none⟩ = some v) : w'.cell? ⟨b, o, none⟩ = some v :=
  (World.cell?_of_block (w := w) (a := ⟨b, o, none⟩) (hk b hF (World.block_lt_of_cell? w _ h))).trans h
mutual
theorem UnitAt.keep {w w' : World} {F G : Blks} (hk : ∀ b, F b → b < w.heap.size → w'.heap[b]? = w.heap[b]?) (hu : ∀ b, F b → G b) : ∀ (u : U) (b i : Nat), F b → UnitAt w F b i u → UnitAt w' G b i u
  | .mk c n g, b, i, hF, h => by
    unfold UnitAt at h ⊢
    obtain ⟨h0, h1, ga, gc, h2, h3, h4⟩ := h
    refine ⟨cell_keep hk hF h0, cell_keep hk hF h1, ga, gc, cell_keep hk hF h2, h3, ?_⟩
    rcases h4 with h4 | ⟨b', e, hb', hr⟩
    · exact .inl h4
    · exact .inr ⟨b', e, hu b' hb', RowAt.keep hk hu g b' 0 hb' hr⟩
theorem RowAt.keep {w w' : World} {F G : Blks} (hk : ∀ b, F b → b < w.heap.size → w'.heap[b]? = w.heap[b]?) (hu : ∀ b, F b → G b) : ∀ (l : List U) (b i : Nat), F b → RowAt w F b i l → RowAt w' G b i l
  | [], b, i, hF, h => by unfold RowAt; trivial
  | u :: l, b, i, hF, h => by
    unfold RowAt at h ⊢
    exact ⟨UnitAt.keep hk hu u b i hF h.1, RowAt.keep hk hu l b (i + 1) hF h.2⟩
end
theorem RowAt.at_ {w : World} {F : Blks} {b : Nat} : ∀ (l : List U) (i j : Nat) (u : U), RowAt w F b i l → l[j]? = some u → UnitAt w F b (i + j) u
  | [], i, j, u, h, e => by simp at e
  | x :: l, i, 0, u, h, e => by
    unfold RowAt at h
    have e2 : x = u := by simpa using e
    subst e2
    exact h.1
  | x :: l, i, j + 1, u, h, e => by
    unfold RowAt at h
    have h2 := RowAt.at_ l (i + 1) j u h.2 (by simpa using e)
    rwa [show i + 1 + j = i + (j + 1) by omega] at h2
/-- a slice of units. -/
def Units (w : World) (F : Blks) (v : Value) (l : List U) : Prop := ∃ a c, v = .slice a l.length c ∧ l.length ≤ c ∧ (l = [] ∨ ∃ b, a = some ⟨b, 0, none⟩ ∧ F b ∧ RowAt w F b 0 l)
theorem Units.keep {w w' : World} {F G : Blks} {v : Value} {l : List U} (h : Units w F v l) (hk : ∀ b, F b → b < w.heap.size → w'.heap[b]? = w.heap[b]?) (hu : ∀ b, F b → G b) : Units w' G v l := by
  obtain ⟨a, c, e, hc, h⟩ := h
  refine ⟨a, c, e, hc, ?_⟩
  rcases h with h | ⟨b, e, hb, hr⟩
  · exact .inl h
  · exact .inr ⟨b, e, hu b hb, RowAt.keep hk hu l b 0 hb hr⟩
theorem Units.group {w : World} {F : Blks} {b i : Nat} {u : U} (h : UnitAt w F b i u) : ∃ v, w.cell? ⟨b, i * 3 + 2, none⟩ = some v ∧ Units w F v u.group := by
  cases u with
  | mk c n g =>
    unfold UnitAt at h
    obtain ⟨_, _, ga, gc, h2, h3, h4⟩ := h
    exact ⟨_, h2, ga, gc, rfl, h3, h4⟩
end Go.Proofs.Ytdmliaodacaefaa.Shape
/- A row of units that a call builds: its cells, and its groups' rows in other blocks. -/
namespace Go.Proofs.Ytdmliaodacaefaa.Shape
open Go.RowKit Go.Proofs.YtdmliaodacaefaaW.PrintWords Go.Proofs.Ytdmliaodacaefaa.Mem Go.Proofs.Ytdmliaodacaefaa.Sep Go.Proofs.Ytdmliaodacaefaa.Bridge Go.Proofs.Ytdmliaodacaefaa.Wr
set_option linter.unusedVariables false
set_option linter.unusedSimpArgs false
theorem info108 : (Try.prog.info? 108).map (fun i => (i.zero, i.size, i.bytes)) = some (some (.agg #[.int .u8 0, .int .i64 0, .slice none 0 0]), 3, 40) := by kernel_rfl
mutual
theorem UnitAt.bound {w : World} {F : Blks} : ∀ (u : U) (b i : Nat), UnitAt w F b i u → UnitAt w (fun b => F b ∧ b < w.heap.size) b i u
  | .mk c n g, b, i, h => by
    unfold UnitAt at h ⊢
    obtain ⟨h0, h1, ga, gc, h2, h3, h4⟩ := h
    refine ⟨h0, h1, ga, gc, h2, h3, ?_⟩
    by_cases hg : g = []
    · exact .inl hg
    · rcases h4 with h4 | ⟨b', e, hb', hr⟩
      · exact .inl h4
      · exact .inr ⟨b', e, ⟨hb', RowAt.lt g b' 0 hg hr⟩, RowAt.bound g b' 0 hr⟩
theorem RowAt.lt {w : World} {F : Blks} : ∀ (l : List U) (b i : Nat), ¬ l = [] → RowAt w F b i l → b < w.heap.size
  | [], b, i, hn, h => absurd rfl hn
  | .mk c n g :: l, b, i, hn, h => by
    unfold RowAt UnitAt at h
    exact World.block_lt_of_cell? w _ h.1.1
theorem RowAt.bound {w : World} {F : Blks} : ∀ (l : List U) (b i : Nat), RowAt w F b i l → RowAt w (fun b => F b ∧ b < w.heap.size) b i l
  | [], b, i, h => by unfold RowAt; trivial
  | u :: l, b, i, h => by
    unfold RowAt at h ⊢
    exact ⟨UnitAt.bound u b i h.1, RowAt.bound l b (i + 1) h.2⟩
end
theorem Units.bound {w : World} {F : Blks} {v : Value} {l : List U} (h : Units w F v l) : Units w (fun b => F b ∧ b < w.heap.size) v l := by
  obtain ⟨a, c, e, hc, h⟩ := h
  refine ⟨a, c, e, hc, ?_⟩
  by_cases hl : l = []
  · exact .inl hl
  · rcases h with h | ⟨b, e, hb, hr⟩
    · exact .inl h
    · exact .inr ⟨b, e, ⟨hb, RowAt.lt l b 0 hl hr⟩, RowAt.bound l b 0 hr⟩
theorem Units.up {w : World} {F G : Blks} {v : Value} {l : List U} (h : Units w F v l) (hu : ∀ b, F b → G b) : Units w G v l := h.keep (fun _ _ _ => rfl) hu
theorem Units.nil (w : World) (F : Blks) : Units w F (.slice none 0 0) [] := ⟨none, 0, rfl, Nat.le_refl _, .inl rfl⟩
/-- three cells a unit. -/
def CellsOf (w : World) (F : Blks) : List Value → List U → Prop
  | xs, [] => xs = []
  | xs, .mk c n g :: us => ∃ gv rest, xs = .int .u8 (c.toNat : Int) :: .int .i64 (n : Int) :: gv :: rest ∧ Units w F gv g ∧ CellsOf w F rest us
theorem CellsOf.keep {w w' : World} {F G : Blks} (hk : ∀ b, F b → b < w.heap.size → w'.heap[b]? = w.heap[b]?) (hu : ∀ b, F b → G b) : ∀ (us : List U) (xs : List Value), CellsOf w F xs us → CellsOf w' G xs us
  | [], xs, h => h
  | .mk c n g :: us, xs, h => by
    obtain ⟨gv, rest, e, h1, h2⟩ := h
    exact ⟨gv, rest, e, h1.keep hk hu, CellsOf.keep hk hu us rest h2⟩
theorem CellsOf.snoc {w : World} {F : Blks} {c : UInt8} {n : Nat} {g : List U} {gv : Value} (hg : Units w F gv g) : ∀ (us : List U) (xs : List Value), CellsOf w F xs us → CellsOf w F (xs ++ [.int .u8 (c.toNat : Int), .int .i64 (n : Int), gv]) (us ++ [.mk c n g])
  | [], xs, h => by
    have e : xs = [] := h
    subst e
    exact ⟨gv, [], rfl, hg, rfl⟩
  | .mk c1 n1 g1 :: us, xs, h => by
    obtain ⟨gv1, rest, e, h1, h2⟩ := h
    subst e
    exact ⟨gv1, _, rfl, h1, CellsOf.snoc hg us rest h2⟩
theorem CellsOf.len {w : World} {F : Blks} : ∀ (us : List U) (xs : List Value), CellsOf w F xs us → xs.length = us.length * 3
  | [], xs, h => by
    have e : xs = [] := h
    subst e; rfl
  | .mk c1 n1 g1 :: us, xs, h => by
    obtain ⟨gv1, rest, e, h1, h2⟩ := h
    subst e
    have := CellsOf.len us rest h2
    simp only [List.length_cons]; omega
theorem CellsOf.one {w : World} {F : Blks} : ∀ (us : List U) (xs : List Value), CellsOf w F xs us → ∀ u ∈ xs, u.oneCell' = true
  | [], xs, h => by
    have e : xs = [] := h
    subst e
    intro u hu
    cases hu
  | .mk c1 n1 g1 :: us, xs, h => by
    obtain ⟨gv1, rest, e, h1, h2⟩ := h
    subst e
    obtain ⟨a, c, e2, _⟩ := h1
    subst e2
    intro u hu
    simp only [List.mem_cons] at hu
    rcases hu with rfl | rfl | rfl | hu
    · rfl
    · rfl
    · rfl
    · exact CellsOf.one us rest h2 u hu
theorem CellsOf.row {w : World} {F G : Blks} (hu : ∀ b, F b → G b) {g : Nat} : ∀ (us : List U) (xs : List Value) (i : Nat), CellsOf w F xs us → (∀ j u, xs[j]? = some u → w.cell? ⟨g, i * 3 + j, none⟩ = some u) → RowAt w G g i us
  | [], xs, i, h, hc => by unfold RowAt; trivial
  | .mk c n gr :: us, xs, i, h, hc => by
    obtain ⟨gv, rest, e, h1, h2⟩ := h
    subst e
    unfold RowAt
    refine ⟨?_, CellsOf.row hu us rest (i + 1) h2 (fun j u hj => ?_)⟩
    · unfold UnitAt
      obtain ⟨a, cc, e2, h3, h4⟩ := h1
      subst e2
      refine ⟨hc 0 _ rfl, hc 1 _ rfl, a, cc, hc 2 _ rfl, h3, ?_⟩
      rcases h4 with h4 | ⟨b, e, hb, hr⟩
      · exact .inl h4
      · exact .inr ⟨b, e, hu b hb, RowAt.keep (fun _ _ _ => rfl) hu gr b 0 hb hr⟩
    · have := hc (j + 3) u (by simpa using hj)
      rwa [show i * 3 + (j + 3) = (i + 1) * 3 + j by omega] at this
/-- a row of units of the call's own, not yet full. -/
def Grow (w : World) (B : Nat) (v : Value) (us : List U) : Prop :=
  ∃ xs F, w.ownsRow B 108 3 v us.length xs ∧ CellsOf w F xs us ∧ ∀ b, F b → B ≤ b ∧ b < w.heap.size ∧ v.ownBlock ≠ some b
theorem Grow.nil (w : World) (B : Nat) : Grow w B (.slice none 0 0) [] := ⟨[], fun _ => False, World.ownsRow_nil _ _ _ _, rfl, fun _ h => h.elim⟩
theorem Grow.units {w : World} {B : Nat} {v : Value} {us : List U} (h : Grow w B v us) : Units w (fun b => B ≤ b) v us := by
  obtain ⟨xs, F, ho, hc, hF⟩ := h
  have hcells := fun g hg => World.ownsRow.cells ho (g := g) hg
  rcases ho.2 with ⟨rfl, h0⟩ | ⟨g, cap, cur, rfl, hB, hg, hle, hcap, hsz, htk⟩
  · have e : us = [] := List.length_eq_zero_iff.1 h0
    subst e
    exact Units.nil _ _
  · refine ⟨_, cap, rfl, hle, .inr ⟨g, rfl, hB, CellsOf.row (fun b hb => (hF b hb).1) us xs 0 hc (fun j u hj => ?_)⟩⟩
    have := hcells g rfl j u hj
    rwa [show (⟨g, 0, none⟩ : Addr).add j = ⟨g, 0 * 3 + j, none⟩ by unfold Addr.add; split <;> simp_all] at this
theorem Grow.slice {w : World} {B : Nat} {v : Value} {us : List U} (h : Grow w B v us) : ∃ a c, v = .slice a us.length c ∧ us.length ≤ c := by
  obtain ⟨a, c, e, hc, _⟩ := h.units
  exact ⟨a, c, e, hc⟩
/-- blocks that are new since stay as they are. -/
theorem Grow.keep {w w' : World} {B : Nat} {v : Value} {us : List U} (h : Grow w B v us) (hk : ∀ b, B ≤ b → b < w.heap.size → w'.heap[b]? = w.heap[b]?) (hs : w.heap.size ≤ w'.heap.size) : Grow w' B v us := by
  obtain ⟨xs, F, ho, hc, hF⟩ := h
  refine ⟨xs, F, ?_, CellsOf.keep (fun b hb hl => hk b (hF b hb).1 hl) (fun _ h => h) us xs hc, fun b hb => ⟨(hF b hb).1, Nat.lt_of_lt_of_le (hF b hb).2.1 hs, (hF b hb).2.2⟩⟩
  have hlt := World.ownsRow.lt ho
  exact own_move ho (fun k hk2 => hk k (hlt k hk2).1 (hlt k hk2).2)
theorem Grow.below {w w' : World} {B : Nat} {v : Value} {us : List U} (h : Grow w B v us) (hb : Below w.heap.size w w') : Grow w' B v us := h.keep (fun b _ hl => hb.block b hl) hb.size
/-- one unit more. -/
theorem Grow.snoc {w w1 : World} {B : Nat} {v v1 : Value} {us : List U} {c : UInt8} {n : Nat} {g : List U} {gv : Value} {xs : List Value} {F : Blks}
    (hc : CellsOf w F xs us) (hF : ∀ b, F b → B ≤ b ∧ b < w.heap.size ∧ v.ownBlock ≠ some b)
    (ho : w1.ownsRow B 108 3 v1 (us.length + 1) (xs ++ [.int .u8 (c.toNat : Int), .int .i64 (n : Int), gv])) (hg : w.grownBy w1 v.ownBlock)
    (hat : v1.ownBlock = v.ownBlock ∨ ∃ b, v1.ownBlock = some b ∧ w.heap.size ≤ b) (hu : Units w (fun b => B ≤ b ∧ v.ownBlock ≠ some b) gv g) : Grow w1 B v1 (us ++ [.mk c n g]) := by
  have hk : ∀ b, b < w.heap.size → v.ownBlock ≠ some b → w1.heap[b]? = w.heap[b]? := fun b hl hne => hg.block b hl (fun e => hne e.symm)
  have hne : ∀ b, b < w.heap.size → v.ownBlock ≠ some b → v1.ownBlock ≠ some b := by
    intro b hl hn e
    rcases hat with h | ⟨b', h, hle⟩
    · exact hn (h.symm.trans e)
    · rw [e] at h
      injection h with h
      omega
  refine ⟨_, fun b => B ≤ b ∧ b < w.heap.size ∧ v.ownBlock ≠ some b, by rw [List.length_append]; exact ho, CellsOf.snoc ?_ us xs ?_, fun b hb => ⟨hb.1, Nat.lt_of_lt_of_le hb.2.1 hg.size, hne b hb.2.1 hb.2.2⟩⟩
  · exact (hu.bound).keep (fun b hb hl => hk b hl hb.1.2) (fun b hb => ⟨hb.1.1, hb.2, hb.1.2⟩)
  · exact CellsOf.keep (fun b hb hl => hk b hl (hF b hb).2.2) hF us xs hc
theorem alloc_size (w : World) (o : Obj) : (w.alloc o).heap.size = w.heap.size + 1 := by simp
theorem Grow.lt {w : World} {B : Nat} {v : Value} {us : List U} (h : Grow w B v us) : ∀ b, v.ownBlock = some b → b < w.heap.size := by
  obtain ⟨xs, F, ho, _⟩ := h
  exact fun b hb => (World.ownsRow.lt ho b hb).2
theorem setCell_size (w : World) (p : Addr) (u : Value) : (w.setCell p u).heap.size = w.heap.size := by simp [World.setCell]
/-- behind a group that was parsed, and laid into its unit. -/
theorem group_world {w wr w2 : World} {B : Nat} {v gv : Value} {us g : List U} {o : Obj} (hB : B ≤ wr.heap.size) (hb : Below B w wr) (hb2 : Below (wr.alloc o).heap.size (wr.alloc o) w2) (hg : Grow wr B v us)
    (hu : Units w2 (fun b => (wr.alloc o).heap.size ≤ b) gv g) : Grow (w2.setCell ⟨wr.heap.size, 2, none⟩ gv) B v us ∧ Units (w2.setCell ⟨wr.heap.size, 2, none⟩ gv) (fun b => B ≤ b ∧ v.ownBlock ≠ some b) gv g ∧ Below B w (w2.setCell ⟨wr.heap.size, 2, none⟩ gv) ∧ B ≤ (w2.setCell ⟨wr.heap.size, 2, none⟩ gv).heap.size := by
  have hz := alloc_size wr o
  have hs := hb2.size
  have hst : ∀ b, b ≠ wr.heap.size → (w2.setCell ⟨wr.heap.size, 2, none⟩ gv).heap[b]? = w2.heap[b]? := fun b hne => Below.heap_setCell w2 _ gv b hne
  refine ⟨?_, ?_, ?_, ?_⟩
  · refine hg.keep (fun b hBb hl => ?_) (by rw [setCell_size]; omega)
    rw [hst b (by omega), hb2.block b (by omega)]
    exact heap_alloc_old wr o hl
  · have hlt := hg.lt
    refine hu.keep (fun b hb _ => hst b (by omega)) (fun b hb => ⟨by omega, fun e => ?_⟩)
    have := hlt b e
    omega
  · exact (hb.trans ((below_alloc (Below.refl _ _) o).mono hB |>.trans (hb2.mono (by omega)))).setCell (by simpa using hB) gv
  · rw [setCell_size]; omega
section
variable {ops : Array Oper} {o : Oper} {a : Act} {Q : Exit → Act → World → Prop} {w W : World} {rest : List Oper} {B : Nat}
/-- a unit appended. -/
theorem append_unit (hgd : o.guard = none) (s x : Operand) (ho : o.op = .call { callee := .builtin .append, args := #[s, x], argTypes := #[84, 84] })
    (v : Value) (us : List U) (c : UInt8) (n : Nat) (g : List U) (gv : Value) (z1 z2 : Int) (h1 : (c.toNat : Int) = z1) (h2 : (n : Int) = z2) (z : Nat) (hz : W.heap.size = z) (hs : a.eval s = v) (hx : a.eval x = .slice (some ⟨z, 0, none⟩) 1 1)
    (HG : Grow W B v us) (hu : Units W (fun b => B ≤ b ∧ v.ownBlock ≠ some b) gv g) (HB : Below B w W) (hB : B ≤ W.heap.size) (hl : us.length ≤ 1000)
    (h : ∀ a1 c1 w1, Grow w1 B (.slice a1 (us.length + 1) c1) (us ++ [.mk c n g]) → Below B w w1 → wpList Try.prog ops Q rest (a.put o.dst (.slice a1 (us.length + 1) c1)) w1) :
    wpList Try.prog ops Q (o :: rest) a (W.alloc (.cells #[.int .u8 z1, .int .i64 z2, gv] 108)) := by
  subst hz h1 h2
  obtain ⟨xs, F, hown, hc, hF⟩ := HG
  refine print_append_cells (w0 := w) B hgd s x 84 108 (.agg #[.int .u8 0, .int .i64 0, .slice none 0 0]) 3 40 ho Try.underlying84 info108 rfl (by decide) (by decide) v us.length xs [.int .u8 (c.toNat : Int), .int .i64 (n : Int), gv] hs hx rfl ?_ hown HB hB (by omega) ?_
  · intro u hm
    obtain ⟨a1, c1, e1, _⟩ := hu
    subst e1
    simp only [List.mem_cons, List.not_mem_nil, or_false] at hm
    rcases hm with rfl | rfl | rfl <;> rfl
  · intro v1 w1 ho1 hb1 hg1 hat1
    have hG := Grow.snoc hc hF ho1 hg1 hat1 hu
    obtain ⟨a1, c1, e1, _⟩ := hG.slice
    rw [List.length_append] at e1
    subst e1
    exact h a1 c1 w1 hG hb1
end
end Go.Proofs.Ytdmliaodacaefaa.Shape
/- Function count: units and letters of a shape. By a walk, by induction on the depth. -/
namespace Go.Proofs.Ytdmliaodacaefaa.Shape
open Go.RowKit Go.Proofs.YtdmliaodacaefaaW.PrintWords Go.Proofs.YtdmliaodacaefaaW.PrintLast Go.Proofs.YtdmliaodacaefaaW.PrintMore Go.Proofs.Ytdmliaodacaefaa.Mem Go.Proofs.Ytdmliaodacaefaa.Sep Go.Proofs.Ytdmliaodacaefaa.Bridge Go.Proofs.Ytdmliaodacaefaa.Wr
set_option linter.unusedVariables false
set_option linter.unusedSimpArgs false
mutual
def deep1 : U → Nat
  | .mk c n g => deepL g + 1
def deepL : List U → Nat
  | [] => 0
  | u :: l => max (deep1 u) (deepL l)
end
mutual
/-- every unit at least once. -/
def good1 : U → Prop
  | .mk c n g => 1 ≤ n ∧ n ≤ 9 ∧ goodL g
def goodL : List U → Prop
  | [] => True
  | u :: l => good1 u ∧ goodL l
end
theorem good_at : ∀ (l : List U) (i : Nat) (u : U), goodL l → l[i]? = some u → good1 u
  | [], i, u, _, e => by simp at e
  | x :: l, 0, u, h, e => by
    have e2 : x = u := by simpa using e
    subst e2
    unfold goodL at h
    exact h.1
  | x :: l, i + 1, u, h, e => by
    unfold goodL at h
    exact good_at l i u h.2 (by simpa using e)
theorem deep_at : ∀ (l : List U) (i : Nat) (u : U), l[i]? = some u → deepL u.group + 1 ≤ deepL l
  | [], i, u, e => by simp at e
  | x :: l, 0, u, e => by
    have e2 : x = u := by simpa using e
    subst e2
    cases x with
    | mk c n g => show deepL g + 1 ≤ max (deepL g + 1) (deepL l); omega
  | x :: l, i + 1, u, e => by
    have h := deep_at l i u (by simpa using e)
    show _ ≤ max (deep1 x) (deepL l); omega
theorem count_at (l : List U) (i : Nat) (u : U) (e : l[i]? = some u) : countL (l.take (i + 1)) = ((countL (l.take i)).1 + (count1 u).1, (countL (l.take i)).2 + (count1 u).2) := by
  rw [List.take_add_one, e]
  show countL (l.take i ++ [u]) = _
  rw [countL_append]
  show ((countL (l.take i)).1 + ((count1 u).1 + 0), (countL (l.take i)).2 + ((count1 u).2 + 0)) = _
  rw [Nat.add_zero, Nat.add_zero]
theorem count_take (l : List U) (i : Nat) : (countL (l.take i)).1 ≤ (countL l).1 ∧ (countL (l.take i)).2 ≤ (countL l).2 := by
  have h := countL_append (l.take i) (l.drop i)
  rw [List.take_append_drop] at h
  rw [h]
  exact ⟨Nat.le_add_right _ _, Nat.le_add_right _ _⟩
/-- units are read in any later world. -/
theorem Units.below {w w' : World} {F : Blks} {v : Value} {l : List U} (h : Units w F v l) (hb : Below w.heap.size w w') : Units w' F v l := h.keep (fun b _ hl => hb.block b hl) (fun b hb => hb)
theorem len_count : ∀ (l : List U), goodL l → l.length ≤ (countL l).1
  | [], _ => Nat.le_refl _
  | .mk c n g :: l, h => by
    unfold goodL good1 at h
    have h1 := len_count l h.2
    show l.length + 1 ≤ (count1 (.mk c n g)).1 + (countL l).1
    have h2 : 1 ≤ (count1 (.mk c n g)).1 := by
      show 1 ≤ (if c = 40 then (((countL g).1 + 1) * n, (countL g).2 * n) else (n, n)).1
      split
      · exact Nat.mul_pos (by omega) (by omega)
      · exact h.1.1
    omega
theorem wrap_two (a b : Nat) (h : a + b ≤ 1099511627776) : wrap64 ((a : Int) + wrap64 (b : Int)) = ((a + b : Nat) : Int) := by unfold wrap64; omega
theorem wrap_mul (a b n : Nat) (h : a + b * n ≤ 1099511627776) : wrap64 ((a : Int) + wrap64 ((b : Int) * (n : Int))) = ((a + b * n : Nat) : Int) := by
  rw [← Int.natCast_mul]
  obtain ⟨p, hp⟩ : ∃ p, p = b * n := ⟨_, rfl⟩
  rw [← hp] at h ⊢
  unfold wrap64; omega
theorem wrap_three (a b n : Nat) (h0 : b + 1 ≤ (b + 1) * n) (h : a + (b + 1) * n ≤ 1099511627776) : wrap64 ((a : Int) + wrap64 (wrap64 ((b : Int) + 1) * (n : Int))) = ((a + (b + 1) * n : Nat) : Int) := by
  have e : wrap64 ((b : Int) + 1) = ((b + 1 : Nat) : Int) := by unfold wrap64; omega
  rw [e]
  exact wrap_mul a (b + 1) n h
set_option maxHeartbeats 2000000 in
theorem count_calls (d : Nat) : ∀ (us : List U) (v : Value) (F : Blks) (w : World), deepL us < d → goodL us → Units w F v us → us.length ≤ 140737488351232 → (countL us).1 ≤ 1099511627776 → (countL us).2 ≤ 1099511627776 →
    Calls Try.prog 104 #[v] w fun e w' => e = .returned (.tuple #[.int .i64 ((countL us).1 : Nat), .int .i64 ((countL us).2 : Nat)]) ∧ Below w.heap.size w w' := by
  induction d with
  | zero => intro us v F w hd; omega
  | succ d ih =>
    intro us v F w hd hg hU hl h1 h2
    have HG := Lib.hid hg
    clear hg
    obtain ⟨a, c, rfl, hc, hrow⟩ := hU
    have HROW := Lib.hid hrow
    have HD := Lib.hid hd
    have HL := Lib.hid hl
    have HB1 := Lib.hid h1
    have HB2 := Lib.hid h2
    clear hrow hd hl h1 h2
    go_enter Try.func104, Try.ntmps104
    go_wp2_with fail
    go_loopw [2, 3, 10] (fun v2 v3 v10 wr => ∃ i : Nat, v10 = .int .i64 i ∧ v2 = .int .i64 ((countL (us.take i)).1 : Nat) ∧ v3 = .int .i64 ((countL (us.take i)).2 : Nat) ∧ i ≤ us.length ∧ Below w.heap.size w wr) (fun _ _ v _ => us.length - (intOf v).toNat)
    case atStart => exact ⟨0, rfl, rfl, rfl, Nat.zero_le _, Below.refl _ _⟩
    case round =>
      obtain ⟨i, rfl, rfl, rfl, hi, hb⟩ := hrel
      have HB := Lib.hid hb
      clear hb
      have him : i ≤ 140737488351232 := Nat.le_trans hi HL.out
      by_cases hlt : i < us.length
      · have hne : ¬ us = [] := by intro e; rw [e] at hlt; exact Nat.not_lt_zero _ hlt
        obtain ⟨b, rfl, hF, hr⟩ := HROW.out.resolve_left hne
        obtain ⟨u, hu⟩ : ∃ u, us[i]? = some u := ⟨us[i], List.getElem?_eq_getElem hlt⟩
        have hat := UnitAt.keep (w' := wr) (G := F) (fun b _ hl => HB.out.block b hl) (fun b hb => hb) u b (0 + i) hF (RowAt.at_ us 0 i u hr hu)
        rw [Nat.zero_add] at hat
        have HCA := Lib.hid (count_at us i u hu)
        have HCT := Lib.hid (count_take us (i + 1))
        have HDE := Lib.hid (deep_at us i u hu)
        have HGA := Lib.hid (good_at us i u HG.out hu)
        obtain ⟨uc, un, ug⟩ := u
        unfold UnitAt at hat
        obtain ⟨c0, c1, ga, gc, c2, hgc, hgr⟩ := hat
        have HLT := Lib.hid hlt
        have HGR := Lib.hid hgr
        have HGC := Lib.hid hgc
        clear hr hu hgr hgc hne hF
        by_cases h40 : (uc.toNat : Int) = 40
        · have hc40 : uc = 40 := UInt8.toNat_inj.1 (by show uc.toNat = 40; omega)
          subst hc40
          have hca := HCA.out
          have e1 : count1 (.mk 40 un ug) = (((countL ug).1 + 1) * un, (countL ug).2 * un) := rfl
          rw [e1] at hca
          have hct := HCT.out
          rw [hca] at hct
          have HCA2 := Lib.hid hca
          have HCT2 := Lib.hid hct
          have hga := HGA.out
          unfold good1 at hga
          have HGG := Lib.hid hga.2.2
          have m1 : (countL ug).1 + 1 ≤ ((countL ug).1 + 1) * un := Nat.le_mul_of_pos_right _ (by omega)
          have m2 : (countL ug).2 ≤ (countL ug).2 * un := Nat.le_mul_of_pos_right _ (by omega)
          have M1 := Lib.hid m1
          have M2 := Lib.hid m2
          clear hca hct e1 hga m1 m2
          go_wp2_with fail
          refine (ih ug _ F _ ?_ HGG.out ?_ ?_ ?_ ?_).mono ?_
          · have h1 := HD.out; have h2 := HDE.out; simp only [U.group] at h2; omega
          · exact Units.below (w := wr) ⟨ga, gc, rfl, HGC.out, HGR.out⟩ (below_alloc (Below.refl _ _) _)
          · have h1 := HCT2.out; have h2 := HB1.out; have h3 := M1.out; have h4 := len_count ug HGG.out; omega
          · have h1 := HCT2.out; have h2 := HB1.out; have h3 := M1.out; omega
          · have h1 := HCT2.out; have h2 := HB2.out; have h3 := M2.out; omega
          rintro e w2 ⟨rfl, hb2⟩
          have x1 : w2.cell? ⟨wr.heap.size, 1, none⟩ = some (.int .i64 (un : Int)) := pw_cell_below hb2 (cell_of (heap_alloc_new wr _) rfl)
          have HB3 := Lib.hid (Below.trans (HB.out.alloc HB.out.size _) (hb2.mono (HB.out.alloc HB.out.size _).size))
          clear hb2
          go_wp2_with fail
          have hct := HCT2.out
          have hb1 := HB1.out
          have hb2 := HB2.out
          have hlt := HLT.out
          have hm1 := M1.out
          refine ⟨⟨i + 1, by simp, ?_, ?_, by omega, HB3.out⟩, by simp [intOf]; omega⟩
          · rw [HCA2.out, wrap_three _ _ _ hm1 (by omega)]
          · rw [HCA2.out, wrap_mul _ _ _ (by omega)]
        · have hn40 : ¬ uc = 40 := by intro e; subst e; exact h40 rfl
          have e1 : count1 (.mk uc un ug) = (un, un) := by show (if uc = 40 then _ else _) = _; rw [if_neg hn40]
          have hca := HCA.out
          rw [e1] at hca
          have hct := HCT.out
          rw [hca] at hct
          have HCA2 := Lib.hid hca
          have HCT2 := Lib.hid hct
          clear hca hct e1
          go_wp2_with fail
          have hct := HCT2.out
          have hb1 := HB1.out
          have hb2 := HB2.out
          have hlt := HLT.out
          refine ⟨⟨i + 1, by simp, ?_, ?_, by omega, HB.out.alloc HB.out.size _⟩, by simp [intOf]; omega⟩
          · rw [HCA2.out, wrap_two _ _ (by simp only at hct; omega)]
          · rw [HCA2.out, wrap_two _ _ (by simp only at hct; omega)]
      · go_wp2_with fail
        go_ret2
        have e : us.take i = us := List.take_of_length_le (by omega)
        rw [e]
        exact ⟨rfl, HB.out⟩
end Go.Proofs.Ytdmliaodacaefaa.Shape
/- Shapes, plain: what is parsed is good: times from 1 to 9, four deep, few units; letters are letters. -/
namespace Go.Proofs.Ytdmliaodacaefaa.Shape
open Go.RowKit Go.Proofs.Ytdmliaodacaefaa.Bridge
set_option linter.unusedVariables false
set_option linter.unusedSimpArgs false
mutual
/-- a letter, or a group. -/
def fine1 : U → Prop
  | .mk c n g => (c = 40 ∨ isLetter c = true) ∧ fineL g
def fineL : List U → Prop
  | [] => True
  | u :: l => fine1 u ∧ fineL l
end
theorem fine_at : ∀ (l : List U) (i : Nat) (u : U), fineL l → l[i]? = some u → fine1 u
  | [], i, u, _, e => by simp at e
  | x :: l, 0, u, h, e => by
    have e2 : x = u := by simpa using e
    subst e2
    unfold fineL at h
    exact h.1
  | x :: l, i + 1, u, h, e => by
    unfold fineL at h
    exact fine_at l i u h.2 (by simpa using e)
mutual
theorem letters_le1 : ∀ (u : U), (count1 u).2 ≤ (count1 u).1
  | .mk c n g => by
    have h := letters_leL g
    show (if c = 40 then (((countL g).1 + 1) * n, (countL g).2 * n) else (n, n)).2 ≤ (if c = 40 then (((countL g).1 + 1) * n, (countL g).2 * n) else (n, n)).1
    split
    · exact Nat.mul_le_mul_right n (by omega)
    · exact Nat.le_refl _
theorem letters_leL : ∀ (l : List U), (countL l).2 ≤ (countL l).1
  | [] => Nat.le_refl _
  | u :: l => by
    have h1 := letters_le1 u
    have h2 := letters_leL l
    show (count1 u).2 + (countL l).2 ≤ (count1 u).1 + (countL l).1
    omega
end
theorem tim_bd (c : UInt8) : 1 ≤ tim c ∧ tim c ≤ 9 := by
  unfold tim isDigit
  split
  · rename_i h; simp at h; omega
  · omega
structure Good (us : List U) (i j d : Nat) : Prop where
  good : goodL us
  fine : fineL us
  deep : deepL us + d ≤ 5
  units : (countL us).1 ≤ 9 ^ (5 - d) * (j - i)
  len : us.length ≤ j - i
theorem Good.nil (i d : Nat) (hd : d ≤ 4) : Good [] i i d := ⟨by unfold goodL; trivial, by unfold fineL; trivial, by show 0 + d ≤ 5; omega, Nat.zero_le _, Nat.zero_le _⟩
theorem Good.cons {us : List U} {u : U} {i k j d : Nat} (h : Good us k j d) (h1 : good1 u) (h2 : fine1 u) (h3 : deep1 u + d ≤ 5) (h4 : (count1 u).1 ≤ 9 ^ (5 - d) * (k - i)) (hik : i < k) (hkj : k ≤ j) : Good (u :: us) i j d := by
  refine ⟨by unfold goodL; exact ⟨h1, h.good⟩, by unfold fineL; exact ⟨h2, h.fine⟩, ?_, ?_, ?_⟩
  · have := h.deep
    show max (deep1 u) (deepL us) + d ≤ 5
    omega
  · show (count1 u).1 + (countL us).1 ≤ _
    have := h.units
    have e : 9 ^ (5 - d) * (j - i) = 9 ^ (5 - d) * (k - i) + 9 ^ (5 - d) * (j - k) := by rw [← Nat.mul_add]; congr 1; omega
    omega
  · have := h.len
    show us.length + 1 ≤ _
    omega
theorem par_good {t : List UInt8} : ∀ (n i d : Nat) (us : List U) (j : Nat), t.length - i < n → i ≤ t.length → d ≤ 4 → par t i d = some (us, j) → Good us i j d
  | 0, i, d, us, j, hn, hi, hd, h => by omega
  | n + 1, i, d, us, j, hn, hi, hd, h => by
    by_cases hlt : i < t.length
    · by_cases h41 : t[i] = 41
      · rw [par_close hlt h41] at h
        simp only [Option.some.injEq, Prod.mk.injEq] at h
        obtain ⟨rfl, rfl⟩ := h
        exact Good.nil i d hd
      · by_cases hk : let_ t[i] i < t.length
        · have hle : i ≤ let_ t[i] i := by unfold let_; split <;> omega
          have ht := tim_bd t[i]
          have hpw : 9 ≤ 9 ^ (5 - d) := Nat.le_trans (by decide) (Nat.pow_le_pow_right (by decide) (show 1 ≤ 5 - d by omega))
          by_cases hl : isLetter t[let_ t[i] i] = true
          · rw [par_letter hlt h41 hk hl] at h
            cases hp : par t (let_ t[i] i + 1) d with
            | none => rw [hp] at h; simp [behind] at h
            | some r =>
              rw [hp] at h
              simp only [behind, Option.map_some, Option.some.injEq, Prod.mk.injEq] at h
              obtain ⟨e1, e2⟩ := h
              subst e1 e2
              have hle2 := par_le hp (by omega)
              have hg := par_good n _ d r.1 r.2 (by omega) (by omega) hd hp
              have hc40 : ¬ t[let_ t[i] i] = 40 := by intro e; rw [e] at hl; revert hl; decide
              refine hg.cons (u := .mk _ _ []) ?_ ?_ ?_ ?_ (by omega) hle2.1
              · unfold good1; exact ⟨ht.1, ht.2, by unfold goodL; trivial⟩
              · unfold fine1; exact ⟨.inr hl, by unfold fineL; trivial⟩
              · show 0 + 1 + d ≤ 5; omega
              · show (if t[let_ t[i] i] = 40 then _ else (tim t[i], tim t[i])).1 ≤ _
                rw [if_neg hc40]
                exact Nat.le_trans (Nat.le_trans ht.2 hpw) (Nat.le_mul_of_pos_right _ (by omega))
          · by_cases h40 : t[let_ t[i] i] = 40
            · by_cases hd4 : d = 4
              · rw [par_deep hlt h41 hk h40 hd4] at h; cases h
              · rw [par_open hlt h41 hk h40 hd4] at h
                cases hp1 : par t (let_ t[i] i + 1) (d + 1) with
                | none => rw [hp1] at h; cases h
                | some r1 =>
                  obtain ⟨g, j1⟩ := r1
                  rw [hp1] at h
                  simp only at h
                  have hle1 := par_le hp1 (by omega)
                  by_cases hj1 : j1 < t.length
                  · rw [if_pos hj1] at h
                    cases hp : par t (j1 + 1) d with
                    | none => rw [hp] at h; simp [behind] at h
                    | some r =>
                      rw [hp] at h
                      simp only [behind, Option.map_some, Option.some.injEq, Prod.mk.injEq] at h
                      obtain ⟨e1, e2⟩ := h
                      subst e1 e2
                      have hle2 := par_le hp (by omega)
                      have hg := par_good n _ d r.1 r.2 (by omega) (by omega) hd hp
                      have hg1 := par_good n _ (d + 1) g j1 (by omega) (by omega) (by omega) hp1
                      refine hg.cons (u := .mk _ _ g) ?_ ?_ ?_ ?_ (by omega) hle2.1
                      · unfold good1; exact ⟨ht.1, ht.2, hg1.good⟩
                      · unfold fine1; exact ⟨.inl rfl, hg1.fine⟩
                      · have := hg1.deep
                        show deepL g + 1 + d ≤ 5; omega
                      · show ((countL g).1 + 1) * tim t[i] ≤ _
                        have h1 := hg1.units
                        have e : 9 ^ (5 - d) = 9 * 9 ^ (5 - (d + 1)) := by rw [show 5 - d = (5 - (d + 1)) + 1 by omega, Nat.pow_succ, Nat.mul_comm]
                        have h2 : ((countL g).1 + 1) * tim t[i] ≤ ((countL g).1 + 1) * 9 := Nat.mul_le_mul_left _ ht.2
                        have hq : 1 ≤ 9 ^ (5 - (d + 1)) := Nat.one_le_pow _ _ (by decide)
                        have h3 : 9 ^ (5 - (d + 1)) * (j1 - (let_ t[i] i + 1)) + 1 ≤ 9 ^ (5 - (d + 1)) * (j1 + 1 - i) := by
                          have : 9 ^ (5 - (d + 1)) * (j1 - (let_ t[i] i + 1)) + 9 ^ (5 - (d + 1)) * 1 ≤ 9 ^ (5 - (d + 1)) * (j1 + 1 - i) := by
                            rw [← Nat.mul_add]
                            exact Nat.mul_le_mul_left _ (by omega)
                          omega
                        rw [e, Nat.mul_assoc]
                        omega
                  · rw [if_neg hj1] at h; cases h
            · rw [par_bad hlt h41 hk (by simpa using hl) h40] at h; cases h
        · rw [par_cut hlt h41 hk] at h; cases h
    · rw [par_end hlt] at h
      simp only [Option.some.injEq, Prod.mk.injEq] at h
      obtain ⟨rfl, rfl⟩ := h
      exact Good.nil i d hd
end Go.Proofs.Ytdmliaodacaefaa.Shape
/- A shape written out, step by step: what is left of it, group by group. No program in sight. -/
namespace Go.Proofs.Ytdmliaodacaefaa.Shape
open Go.RowKit Go.Proofs.Ytdmliaodacaefaa.Bridge
set_option linter.unusedVariables false
set_option linter.unusedSimpArgs false
set_option linter.unusedSectionVars false
section
variable {σ : Type} (step : UInt8 → σ → Except Int σ)
/-- step by step, up to the first error. -/
def run : List UInt8 → σ → Except Int σ
  | [], x => .ok x
  | c :: l, x => match step c x with
    | .error e => .error e
    | .ok y => run l y
theorem run_append (a b : List UInt8) (x : σ) : run step (a ++ b) x = match run step a x with | .error e => .error e | .ok y => run step b y := by
  induction a generalizing x with
  | nil => rfl
  | cons c l ih =>
    simp only [List.cons_append, run]
    cases step c x with
    | error e => rfl
    | ok y => exact ih y
theorem run_cons_ok {c : UInt8} {l : List UInt8} {x y : σ} (h : step c x = .ok y) : run step (c :: l) x = run step l y := by
  simp only [run, h]
theorem run_cons_error {c : UInt8} {l : List UInt8} {x : σ} {e : Int} (h : step c x = .error e) : run step (c :: l) x = .error e := by
  simp only [run, h]
theorem run_append_ok {a b : List UInt8} {x y : σ} (h : run step a x = .ok y) : run step (a ++ b) x = run step b y := by rw [run_append, h]
theorem run_append_error {a b : List UInt8} {x : σ} {e : Int} (h : run step a x = .error e) : run step (a ++ b) x = .error e := by rw [run_append, h]
end
/-- a unit once. -/
def once (c : UInt8) (g : List U) : List UInt8 := if c = 40 then 40 :: (flatL g ++ [41]) else [c]
/-- so many times. -/
def many (n : Nat) (c : UInt8) (g : List U) : List UInt8 := (List.replicate n (once c g)).flatten
theorem flat1_many (c : UInt8) (n : Nat) (g : List U) : flat1 (.mk c n g) = many n c g := rfl
theorem many_zero (c : UInt8) (g : List U) : many 0 c g = [] := rfl
theorem many_succ (n : Nat) (c : UInt8) (g : List U) : many (n + 1) c g = once c g ++ many n c g := by
  unfold many; rw [List.replicate_succ, List.flatten_cons]
theorem once_group (g : List U) : once 40 g = 40 :: (flatL g ++ [41]) := rfl
theorem once_letter {c : UInt8} (h : ¬ c = 40) (g : List U) : once c g = [c] := by unfold once; rw [if_neg h]
theorem drop_at {l : List U} {i : Nat} {u : U} (h : l[i]? = some u) : l.drop i = u :: l.drop (i + 1) := by
  obtain ⟨hi, e⟩ := List.getElem?_eq_some_iff.1 h
  rw [List.drop_eq_getElem_cons hi, e]
theorem flat_drop {l : List U} {i : Nat} {c : UInt8} {n : Nat} {g : List U} (h : l[i]? = some (.mk c n g)) : flatL (l.drop i) = many n c g ++ flatL (l.drop (i + 1)) := by
  rw [drop_at h]; rfl
theorem flat_end {l : List U} {i : Nat} (h : ¬ i < l.length) : flatL (l.drop i) = [] := by
  rw [List.drop_of_length_le (by omega)]; rfl
/-- an end that hangs on no stack: an error, or what is behind. -/
def Level {ρ τ : Type} (step : UInt8 → ρ × List τ → Except Int (ρ × List τ)) (l : List UInt8) (x : ρ) : Prop :=
  (∃ e, ∀ st, run step l (x, st) = .error e) ∨ ∃ y, ∀ st, run step l (x, st) = .ok (y, st)
section
variable {ρ τ : Type} {step : UInt8 → ρ × List τ → Except Int (ρ × List τ)} {mark : ρ → τ} {shut : ρ → τ → Except Int ρ} {lt : UInt8 → ρ → Except Int ρ}
theorem level_nil (x : ρ) : Level step [] x := .inr ⟨x, fun _ => rfl⟩
theorem level_append {a b : List UInt8} {x : ρ} (ha : Level step a x) (hb : ∀ y, Level step b y) : Level step (a ++ b) x := by
  rcases ha with ⟨e, h⟩ | ⟨y, h⟩
  · exact .inl ⟨e, fun st => run_append_error step (h st)⟩
  · rcases hb y with ⟨e, h2⟩ | ⟨z, h2⟩
    · exact .inl ⟨e, fun st => by rw [run_append_ok step (h st), h2 st]⟩
    · exact .inr ⟨z, fun st => by rw [run_append_ok step (h st), h2 st]⟩
variable (h40 : ∀ x st, step 40 (x, st) = .ok (x, mark x :: st))
  (h41 : ∀ x t st, step 41 (x, t :: st) = (shut x t).map fun y => (y, st))
  (hl : ∀ c x st, ¬ c = 40 → ¬ c = 41 → step c (x, st) = (lt c x).map fun y => (y, st))
include h40 h41 hl
theorem level_letter {c : UInt8} (hc : ¬ c = 40) (hc1 : ¬ c = 41) (x : ρ) : Level step [c] x := by
  cases he : lt c x with
  | error e => exact .inl ⟨e, fun st => run_cons_error step (by rw [hl c x st hc hc1, he]; rfl)⟩
  | ok y => exact .inr ⟨y, fun st => (run_cons_ok step (by rw [hl c x st hc hc1, he]; rfl)).trans rfl⟩
theorem level_group {l : List UInt8} (hg : ∀ y, Level step l y) (x : ρ) : Level step (40 :: (l ++ [41])) x := by
  rcases hg x with ⟨e, h⟩ | ⟨y, h⟩
  · exact .inl ⟨e, fun st => by rw [run_cons_ok step (h40 x st), run_append_error step (h _)]⟩
  · cases he : shut y (mark x) with
    | error e => exact .inl ⟨e, fun st => by rw [run_cons_ok step (h40 x st), run_append_ok step (h _)]; exact run_cons_error step (by rw [h41, he]; rfl)⟩
    | ok z => exact .inr ⟨z, fun st => by rw [run_cons_ok step (h40 x st), run_append_ok step (h _)]; exact (run_cons_ok step (by rw [h41, he]; rfl)).trans rfl⟩
theorem level_many {c : UInt8} {g : List U} (h : ∀ y, Level step (once c g) y) : ∀ (n : Nat) (x : ρ), Level step (many n c g) x
  | 0, x => by rw [many_zero]; exact level_nil x
  | n + 1, x => by rw [many_succ]; exact level_append (h x) (fun y => level_many h n y)
mutual
theorem level_flat1 : ∀ (u : U) (x : ρ), fine1 u → Level step (flat1 u) x
  | .mk c n g, x, hf => by
    unfold fine1 at hf
    rw [flat1_many]
    refine level_many h40 h41 hl (fun y => ?_) n x
    by_cases hc : c = 40
    · rw [hc, once_group]
      exact level_group h40 h41 hl (fun z => level_flatL g z hf.2) y
    · rw [once_letter hc]
      refine level_letter h40 h41 hl hc ?_ y
      intro e
      rcases hf.1 with h | h
      · exact hc h
      · rw [e] at h; revert h; decide
theorem level_flatL : ∀ (l : List U) (x : ρ), fineL l → Level step (flatL l) x
  | [], x, _ => level_nil x
  | u :: l, x, hf => by
    unfold fineL at hf
    exact level_append (level_flat1 u x hf.1) (fun y => level_flatL l y hf.2)
end
end
end Go.Proofs.Ytdmliaodacaefaa.Shape
