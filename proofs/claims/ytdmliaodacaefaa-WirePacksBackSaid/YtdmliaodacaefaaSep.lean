/- Assertions about memory, each with the blocks that it speaks of; several of them side by side. Nothing of a program is in it. -/
import Derived.Test.YtdmliaodacaefaaMem
namespace Go.Proofs.Ytdmliaodacaefaa.Sep
open Go.RowKit Go.Proofs.YtdmliaodacaefaaW.PrintWords Go.Proofs.Ytdmliaodacaefaa.Mem
set_option linter.unusedVariables false

abbrev Blks := Nat → Prop
/-- what is told of a world, and of no blocks but F's. -/
structure Asr where
  on : World → Blks → Prop
  up : ∀ {w : World} {F G : Blks}, on w F → (∀ b, F b → G b) → on w G
  keep : ∀ {w w' : World} {F : Blks}, on w F → (∀ b, F b → b < w.heap.size → w'.heap[b]? = w.heap[b]?) → on w' F
  bound : ∀ {w : World} {F : Blks}, on w F → on w (fun b => F b ∧ b < w.heap.size)
/-- the blocks of F, and new ones. -/
def Later (w : World) (F : Blks) : Blks := fun b => F b ∨ w.heap.size ≤ b
section
variable {w w' w'' : World} {F G S : Blks} {P Q : Asr}
theorem Asr.only (h : P.on w F) (ho : Only w w' S) (hd : ∀ b, F b → b < w.heap.size → ¬ S b) : P.on w' F := P.keep h (fun b hb hl => ho.block b hl (hd b hb hl))
theorem Asr.drawn (h : P.on w F) (hd : Drawn0 w w') : P.on w' F := by
  obtain ⟨k, rfl⟩ := hd
  exact P.keep h (fun _ _ _ => rfl)
theorem Asr.below (h : P.on w F) (hd : Below w.heap.size w w') : P.on w' F := P.keep h (fun b _ hl => hd.block b hl)
theorem Asr.alloc (h : P.on w F) (o : Obj) : P.on (w.alloc o) F := Asr.below h (below_alloc (Below.refl _ _) o)
theorem later_sub (b : Nat) (h : F b) : Later w F b := .inl h
/-- several, each with blocks of its own. -/
def All (l : List Asr) (w : World) (F : Blks) : Prop :=
  ∃ Fs : Nat → Blks, (∀ i (h : i < l.length), l[i].on w (Fs i)) ∧ (∀ i j b, i ≠ j → Fs i b → ¬ Fs j b) ∧ ∀ i b, Fs i b → F b
theorem All.up {l : List Asr} (h : All l w F) (hu : ∀ b, F b → G b) : All l w G := by
  obtain ⟨Fs, h1, h2, h3⟩ := h
  exact ⟨Fs, h1, h2, fun i b hb => hu b (h3 i b hb)⟩
theorem All.keep {l : List Asr} (h : All l w F) (hk : ∀ b, F b → b < w.heap.size → w'.heap[b]? = w.heap[b]?) : All l w' F := by
  obtain ⟨Fs, h1, h2, h3⟩ := h
  exact ⟨Fs, fun i hi => l[i].keep (h1 i hi) (fun b hb hl => hk b (h3 i b hb) hl), h2, h3⟩
theorem All.bound {l : List Asr} (h : All l w F) : All l w (fun b => F b ∧ b < w.heap.size) := by
  obtain ⟨Fs, h1, h2, h3⟩ := h
  exact ⟨fun i b => Fs i b ∧ b < w.heap.size, fun i hi => l[i].bound (h1 i hi), fun i j b hne hi hj => h2 i j b hne hi.1 hj.1, fun i b hb => ⟨h3 i b hb.1, hb.2⟩⟩
/-- several, as one. -/
def all (l : List Asr) : Asr := ⟨All l, All.up, All.keep, All.bound⟩
theorem All.only {l : List Asr} (h : All l w F) (ho : Only w w' S) (hd : ∀ b, F b → b < w.heap.size → ¬ S b) : All l w' F := h.keep (fun b hb hl => ho.block b hl (hd b hb hl))
theorem All.drawn {l : List Asr} (h : All l w F) (hd : Drawn0 w w') : All l w' F := by
  obtain ⟨k, rfl⟩ := hd
  exact h.keep (fun _ _ _ => rfl)
theorem All.below {l : List Asr} (h : All l w F) (hd : Below w.heap.size w w') : All l w' F := h.keep (fun b _ hl => hd.block b hl)
theorem All.nil (w : World) (F : Blks) : All [] w F := ⟨fun _ _ => False, fun i h => by simp at h, fun _ _ _ _ h => h.elim, fun _ _ h => h.elim⟩
/-- one of them is told alone, and may turn. -/
theorem All.pick {l : List Asr} (h : All l w F) (i : Nat) (hi : i < l.length) : ∃ F1, l[i].on w F1 ∧ (∀ b, F1 b → F b) ∧
    ∀ w' (P' : Asr), Only w w' F1 → P'.on w' (Later w F1) → All (l.set i P') w' (Later w F) := by
  obtain ⟨Fs, h1, h2, h3⟩ := h
  refine ⟨Fs i, h1 i hi, h3 i, fun w' P' ho hP => ?_⟩
  refine ⟨fun j b => if j = i then Later w (Fs i) b else Fs j b ∧ b < w.heap.size, fun j hj => ?_, fun j k b hne hj hk => ?_, fun j b hb => ?_⟩
  · by_cases e : j = i
    · subst e
      simp only [List.getElem_set_self, if_true]
      exact hP
    · have hj' : j < l.length := by simpa using hj
      have e1 : (l.set i P')[j] = l[j] := List.getElem_set_ne (by omega) (by simpa using hj)
      rw [e1]
      have h4 := Asr.only (l[j].bound (h1 j hj')) ho (fun b hb _ hF => h2 j i b e hb.1 hF)
      exact l[j].up h4 (fun b hb => by simp only [if_neg e]; exact hb)
  · by_cases e : j = i
    · subst e
      have e2 : ¬ k = j := fun h => hne h.symm
      simp only [if_true] at hj
      simp only [if_neg e2] at hk
      rcases hj with h5 | h5
      · exact h2 j k b hne h5 hk.1
      · omega
    · simp only [if_neg e] at hj
      by_cases e2 : k = i
      · subst e2
        simp only [if_true] at hk
        rcases hk with h5 | h5
        · exact h2 j k b hne hj.1 h5
        · omega
      · simp only [if_neg e2] at hk
        exact h2 j k b hne hj.1 hk.1
  · by_cases e : j = i
    · subst e
      simp only [if_true] at hb
      rcases hb with h5 | h5
      · exact .inl (h3 j b h5)
      · exact .inr h5
    · simp only [if_neg e] at hb
      exact .inl (h3 j b hb.1)
/-- one more, in new memory. -/
theorem All.add {l : List Asr} (h : All l w F) (hb : Below w.heap.size w w') (hP : P.on w' (fun b => w.heap.size ≤ b)) : All (l ++ [P]) w' (Later w F) := by
  obtain ⟨Fs, h1, h2, h3⟩ := h
  refine ⟨fun j b => if j = l.length then w.heap.size ≤ b else Fs j b ∧ b < w.heap.size, fun j hj => ?_, fun j k b hne hj hk => ?_, fun j b hb => ?_⟩
  · by_cases e : j = l.length
    · subst e
      simp only [List.getElem_concat_length, if_true]
      exact hP
    · have hj' : j < l.length := by simp at hj; omega
      rw [List.getElem_append_left hj']
      exact l[j].up (Asr.below (l[j].bound (h1 j hj')) hb) (fun b hb => by simp only [if_neg e]; exact hb)
  · by_cases e : j = l.length
    · by_cases e2 : k = l.length
      · exact hne (e.trans e2.symm)
      · simp only [if_pos e] at hj
        simp only [if_neg e2] at hk
        omega
    · by_cases e2 : k = l.length
      · simp only [if_neg e] at hj
        simp only [if_pos e2] at hk
        omega
      · simp only [if_neg e] at hj
        simp only [if_neg e2] at hk
        exact h2 j k b hne hj.1 hk.1
  · by_cases e : j = l.length
    · simp only [if_pos e] at hb
      exact .inr hb
    · simp only [if_neg e] at hb
      exact .inl (h3 j b hb.1)
theorem All.turn {l : List Asr} (h : All l w F) (i : Nat) (hi : i < l.length) (hP : ∀ F1, l[i].on w F1 → P.on w F1) : All (l.set i P) w F := by
  obtain ⟨Fs, h1, h2, h3⟩ := h
  refine ⟨Fs, fun j hj => ?_, h2, h3⟩
  by_cases e : j = i
  · subst e
    simp only [List.getElem_set_self]
    exact hP _ (h1 j hi)
  · have hj' : j < l.length := by simpa using hj
    rw [List.getElem_set_ne (by omega) (by simpa using hj)]
    exact h1 j hj'
theorem All.drop {l l' : List Asr} (h : All (l ++ l') w F) : All l w F := by
  obtain ⟨Fs, h1, h2, h3⟩ := h
  refine ⟨Fs, fun j hj => ?_, h2, h3⟩
  have := h1 j (by simp; omega)
  rwa [List.getElem_append_left hj] at this
theorem All.at_ {l : List Asr} (h : All l w F) (i : Nat) (hi : i < l.length) : ∃ F1, l[i].on w F1 ∧ (∀ b, F1 b → F b) := by
  obtain ⟨Fs, h1, h2, h3⟩ := h
  exact ⟨Fs i, h1 i hi, h3 i⟩
/-- whatever F's blocks became, nothing below them has turned. -/
theorem below_of {B : Nat} {w0 : World} (hb : Below B w0 w) (ho : Only w w' F) (hF : ∀ b, F b → B ≤ b) (hB : B ≤ w.heap.size) : Below B w0 w' := ho.below hb hF hB
theorem later_low {B : Nat} (hF : ∀ b, F b → B ≤ b) (hB : B ≤ w.heap.size) : ∀ b, Later w F b → B ≤ b := by
  rintro b (h | h)
  · exact hF b h
  · omega
/-- a row of numbers. -/
def row (e : TypeId) (k : IntKind) (v : Value) (xs : List Int) : Asr where
  on w F := Rw w e k v xs ∧ ∀ b, v.ownBlock = some b → F b
  up h hu := ⟨h.1, fun b hb => hu b (h.2 b hb)⟩
  keep h hk := ⟨h.1.step (fun b hb hl => hk b (h.2 b hb) hl), h.2⟩
  bound h := ⟨h.1, fun b hb => ⟨h.2 b hb, h.1.lt b hb⟩⟩
end
end Go.Proofs.Ytdmliaodacaefaa.Sep
