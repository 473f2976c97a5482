/- Memory words of this session: what a call changes is told by a set of blocks; rows of whole numbers that a call owns. Nothing of a program is in it. -/
import Derived.Test.YtdmliaodacaefaaWWords
import Derived.Test.YtdmliaodacaefaaWLast
import Derived.Test.YtdmliaodacaefaaWMore
import Derived.Below
import Derived.OwnWalk
namespace Go.Proofs.Ytdmliaodacaefaa.Mem
open Go.RowKit Go.Proofs.YtdmliaodacaefaaW.PrintWords Go.Proofs.YtdmliaodacaefaaW.PrintLast Go.Proofs.YtdmliaodacaefaaW.PrintMore

/-- nothing that was there changed, but for the blocks of S. -/
structure Only (w w' : World) (S : Nat → Prop) : Prop where
  os : w'.os = w.os
  tape : w'.tape = w.tape
  output : w'.output = w.output
  size : w.heap.size ≤ w'.heap.size
  block : ∀ b, b < w.heap.size → ¬ S b → w'.heap[b]? = w.heap[b]?
section
variable {w w' w1 w2 a : World} {S S' S2 : Nat → Prop} {B : Nat}
theorem Only.refl (w : World) (S : Nat → Prop) : Only w w S := ⟨rfl, rfl, rfl, Nat.le_refl _, fun _ _ _ => rfl⟩
theorem Only.of_below (h : Below w.heap.size w w') (S : Nat → Prop) : Only w w' S := ⟨h.os, h.tape, h.output, h.size, fun b hb _ => h.block b hb⟩
theorem Only.trans (h : Only w w1 S) (k : Only w1 w2 S2) (hs : ∀ b, S2 b → S b ∨ w.heap.size ≤ b) : Only w w2 S :=
  ⟨k.os.trans h.os, k.tape.trans h.tape, k.output.trans h.output, Nat.le_trans h.size k.size, fun b hb hn =>
    (k.block b (Nat.lt_of_lt_of_le hb h.size) (fun h2 => by rcases hs b h2 with h3 | h3; exact hn h3; omega)).trans (h.block b hb hn)⟩
theorem Only.mono (h : Only w w' S) (hs : ∀ b, S b → b < w.heap.size → S' b) : Only w w' S' :=
  ⟨h.os, h.tape, h.output, h.size, fun b hb hn => h.block b hb (fun h2 => hn (hs b h2 hb))⟩
theorem Only.below (h : Only w w' S) (hb : Below B a w) (hs : ∀ b, S b → B ≤ b) (hB : B ≤ w.heap.size) : Below B a w' :=
  ⟨h.os.trans hb.os, h.tape.trans hb.tape, h.output.trans hb.output, Nat.le_trans hb.size h.size, fun b hk =>
    (h.block b (by omega) (fun h2 => by have := hs b h2; omega)).trans (hb.block b hk)⟩
theorem Only.drewN (h : Only w w' S) (n : Nat) : Only w (w'.drewN n) S := h.trans (Only.of_below (pw_below_drewN (Below.refl _ _) n) (fun _ => False)) (fun _ h => h.elim)
theorem Only.drew (h : Only w w' S) : Only w w'.drew S := ⟨h.os, h.tape, h.output, h.size, h.block⟩
theorem Only.alloc (h : Only w w' S) (o : Obj) : Only w (w'.alloc o) S := h.trans (Only.of_below ((Below.refl _ _).alloc (Nat.le_refl _) _) (fun _ => False)) (fun _ h => h.elim)
theorem Only.setCell (h : Only w w' S) {p : Addr} (hp : S p.block ∨ w.heap.size ≤ p.block) (u : Value) : Only w (w'.setCell p u) S := by
  refine h.trans (S2 := fun b => b = p.block) ⟨rfl, rfl, rfl, by simp [World.setCell], fun b _ hn => Below.heap_setCell w' p u b hn⟩ ?_
  rintro b rfl
  exact hp
theorem Only.grown (h : Only w w' S) {row : Option Nat} (hg : w'.grownBy w1 row) (hr : ∀ k, row = some k → S k ∨ w.heap.size ≤ k) : Only w w1 S :=
  h.trans (S2 := fun b => row = some b) ⟨hg.os, hg.tape, hg.output, hg.size, fun b hb hn => hg.block b hb (fun e => hn e.symm)⟩ hr
theorem Only.cell (h : Only w w' S) {p : Addr} (hs : ¬ S p.block) (hlt : p.block < w.heap.size) : w'.cell? p = w.cell? p := World.cell?_of_block (h.block _ hlt hs)
end

/-- a row of whole numbers that is the call's own (v: nil, or its slice). -/
def Rw (w : World) (e : TypeId) (k : IntKind) (v : Value) (xs : List Int) : Prop := Kd.R (Kd.int k) e w 0 (fun _ => True) v xs
section
variable {w w' w1 : World} {e : TypeId} {k : IntKind} {v : Value} {xs : List Int} {S : Nat → Prop}
theorem Rw.nil (w : World) (e : TypeId) (k : IntKind) : Rw w e k (.slice none 0 0) [] := Kd.R_nil _ _ _ _ _
theorem Rw.tight (h : Rw w e k v xs) : Kd.R (Kd.int k) e w 0 (fun b => v.ownBlock = some b) v xs := ⟨fun _ hb => hb, h.2.imp_ (fun _ _ hp => hp)⟩
theorem Rw.of {B : Nat} {ok : Nat → Prop} (h : Kd.R (Kd.int k) e w B ok v xs) : Rw w e k v xs := Kd.R_mono (Kd.R_lower h (Nat.zero_le _)) (fun _ _ => trivial)
theorem Rw.step (h : Rw w e k v xs) (hm : ∀ b, v.ownBlock = some b → b < w.heap.size → w'.heap[b]? = w.heap[b]?) : Rw w' e k v xs := Rw.of (Kd.R_step h.tight hm)
theorem Rw.lt (h : Rw w e k v xs) : ∀ b, v.ownBlock = some b → b < w.heap.size := Kd.R_lt h
theorem Rw.only (h : Rw w e k v xs) (ho : Only w w' S) (hs : ∀ b, v.ownBlock = some b → ¬ S b) : Rw w' e k v xs := h.step (fun b hb hlt => ho.block b hlt (hs b hb))
theorem Rw.reads (h : Rw w e k v xs) : ∃ A c, v = .slice A xs.length c ∧ xs.length ≤ c ∧ Kd.C (Kd.int k) w A xs.length xs := Kd.R_reads h
theorem Rw.some (h : Rw w e k v xs) (hx : 0 < xs.length) : ∃ g c, v = .slice (some ⟨g, 0, none⟩) xs.length c ∧ xs.length ≤ c ∧ Kd.C (Kd.int k) w (some ⟨g, 0, none⟩) xs.length xs := by
  obtain ⟨inner, ho⟩ := Kd.R_own h
  obtain ⟨A, c, e1, hl, hr⟩ := h.reads
  rcases ho.2 with ⟨_, h0⟩ | ⟨g, cap, cur, e2, _⟩
  · omega
  · rw [e1] at e2
    injection e2 with e3 e4 e5
    subst e3
    exact ⟨g, c, e1, hl, hr⟩
theorem C_take {A : Option Addr} {n : Nat} (h : Kd.C (Kd.int k) w A n xs) (i : Nat) (hi : i ≤ n) : Kd.C (Kd.int k) w A i (xs.take i) :=
  Kd.C_of_reads (d := (0 : Int)) (h1 := fun _ => rfl) (ReadsInt.take_ (Kd.reads_of_C (enc := Value.int k) (d := (0 : Int)) (h1 := fun _ => rfl) h) i hi)
theorem C_drop {A : Option Addr} {n c : Nat} (h : Kd.C (Kd.int k) w A n xs) (i : Nat) (hi : i ≤ n) (hc : n ≤ c) : Kd.C (Kd.int k) w (if c = i then A else A.map (·.add i)) (n - i) (xs.drop i) :=
  Kd.C_of_reads (d := (0 : Int)) (h1 := fun _ => rfl) (ReadsInt.drop_ (Kd.reads_of_C (enc := Value.int k) (d := (0 : Int)) (h1 := fun _ => rfl) h) i hi hc)
theorem C_only {A : Option Addr} {n : Nat} (h : Kd.C (Kd.int k) w A n xs) (ho : Only w w' S) (hs : 0 < n → ∀ a, A = Option.some a → ¬ S a.block) : Kd.C (Kd.int k) w' A n xs := by
  have hr := Kd.reads_of_C (enc := Value.int k) (d := (0 : Int)) (h1 := fun _ => rfl) h
  refine Kd.C_of_reads (d := (0 : Int)) (h1 := fun _ => rfl) ⟨hr.1, hr.2.1, fun hn => ?_⟩
  obtain ⟨ad, e1, hc⟩ := hr.2.2 hn
  refine ⟨ad, e1, fun j hj => ?_⟩
  have hcj := hc j hj
  have hlt := World.block_lt_of_cell? w _ hcj
  rw [ho.cell (by rw [show (ad.add j).block = ad.block by unfold Addr.add; split <;> rfl]; exact hs hn ad e1) hlt]
  exact hcj
end
end Go.Proofs.Ytdmliaodacaefaa.Mem
