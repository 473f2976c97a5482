/- Writers in memory, the program's and the reference's: one plain state for both; how an append, a store into a field, leaves them. -/
import Derived.Test.YtdmliaodacaefaaBridge
import Derived.Deep.RegionHeld3
import Derived.Deep.RegionLaw
import Derived.OneCell
import Derived.Outline
namespace Go.Proofs.Ytdmliaodacaefaa.Wr
open Go.RowKit Go.Proofs.YtdmliaodacaefaaW.PrintWords Go.Proofs.YtdmliaodacaefaaW.PrintLast Go.Proofs.YtdmliaodacaefaaW.PrintMore Go.Proofs.Ytdmliaodacaefaa.Mem Go.Proofs.Ytdmliaodacaefaa.Sep Go.Proofs.Ytdmliaodacaefaa.Bridge
set_option linter.unusedVariables false
set_option linter.unusedSimpArgs false
theorem info5 : (Try.prog.info? 5).map (fun i => (i.zero, i.size, i.bytes)) = some (some (.int .u8 0), 1, 1) := by kernel_rfl
theorem info3 : (Try.prog.info? 3).map (fun i => (i.zero, i.size, i.bytes)) = some (some (.int .i64 0), 1, 8) := by kernel_rfl
theorem cell_of {w : World} {b i : Nat} {C : Array Value} {T : TypeId} {v : Value} (h : w.heap[b]? = some (.cells C T (0, 0))) (hi : C[i]? = some v) : w.cell? ⟨b, i, none⟩ = some v := by
  rw [cell_of_row w b i C T (0, 0) h]; exact hi
theorem frozen_of {w : World} {b : Nat} {C : Array Value} {T : TypeId} (h : w.heap[b]? = some (.cells C T (0, 0))) (i : Nat) : w.frozen? ⟨b, i, none⟩ = false := by simp [World.frozen?, h]
theorem heap_set {w : World} {b i : Nat} {C : Array Value} {T : TypeId} (h : w.heap[b]? = some (.cells C T (0, 0))) (u : Value) : (w.setCell ⟨b, i, none⟩ u).heap[b]? = some (.cells (C.setIfInBounds i u) T (0, 0)) := by
  simp [World.setCell, Array.getElem?_modify, h]
theorem block_lt {w : World} {b : Nat} {o : Obj} (h : w.heap[b]? = some o) : b < w.heap.size := lt_of_block h
section
variable {ops : Array Oper} {o : Oper} {a : Act} {Q : Exit → Act → World → Prop} {Kc : Act → World → Prop} {W : World} {rest : List Oper}
/-- one number appended, in a region that draws its order. -/
theorem push_step (hg : o.guard = none) (s x : Operand) (t e : TypeId) (k : IntKind) (bytes : Nat)
    (ho : o.op = .call { callee := .builtin .append, args := #[s, x], argTypes := #[t, t] })
    (ht : Try.prog.underlying t = some (.slice e)) (hinfo : (Try.prog.info? e).map (fun i => (i.zero, i.size, i.bytes)) = some (some (.int k 0), 1, bytes)) (hb0 : 0 < bytes)
    (v : Value) (xs : List Int) (p : Int) (hs : a.eval s = v) (hx : a.eval x = .slice (some ⟨W.heap.size, 0, none⟩) 1 1)
    (HO : Rw W e k v xs) (hl : (xs.length + 1) * bytes ≤ 140737488355328)
    (h : ∀ v1 w1, Rw w1 e k v1 (xs ++ [p]) → W.grownBy w1 v.ownBlock → (v1.ownBlock = v.ownBlock ∨ ∃ b, v1.ownBlock = some b ∧ W.heap.size ≤ b) → Kc (a.put o.dst v1) w1) :
    if Region.wanted o (yielded ops a.tmps) = true then Oper.wp Try.prog o a (W.alloc (.cells #[.int k p] e)) Kc Q else Kc (a.put o.dst undef) (W.alloc (.cells #[.int k p] e)) :=
  Kd.R_append_step (Kd.int k) (w0 := W) 0 (by simp [Region.wanted, hg]) s x t e (.int k 0) bytes ho ht hinfo rfl Nat.one_pos hb0 v xs p [.int k p] (fun _ => True) (fun _ => False) hs hx rfl (fun _ h => h.elim) (fun _ _ => trivial) HO ((Below.refl 0 _).mono (Nat.zero_le _)) (Nat.zero_le _) hl
    (fun v1 w1 h1 _ h3 h4 => h v1 w1 h1 h3 h4)
/-- a row appended. -/
theorem app_list (hg : o.guard = none) (s x : Operand) (t e : TypeId) (k : IntKind) (bytes : Nat)
    (ho : o.op = .call { callee := .builtin .append, args := #[s, x], argTypes := #[t, t] })
    (ht : Try.prog.underlying t = some (.slice e)) (hinfo : (Try.prog.info? e).map (fun i => (i.zero, i.size, i.bytes)) = some (some (.int k 0), 1, bytes)) (hb0 : 0 < bytes)
    (v : Value) (xs ys : List Int) (A : Option Addr) (m c : Nat) (hs : a.eval s = v) (hx : a.eval x = .slice A m c)
    (HO : Rw W e k v xs) (HR : Kd.C (Kd.int k) W A m ys) (hl : (xs.length + m) * bytes ≤ 140737488355328)
    (h : ∀ v1 w1, Rw w1 e k v1 (xs ++ ys) → W.grownBy w1 v.ownBlock → (v1.ownBlock = v.ownBlock ∨ ∃ b, v1.ownBlock = some b ∧ W.heap.size ≤ b) → wpList Try.prog ops Q rest (a.put o.dst v1) w1) :
    wpList Try.prog ops Q (o :: rest) a W :=
  Kd.R_append_row (Value.int k) (0 : Int) (h1 := fun _ => rfl) (w0 := W) 0 hg s x t e (.int k 0) bytes ho ht hinfo rfl hb0 v xs ys A m c (fun _ => True) hs hx (fun _ _ => trivial) HO HR ((Below.refl 0 _).mono (Nat.zero_le _)) (Nat.zero_le _) hl
    (fun v1 w1 h1 _ h3 h4 => h v1 w1 h1 h3 h4)
/-- one number appended. -/
theorem push_list (hg : o.guard = none) (s x : Operand) (t e : TypeId) (k : IntKind) (bytes : Nat)
    (ho : o.op = .call { callee := .builtin .append, args := #[s, x], argTypes := #[t, t] })
    (ht : Try.prog.underlying t = some (.slice e)) (hinfo : (Try.prog.info? e).map (fun i => (i.zero, i.size, i.bytes)) = some (some (.int k 0), 1, bytes)) (hb0 : 0 < bytes)
    (v : Value) (xs : List Int) (p : Int) (hs : a.eval s = v) (hx : a.eval x = .slice (some ⟨W.heap.size, 0, none⟩) 1 1)
    (HO : Rw W e k v xs) (hl : (xs.length + 1) * bytes ≤ 140737488355328)
    (h : ∀ v1 w1, Rw w1 e k v1 (xs ++ [p]) → W.grownBy w1 v.ownBlock → (v1.ownBlock = v.ownBlock ∨ ∃ b, v1.ownBlock = some b ∧ W.heap.size ≤ b) → wpList Try.prog ops Q rest (a.put o.dst v1) w1) :
    wpList Try.prog ops Q (o :: rest) a (W.alloc (.cells #[.int k p] e)) :=
  Kd.R_append (Kd.int k) (w0 := W) 0 hg s x t e (.int k 0) bytes ho ht hinfo rfl Nat.one_pos hb0 v xs p [.int k p] (fun _ => True) (fun _ => False) hs hx rfl (fun _ h => h.elim) (fun _ _ => trivial) HO ((Below.refl 0 _).mono (Nat.zero_le _)) (Nat.zero_le _) hl
    (fun v1 w1 h1 _ h3 h4 => h v1 w1 h1 h3 h4)
end
/-- what an append leaves: nothing but the row's own block has turned. -/
theorem grown_only {W w1 : World} {v : Value} (hg : W.grownBy w1 v.ownBlock) : Only W w1 (fun b => v.ownBlock = some b) :=
  (Only.refl W _).grown hg (fun k hk => .inl hk)
/-- places as whole numbers. -/
def nl (l : List Nat) : List Int := l.map fun n : Nat => (n : Int)
theorem nl_length (l : List Nat) : (nl l).length = l.length := by simp [nl]
/-- a writer's state. -/
structure WS where
  out : List UInt8
  lim : Nat
  opn : List Nat
  err : Int
structure WS.Ok (s : WS) : Prop where
  len : s.out.length ≤ s.lim
  lim : s.lim ≤ 1048576
  nest : s.opn.length ≤ 4
  inn : ∀ x ∈ s.opn, x ≤ s.out.length
abbrev ObjOf := Value → Value → WS → Obj
/-- the program's writer's cells; the reference's. -/
def objW : ObjOf := fun vo vp s => .cells #[vo, .int .i64 s.lim, vp, .int .i64 s.err] 71 (0, 0)
def objV : ObjOf := fun vo vp s => .cells #[.int .i64 s.lim, vo, vp, .int .i64 s.err] 73 (0, 0)
structure IsO (m : ObjOf) (w : World) (a : Nat) (vo vp : Value) (s : WS) : Prop where
  blk : w.heap[a]? = some (m vo vp s)
  out : Rw w 5 .u8 vo (bl s.out)
  opn : Rw w 3 .i64 vp (nl s.opn)
  ne1 : vo.ownBlock ≠ some a
  ne2 : vp.ownBlock ≠ some a
  ne3 : ∀ b, vo.ownBlock = some b → vp.ownBlock ≠ some b
  ok : s.Ok
def foot (a : Nat) (vo vp : Value) : Blks := fun b => b = a ∨ vo.ownBlock = some b ∨ vp.ownBlock = some b
section
variable {m : ObjOf} {w w' : World} {a : Nat} {vo vp : Value} {s : WS} {S : Blks}
theorem IsO.keep (h : IsO m w a vo vp s) (hk : ∀ b, foot a vo vp b → b < w.heap.size → w'.heap[b]? = w.heap[b]?) : IsO m w' a vo vp s :=
  ⟨(hk a (.inl rfl) (block_lt h.blk)).trans h.blk, h.out.step (fun b hb hl => hk b (.inr (.inl hb)) hl), h.opn.step (fun b hb hl => hk b (.inr (.inr hb)) hl), h.ne1, h.ne2, h.ne3, h.ok⟩
theorem IsO.only (h : IsO m w a vo vp s) (ho : Only w w' S) (hs : ∀ b, foot a vo vp b → ¬ S b) : IsO m w' a vo vp s := h.keep (fun b hb hl => ho.block b hl (hs b hb))
theorem IsO.drewN (h : IsO m w a vo vp s) (n : Nat) : IsO m (w.drewN n) a vo vp s := h.keep (fun _ _ _ => rfl)
theorem IsO.below (h : IsO m w a vo vp s) (hb : Below w.heap.size w w') : IsO m w' a vo vp s := h.keep (fun b _ hl => hb.block b hl)
theorem IsO.alloc (h : IsO m w a vo vp s) (o : Obj) : IsO m (w.alloc o) a vo vp s := h.below (below_alloc (Below.refl _ _) o)
theorem IsO.lt (h : IsO m w a vo vp s) : ∀ b, foot a vo vp b → b < w.heap.size := by
  rintro b (rfl | hb | hb)
  · exact block_lt h.blk
  · exact h.out.lt b hb
  · exact h.opn.lt b hb
end
/-- a writer at a, and what it holds. -/
def st (m : ObjOf) (a : Nat) (s : WS) : Asr where
  on w F := ∃ vo vp, IsO m w a vo vp s ∧ ∀ b, foot a vo vp b → F b
  up h hu := by
    obtain ⟨vo, vp, h1, h2⟩ := h
    exact ⟨vo, vp, h1, fun b hb => hu b (h2 b hb)⟩
  keep h hk := by
    obtain ⟨vo, vp, h1, h2⟩ := h
    exact ⟨vo, vp, h1.keep (fun b hb hl => hk b (h2 b hb) hl), h2⟩
  bound h := by
    obtain ⟨vo, vp, h1, h2⟩ := h
    exact ⟨vo, vp, h1, fun b hb => ⟨h2 b hb, h1.lt b hb⟩⟩
/-- what a call leaves of what it was handed. -/
def Turn (w w' : World) (F : Blks) (P' : Asr) : Prop := Only w w' F ∧ P'.on w' (Later w F)
section
variable {w w1 w2 : World} {F : Blks} {P P1 P2 : Asr}
theorem Turn.same (h : P.on w F) : Turn w w F P := ⟨Only.refl _ _, P.up h (fun b hb => .inl hb)⟩
theorem Turn.drewN (h : P.on w F) (n : Nat) : Turn w (w.drewN n) F P := ⟨(Only.refl _ _).drewN n, P.up (P.keep h (fun _ _ _ => rfl)) (fun b hb => .inl hb)⟩
theorem Turn.trans (h1 : Turn w w1 F P1) (h2 : Turn w1 w2 (Later w F) P2) : Turn w w2 F P2 :=
  ⟨h1.1.trans h2.1 (fun b hb => hb), P2.up h2.2 (fun b hb => by
    rcases hb with hb | hb
    · exact hb
    · exact .inr (Nat.le_trans h1.1.size hb))⟩
theorem Turn.then_below (h1 : Turn w w1 F P1) (hb : Below w1.heap.size w1 w2) : Turn w w2 F P1 :=
  ⟨h1.1.trans (Only.of_below hb (fun _ => False)) (fun _ h => h.elim), Asr.below h1.2 hb⟩
theorem Turn.then_drawn (h1 : Turn w w1 F P1) (hd : Drawn0 w1 w2) : Turn w w2 F P1 := by
  obtain ⟨k, rfl⟩ := hd
  exact h1.then_below (pw_below_drewN (Below.refl _ _) k)
theorem Turn.after_below (hb : Below w.heap.size w w1) (h2 : Turn w1 w2 F P2) : Turn w w2 F P2 :=
  ⟨(Only.of_below hb F).trans h2.1 (fun b hF => .inl hF), P2.up h2.2 (fun b hF => by
    rcases hF with hF | hF
    · exact .inl hF
    · exact .inr (Nat.le_trans hb.size hF))⟩
end
end Go.Proofs.Ytdmliaodacaefaa.Wr
