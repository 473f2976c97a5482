/- A script of steps with digests, read as data: its cells, its bytes, and that its bytes are together no longer than its bulk. -/
import Derived.Test.YtcfnpippmdijaaaBulk
import Derived.Test.YtcfnpippmdijaaaDigested
import Derived.ProofKit
import Derived.ChangeOld
namespace Go.Proofs.Ytcfnpippmdijaaa.Ops
open Go.ChangeShapes Go.WideShapes Go.RowKit Go.Proofs.YtcfnpippmdijaaaW.PrintWords Go.Proofs.Ytcfnpippmdijaaa.Bridge
set_option linter.unusedVariables false
set_option linter.unusedSimpArgs false
theorem pick {Y O : Type} (P : Nat → O → Y → Prop) (wt : O → Nat) (bk : Y → Nat) (hP : ∀ i o y, P i o y → wt o ≤ bk y) : ∀ (r : List Y) (s : Nat), (∀ j (h : j < r.length), ∃ o, P (s + j) o r[j]) →
    ∃ ops : List O, ops.length = r.length ∧ (∀ j (h : j < r.length) (h' : j < ops.length), P (s + j) ops[j] r[j]) ∧ (ops.map wt).sum ≤ (r.map bk).sum
  | [], s, _ => ⟨[], rfl, fun j h => by simp at h, by simp⟩
  | y :: r, s, h => by
    obtain ⟨o, ho⟩ := h 0 (by simp)
    obtain ⟨ops, h1, h2, h3⟩ := pick P wt bk hP r (s + 1) (fun j hj => by
      obtain ⟨o, ho⟩ := h (j + 1) (by simpa using hj)
      exact ⟨o, by rw [show s + 1 + j = s + (j + 1) by omega]; exact ho⟩)
    refine ⟨o :: ops, by simp [h1], fun j hj hj' => ?_, ?_⟩
    · cases j with
      | zero => exact ho
      | succ j =>
        have := h2 j (by simpa using hj) (by simpa using hj')
        rw [show s + 1 + j = s + (j + 1) by omega] at this
        exact this
    · have : wt o ≤ bk y := hP _ _ _ ho
      simp only [List.map_cons, List.sum_cons]
      omega
theorem mapM_at {X Y : Type} {f : X → Option Y} : ∀ {l : List X} {r : List Y}, l.mapM f = some r → r.length = l.length ∧ ∀ j (h : j < l.length) (h' : j < r.length), f l[j] = some r[j]
  | [], r, h => by
    simp at h
    subst h
    exact ⟨rfl, fun j h => by simp at h⟩
  | x :: l, r, h => by
    rw [List.mapM_cons] at h
    simp only [bind, Option.bind_eq_some_iff, pure, Option.some.injEq] at h
    obtain ⟨y, hy, ys, hys, rfl⟩ := h
    obtain ⟨h1, h2⟩ := mapM_at hys
    refine ⟨by simp [h1], fun j hj hj' => ?_⟩
    cases j with
    | zero => exact hy
    | succ j => exact h2 j (by simpa using hj) (by simpa using hj')
theorem bulkAll_sum {H : Type} (l : List (DataW H)) : Rows.uptoBulkAll l = (l.map Rows.uptoBulk).sum := by
  induction l with
  | nil => simp [Rows.uptoBulkAll]
  | cons x r ih => simp [Rows.uptoBulkAll, ih]
/-- bytes that came in: an address, the length, the capacity, what they are. -/
structure Sl where
  A : Option Addr
  c : Nat
  l : List UInt8
def Sl.val (s : Sl) : Value := .slice s.A (bl s.l).length s.c
def Sl.ok (W : World) (s : Sl) : Prop := Kd.C (Kd.int .u8) W s.A (bl s.l).length (bl s.l) ∧ (bl s.l).length ≤ s.c ∧ (0 < (bl s.l).length → ∀ x, s.A = some x → x.block < W.heap.size)
theorem open_bytes {H : Type} {enc : TypeId × Value → H} {W : World} {base : Nat} {spare : Nat → Bool} {held : Bool} {v : Value} {d : DataW H} {ps : List MemPlace} {m : Nat}
    (h : DataW.trod enc Try.prog W base spare held m 23 [v] = some (d, ps)) : ∃ s : Sl, v = s.val ∧ s.ok W ∧ s.l.length ≤ Rows.uptoBulk d := by
  rcases open_ints Try.underlying23 Try.underlying5 (by kernel_rfl) h with ⟨hcs, _⟩ | ⟨x, l, c, zs, hcs, _, hl, hm, hz, hx, hcell, hwz⟩
  · have hv : v = .slice none 0 0 := by simpa using hcs
    subst hv
    exact ⟨⟨none, 0, []⟩, rfl, ⟨Kd.C_of_reads (d := (0 : Int)) (h1 := fun _ => rfl) (ReadsInt.nil W .u8), Nat.le_refl _, fun h => by simp [bl] at h⟩, by simp⟩
  · have hv : v = .slice (some x) l c := by simpa using hcs
    subst hv
    obtain ⟨hx, _⟩ := Prod.mk.inj hx
    subst hx
    have hl2 : l ≤ zs.length := by
      rw [hz]
      split
      · exact hl
      · exact Nat.le_refl _
    obtain ⟨L, hL⟩ := of_bytes (l := zs.take l) (fun z hz => hwz z (List.mem_of_mem_take hz))
    have hlen : (bl L).length = l := by rw [← hL, List.length_take]; omega
    have hrd : ReadsInt W .u8 (some x) (bl L).length (bl L) := by
      refine ⟨rfl, by rw [hlen]; exact Nat.le_trans hl hm, fun _ => ⟨x, rfl, fun j hj => ?_⟩⟩
      rw [hcell j (by omega), ← hL]
      simp [List.getElem?_take, show j < l by omega]
    refine ⟨⟨some x, c, L⟩, by simp [Sl.val, hlen], ⟨Kd.C_of_reads (d := (0 : Int)) (h1 := fun _ => rfl) hrd, by rw [hlen]; exact hl, fun hp y hy => ?_⟩, ?_⟩
    · injection hy with hy
      subst hy
      have hp' : 0 < (bl L).length := hp
      have := World.block_lt_of_cell? W _ (hcell 0 (by omega))
      simpa [Addr.add] using this
    · have h1 := Bulk.length_le (lits (H := H) .u8 (zs.take l))
      have h2 : (lits (H := H) .u8 (zs.take l)).length = l := by simp [lits]; omega
      rw [bl_length] at hlen
      simp only [Rows.uptoBulk]
      omega
/-- a step with a digest. -/
structure OpR where
  kind : Int
  two : Bool
  s : Sl
def OpR.at_ (W : World) (a : Addr) (i : Nat) (o : OpR) : Prop :=
  W.cell? ((a.add (i * 3)).add 0) = some (.int .i64 o.kind) ∧ W.cell? ((a.add (i * 3)).add 1) = some (.bool o.two) ∧ W.cell? ((a.add (i * 3)).add 2) = some o.s.val ∧ o.s.ok W
theorem cells40 : Try.prog.cellsOf 40 = 3 := by kernel_rfl
theorem cells3 : Try.prog.cellsOf 3 = 1 := by kernel_rfl
theorem cells4 : Try.prog.cellsOf 4 = 1 := by kernel_rfl
theorem cells23 : Try.prog.cellsOf 23 = 1 := by kernel_rfl
theorem open_op {H : Type} {enc : TypeId × Value → H} {W : World} {base : Nat} {spare : Nat → Bool} {held : Bool} {m i : Nat} {a : Addr} {y : DataW H × List MemPlace}
    (h : (W.cells? base (a.add (i * 3)) 3).bind (DataW.trod enc Try.prog W base spare held m 40) = some y) : ∃ o : OpR, o.at_ W a i ∧ o.s.l.length ≤ Rows.uptoBulk y.1 := by
  obtain ⟨cs, hcs, hy⟩ := Option.bind_eq_some_iff.1 h
  have hcs' := World.cells?_some hcs
  cases m with
  | zero => simp [DataW.trod] at hy
  | succ m =>
    rw [DataW.trod_step] at hy
    unfold DataW.trodStep at hy
    obtain ⟨_, hlen, hcell⟩ := hcs'
    obtain ⟨c0, c1, c2, rfl⟩ : ∃ c0 c1 c2, cs = [c0, c1, c2] := by
      match cs, hlen with
      | [x, y, z], _ => exact ⟨x, y, z, rfl⟩
    simp only [Try.underlying40, cells40, cells3, cells4, cells23] at hy
    rw [if_pos (by rfl)] at hy
    simp only [Option.map_eq_some_iff] at hy
    obtain ⟨ys, hm, rfl⟩ := hy
    simp only [List.mapM_cons, List.mapM_nil, bind, Option.bind_eq_some_iff, pure, Option.some.injEq] at hm
    obtain ⟨y0, h0, y1, ⟨y2, h2, ⟨y3, ⟨y4, h4, e4⟩, e3⟩⟩, e1⟩ := hm
    subst e1
    simp only [cells3, cells4, cells23, List.drop_zero, List.drop_succ_cons, List.take_succ_cons, List.take_zero] at h0 h2 h4
    obtain ⟨kd, ek, _, wk⟩ := DataW.trod_int Try.underlying3 h0
    obtain ⟨b, eb, _⟩ := DataW.trod_bool Try.underlying4 h2
    obtain ⟨s, es, hs, hb⟩ := open_bytes h4
    have e0 : c0 = .int .i64 kd := by simpa using ek
    have e5 : c1 = .bool b := by simpa using eb
    subst e0
    subst e5
    subst es
    refine ⟨⟨kd, b, s⟩, ⟨hcell 0 (by omega), hcell 1 (by omega), hcell 2 (by omega), hs⟩, ?_⟩
    subst e3
    obtain ⟨_, rfl, rfl⟩ := e4
    simp only [List.map_cons, List.map_nil, Rows.uptoBulk, Rows.uptoBulkAll]
    omega
theorem open_script {H : Type} {enc : TypeId × Value → H} {W : World} {base : Nat} {spare : Nat → Bool} {held : Bool} {a : Option Addr} {len cap : Nat} {d : DataW H} {ps : List MemPlace}
    (h : DataW.Trod enc Try.prog W base spare held 33 (.slice a len cap) d ps) :
    ∃ ops : List OpR, ops.length = len ∧ len ≤ Rows.uptoBulk d ∧ (ops.map fun o => o.s.l.length).sum ≤ Rows.uptoBulk d ∧ (0 < len → ∃ x, a = some x ∧ x.block < W.heap.size ∧ ∀ i (hi : i < ops.length), ops[i].at_ W x i) := by
  obtain ⟨m, hf⟩ := h
  cases m with
  | zero => simp [DataW.trod] at hf
  | succ m =>
    rw [DataW.trod_step] at hf
    unfold DataW.trodStep at hf
    simp only [Value.cells] at hf
    rw [Try.underlying33] at hf
    cases a with
    | none =>
      have hz : len = 0 := by
        by_cases hl : len = 0
        · exact hl
        · exfalso
          cases len with
          | zero => exact hl rfl
          | succ n => cases cap <;> simp at hf
      subst hz
      exact ⟨[], rfl, Nat.zero_le _, by simp, fun h => by omega⟩
    | some x =>
      simp only [cells40] at hf
      split at hf
      · obtain ⟨elems, hel, hf⟩ := Option.bind_eq_some_iff.1 hf
        obtain ⟨rest, _, hd⟩ := Option.map_eq_some_iff.1 hf
        obtain ⟨hd, _⟩ := Prod.mk.inj hd
        subst hd
        obtain ⟨h1, h2⟩ := mapM_at hel
        rw [List.length_range] at h1
        obtain ⟨ops, g1, g2, g3⟩ := pick (fun i (o : OpR) (y : DataW H × List MemPlace) => o.at_ W x i ∧ o.s.l.length ≤ Rows.uptoBulk y.1) (fun o => o.s.l.length) (fun y => Rows.uptoBulk y.1) (fun i o y h => h.2) elems 0 (fun j hj => by
          have h3 := h2 j (by rw [List.length_range]; omega) hj
          rw [List.getElem_range] at h3
          rw [Nat.zero_add]
          exact open_op h3)
        have hall : (elems.map fun y => Rows.uptoBulk y.1).sum = Rows.uptoBulkAll (elems.map (·.1)) := by
          rw [bulkAll_sum, List.map_map]; rfl
        have hone := Bulk.length_le (elems.map (·.1))
        rw [List.length_map] at hone
        refine ⟨ops, by omega, ?_, ?_, fun hp => ⟨x, rfl, ?_, fun i hi => ?_⟩⟩
        · simp only [Rows.uptoBulk]; omega
        · simp only [Rows.uptoBulk]; omega
        · have h4 := (g2 0 (by omega) (by omega)).1.1
          have := World.block_lt_of_cell? W _ h4
          simpa [Addr.add] using this
        · have h5 := (g2 i (by omega) hi).1
          rw [Nat.zero_add] at h5
          exact h5
      · simp at hf
end Go.Proofs.Ytcfnpippmdijaaa.Ops
