/- A script of steps, and bytes that came in, read as data: cells, and how long each is. -/
import Derived.Test.YtdmliaodacaefaaBridge
import Derived.SizedLaws
import Derived.ProofKit
import Derived.ChangeOld
namespace Go.Proofs.Ytdmliaodacaefaa.Ops
open Go.ChangeShapes Go.WideShapes Go.RowKit Go.Proofs.YtdmliaodacaefaaW.PrintWords Go.Proofs.Ytdmliaodacaefaa.Bridge
set_option linter.unusedVariables false
set_option linter.unusedSimpArgs false
theorem pick {Y O : Type} (P : Nat → O → Y → Prop) : ∀ (r : List Y) (s : Nat), (∀ j (h : j < r.length), ∃ o, P (s + j) o r[j]) →
    ∃ ops : List O, ops.length = r.length ∧ (∀ j (h : j < r.length) (h' : j < ops.length), P (s + j) ops[j] r[j])
  | [], s, _ => ⟨[], rfl, fun j h => by simp at h⟩
  | y :: r, s, h => by
    obtain ⟨o, ho⟩ := h 0 (by simp)
    obtain ⟨ops, h1, h2⟩ := pick P r (s + 1) (fun j hj => by
      obtain ⟨o, ho⟩ := h (j + 1) (by simpa using hj)
      exact ⟨o, by rw [show s + 1 + j = s + (j + 1) by omega]; exact ho⟩)
    refine ⟨o :: ops, by simp [h1], fun j hj hj' => ?_⟩
    cases j with
    | zero => exact ho
    | succ j =>
      have := h2 j (by simpa using hj) (by simpa using hj')
      rw [show s + 1 + j = s + (j + 1) by omega] at this
      exact this
theorem mapM_at {X Y : Type} {f : X → Option Y} : ∀ {l : List X} {r : List Y}, l.mapM f = some r → r.length = l.length ∧ ∀ j (h : j < l.length) (h' : j < r.length), f l[j] = some r[j]
  | [], r, h => by
    simp at h
    subst h
    exact ⟨rfl, fun j h => by simp at h⟩
  | x :: l, r, h => by
    rw [List.mapM_cons] at h
    simp only [bind, Option.bind_eq_some_iff, pure, Option.some.injEq] at h
    obtain ⟨y, hy, ys, hys, rfl⟩ := h
    obtain ⟨h1, h2⟩ := mapM_at hys
    refine ⟨by simp [h1], fun j hj hj' => ?_⟩
    cases j with
    | zero => exact hy
    | succ j => exact h2 j (by simpa using hj) (by simpa using hj')
theorem all_mem {H : Type} {P : Program} {e : TypeId} : ∀ {l : List (DataW H)} {d : DataW H}, d ∈ l → ∀ n ∈ d.weights P e, n ∈ DataW.weightsAll P e l
  | x :: l, d, h, n, hn => by
    unfold DataW.weightsAll
    rcases List.mem_cons.1 h with h | h
    · subst h; exact List.mem_append_left _ hn
    · exact List.mem_append_right _ (all_mem h n hn)
/-- bytes that came in: an address, the length, the capacity, what they are. -/
structure Sl where
  A : Option Addr
  c : Nat
  l : List UInt8
def Sl.val (s : Sl) : Value := .slice s.A (bl s.l).length s.c
structure Sl.ok (W : World) (s : Sl) : Prop where
  read : Kd.C (Kd.int .u8) W s.A (bl s.l).length (bl s.l)
  cap : (bl s.l).length ≤ s.c
  old : 0 < (bl s.l).length → ∀ x, s.A = some x → x.block < W.heap.size
  len : s.l.length ≤ 140737488351232
theorem bytes5 : Try.prog.bytesOf 5 = 1 := by kernel_rfl
theorem open_bytes {H : Type} {enc : TypeId × Value → H} {W : World} {base : Nat} {spare : Nat → Bool} {held : Bool} {v : Value} {d : DataW H} {ps : List MemPlace} {m : Nat}
    (h : DataW.trod enc Try.prog W base spare held m 27 [v] = some (d, ps)) (hw : ∀ n ∈ d.weights Try.prog 27, n ≤ 140737488351232) : ∃ s : Sl, v = s.val ∧ s.ok W := by
  rcases open_ints Try.underlying27 Try.underlying5 (by kernel_rfl) h with ⟨hcs, _⟩ | ⟨x, l, c, zs, hcs, _, hl, hm, hz, hx, hcell, hwz⟩
  · have hv : v = .slice none 0 0 := by simpa using hcs
    subst hv
    exact ⟨⟨none, 0, []⟩, rfl, Kd.C_of_reads (d := (0 : Int)) (h1 := fun _ => rfl) (ReadsInt.nil W .u8), Nat.le_refl _, fun h => by simp [bl] at h, Nat.zero_le _⟩
  · have hv : v = .slice (some x) l c := by simpa using hcs
    subst hv
    obtain ⟨hx, _⟩ := Prod.mk.inj hx
    subst hx
    have hl2 : l ≤ zs.length := by
      rw [hz]
      split
      · exact hl
      · exact Nat.le_refl _
    obtain ⟨L, hL⟩ := of_bytes (l := zs.take l) (fun z hz => hwz z (List.mem_of_mem_take hz))
    have hlen : (bl L).length = l := by rw [← hL, List.length_take]; omega
    have hrd : ReadsInt W .u8 (some x) (bl L).length (bl L) := by
      refine ⟨rfl, by rw [hlen]; exact Nat.le_trans hl hm, fun _ => ⟨x, rfl, fun j hj => ?_⟩⟩
      rw [hcell j (by omega), ← hL]
      simp [List.getElem?_take, show j < l by omega]
    refine ⟨⟨some x, c, L⟩, by simp [Sl.val, hlen], Kd.C_of_reads (d := (0 : Int)) (h1 := fun _ => rfl) hrd, by rw [hlen]; exact hl, fun hp y hy => ?_, ?_⟩
    · injection hy with hy
      subst hy
      have hp' : 0 < (bl L).length := hp
      have := World.block_lt_of_cell? W _ (hcell 0 (by omega))
      simpa [Addr.add] using this
    · have h1 := hw ((lits (H := H) .u8 (zs.take l)).length * 1 + (lits (H := H) .u8 (zs.drop l)).length * 1) (by
        unfold DataW.weights
        rw [Try.underlying27]
        refine List.mem_cons.2 (.inl ?_)
        show _ = ((lits (H := H) .u8 (zs.take l)).length + (lits (H := H) .u8 (zs.drop l)).length) * Try.prog.bytesOf 5
        rw [bytes5]
        simp [lits])
      have h2 : (lits (H := H) .u8 (zs.take l)).length = l := by simp [lits]; omega
      rw [bl_length] at hlen
      simp only [lits, List.length_map, List.length_take] at h1 h2
      show L.length ≤ _
      omega
theorem open_sl {H : Type} {enc : TypeId × Value → H} {W : World} {base : Nat} {spare : Nat → Bool} {held : Bool} {a : Option Addr} {len cap : Nat} {d : DataW H} {ps : List MemPlace}
    (h : DataW.Trod enc Try.prog W base spare held 27 (.slice a len cap) d ps) (hw : ∀ n ∈ d.weights Try.prog 27, n ≤ 140737488351232) : ∃ s : Sl, (a = s.A ∧ len = (bl s.l).length ∧ cap = s.c) ∧ s.ok W := by
  obtain ⟨m, hf⟩ := h
  obtain ⟨s, hs, hok⟩ := open_bytes (v := .slice a len cap) hf hw
  unfold Sl.val at hs
  injection hs with h1 h2 h3
  exact ⟨s, ⟨h1, h2, h3⟩, hok⟩
/-- a step. -/
structure OpR where
  two : Bool
  kind : Int
  n : Int
  s : Sl
structure OpR.at_ (W : World) (a : Addr) (i : Nat) (o : OpR) : Prop where
  c0 : W.cell? ((a.add (i * 4)).add 0) = some (.bool o.two)
  c1 : W.cell? ((a.add (i * 4)).add 1) = some (.int .i64 o.kind)
  c2 : W.cell? ((a.add (i * 4)).add 2) = some (.int .i64 o.n)
  c3 : W.cell? ((a.add (i * 4)).add 3) = some o.s.val
  ok : o.s.ok W
  rng : -9223372036854775808 ≤ o.n ∧ o.n ≤ 9223372036854775807
theorem cells29 : Try.prog.cellsOf 29 = 4 := by kernel_rfl
theorem cells3 : Try.prog.cellsOf 3 = 1 := by kernel_rfl
theorem cells4 : Try.prog.cellsOf 4 = 1 := by kernel_rfl
theorem cells27 : Try.prog.cellsOf 27 = 1 := by kernel_rfl
theorem rng64 {a : Int} (h : (Lit.int .i64 a).wf = true) : -9223372036854775808 ≤ a ∧ a ≤ 9223372036854775807 := by
  simpa [Lit.wf, IntKind.min, IntKind.max, IntKind.signed, IntKind.bits] using h
set_option maxRecDepth 100000 in
theorem open_op {H : Type} {enc : TypeId × Value → H} {W : World} {base : Nat} {spare : Nat → Bool} {held : Bool} {m i : Nat} {a : Addr} {y : DataW H × List MemPlace}
    (h : (W.cells? base (a.add (i * 4)) 4).bind (DataW.trod enc Try.prog W base spare held m 29) = some y) (hw : ∀ n ∈ y.1.weights Try.prog 29, n ≤ 140737488351232) : ∃ o : OpR, o.at_ W a i := by
  obtain ⟨cs, hcs, hy⟩ := Option.bind_eq_some_iff.1 h
  have hcs' := World.cells?_some hcs
  cases m with
  | zero => simp [DataW.trod] at hy
  | succ m =>
    rw [DataW.trod_step] at hy
    unfold DataW.trodStep at hy
    obtain ⟨_, hlen, hcell⟩ := hcs'
    obtain ⟨c0, c1, c2, c3, rfl⟩ : ∃ c0 c1 c2 c3, cs = [c0, c1, c2, c3] := by
      match cs, hlen with
      | [x, y, z, u], _ => exact ⟨x, y, z, u, rfl⟩
    simp only [Try.underlying29, cells29, cells3, cells4, cells27] at hy
    rw [if_pos (by rfl)] at hy
    simp only [Option.map_eq_some_iff] at hy
    obtain ⟨ys, hm, rfl⟩ := hy
    simp only [List.mapM_cons, List.mapM_nil, bind, Option.bind_eq_some_iff, pure, Option.some.injEq] at hm
    obtain ⟨y0, h0, y1, ⟨y2, h2, y3, ⟨y4, h4, y5, ⟨y6, h6, y7, e7, e6⟩, e4⟩, e3⟩, e1⟩ := hm
    subst e1
    simp only [cells3, cells4, cells27, List.drop_zero, List.drop_succ_cons, List.take_succ_cons, List.take_zero] at h0 h2 h4 h6
    obtain ⟨b, eb, _⟩ := DataW.trod_bool Try.underlying4 h0
    obtain ⟨kd, ek, _, wk⟩ := DataW.trod_int Try.underlying3 h2
    obtain ⟨n, en, _, wn⟩ := DataW.trod_int Try.underlying3 h4
    subst e3
    subst e4
    subst e6
    subst e7
    obtain ⟨s, es, hs⟩ := open_bytes h6 (fun n hn => hw n (by
      unfold DataW.weights
      rw [Try.underlying29]
      exact DataW.weights_mem_each (j := 3) (t := 27) (d := y6.1) rfl rfl n hn))
    have e0 : c0 = .bool b := by simpa using eb
    have e1 : c1 = .int .i64 kd := by simpa using ek
    have e2 : c2 = .int .i64 n := by simpa using en
    subst e0
    subst e1
    subst e2
    subst es
    exact ⟨⟨b, kd, n, s⟩, hcell 0 (by omega), hcell 1 (by omega), hcell 2 (by omega), hcell 3 (by omega), hs, rng64 wn⟩
/-- a script of steps, in memory. -/
structure Script (W : World) (a : Option Addr) (len : Nat) (ops : List OpR) : Prop where
  size : ops.length = len
  max : len ≤ 140737488351232
  at_ : 0 < len → ∃ x, a = some x ∧ x.block < W.heap.size ∧ ∀ i (hi : i < ops.length), ops[i].at_ W x i
theorem bytes29 : Try.prog.bytesOf 29 = 48 := by kernel_rfl
set_option maxRecDepth 100000 in
theorem open_script {H : Type} {enc : TypeId × Value → H} {W : World} {base : Nat} {spare : Nat → Bool} {held : Bool} {a : Option Addr} {len cap : Nat} {d : DataW H} {ps : List MemPlace}
    (h : DataW.Trod enc Try.prog W base spare held 22 (.slice a len cap) d ps) (hw : ∀ n ∈ d.weights Try.prog 22, n ≤ 140737488351232) : ∃ ops, Script W a len ops := by
  obtain ⟨m, hf⟩ := h
  cases m with
  | zero => simp [DataW.trod] at hf
  | succ m =>
    rw [DataW.trod_step] at hf
    unfold DataW.trodStep at hf
    simp only [Value.cells] at hf
    rw [Try.underlying22] at hf
    cases a with
    | none =>
      have hz : len = 0 := by
        by_cases hl : len = 0
        · exact hl
        · exfalso
          cases len with
          | zero => exact hl rfl
          | succ n => cases cap <;> simp at hf
      subst hz
      exact ⟨[], rfl, Nat.zero_le _, fun h => by omega⟩
    | some x =>
      simp only [cells29] at hf
      split at hf
      · obtain ⟨elems, hel, hf⟩ := Option.bind_eq_some_iff.1 hf
        obtain ⟨rest, _, hd⟩ := Option.map_eq_some_iff.1 hf
        obtain ⟨hd, _⟩ := Prod.mk.inj hd
        subst hd
        obtain ⟨h1, h2⟩ := mapM_at hel
        rw [List.length_range] at h1
        have hwe : ∀ n, n ∈ ((elems.map (·.1)).length + (rest.map (·.1)).length) * Try.prog.bytesOf 29 :: (DataW.weightsAll Try.prog 29 (elems.map (·.1)) ++ DataW.weightsAll Try.prog 29 (rest.map (·.1))) → n ≤ 140737488351232 := fun n hn => hw n (by
          unfold DataW.weights
          rw [Try.underlying22]
          exact hn)
        obtain ⟨ops, g1, g2⟩ := pick (fun i (o : OpR) (y : DataW H × List MemPlace) => o.at_ W x i) elems 0 (fun j hj => by
          have h3 := h2 j (by rw [List.length_range]; omega) hj
          rw [List.getElem_range] at h3
          rw [Nat.zero_add]
          exact open_op h3 (fun n hn => hwe n (List.mem_cons_of_mem _ (List.mem_append_left _ (all_mem (List.mem_map_of_mem (f := (·.1)) (List.getElem_mem hj)) n hn)))))
        refine ⟨ops, by omega, ?_, fun hp => ⟨x, rfl, ?_, fun i hi => ?_⟩⟩
        · have h5 := hwe _ (List.mem_cons_self ..)
          rw [bytes29, List.length_map] at h5
          omega
        · have h4 := (g2 0 (by omega) (by omega)).c0
          have := World.block_lt_of_cell? W _ h4
          simpa [Addr.add] using this
        · have h5 := g2 i (by omega) hi
          rw [Nat.zero_add] at h5
          exact h5
      · simp at hf
theorem at_add (b o j : Nat) : (⟨b, o, none⟩ : Addr).add j = ⟨b, o + j, none⟩ := by
  by_cases h : j = 0 <;> simp [Addr.add, h]
/-- a step's cells, wherever the script lies. -/
theorem Script.cells {W w : World} {a : Option Addr} {len : Nat} {ops : List OpR} (h : Script W a len ops) (hb : Below W.heap.size W w) (k : Nat) (hk : k < len) : ∃ b o, a = some ⟨b, o, none⟩ ∧ ∃ q : OpR, ops[k]? = some q ∧
    w.cell? ⟨b, o + k * 4, none⟩ = some (.bool q.two) ∧ w.cell? ⟨b, o + k * 4 + 1, none⟩ = some (.int .i64 q.kind) ∧ w.cell? ⟨b, o + k * 4 + 2, none⟩ = some (.int .i64 q.n) ∧ w.cell? ⟨b, o + k * 4 + 3, none⟩ = some q.s.val ∧ q.s.ok W ∧ (-9223372036854775808 ≤ q.n ∧ q.n ≤ 9223372036854775807) := by
  obtain ⟨x, rfl, hxb, hops⟩ := h.at_ (by omega)
  have hl := h.size
  have hop := hops k (by omega)
  obtain ⟨xb, xo, spot⟩ := x
  have hspot : spot = none := by simpa [Addr.add] using World.cell?_spot (hops 0 (by omega)).c0
  subst hspot
  refine ⟨xb, xo, rfl, ops[k]'(by omega), List.getElem?_eq_getElem (by omega), ?_, ?_, ?_, ?_, hop.ok, hop.rng⟩
  · exact (hb.cell (p := ⟨xb, xo + k * 4, none⟩) hxb).trans (by have := hop.c0; rwa [at_add, at_add, Nat.add_zero] at this)
  · exact (hb.cell (p := ⟨xb, xo + k * 4 + 1, none⟩) hxb).trans (by have := hop.c1; rwa [at_add, at_add] at this)
  · exact (hb.cell (p := ⟨xb, xo + k * 4 + 2, none⟩) hxb).trans (by have := hop.c2; rwa [at_add, at_add] at this)
  · exact (hb.cell (p := ⟨xb, xo + k * 4 + 3, none⟩) hxb).trans (by have := hop.c3; rwa [at_add, at_add] at this)
end Go.Proofs.Ytdmliaodacaefaa.Ops
