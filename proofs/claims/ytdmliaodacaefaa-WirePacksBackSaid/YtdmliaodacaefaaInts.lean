/- A []int that came in. -/
import Derived.Test.YtdmliaodacaefaaOps
import Derived.Test.YtdmliaodacaefaaPck
import Derived.SizedLaws
import Derived.ProofKit
import Derived.ChangeOld
namespace Go.Proofs.Ytdmliaodacaefaa.Ops
open Go.ChangeShapes Go.WideShapes Go.RowKit Go.Proofs.YtdmliaodacaefaaW.PrintWords Go.Proofs.Ytdmliaodacaefaa.Bridge
open Go.RowKit Go.Proofs.YtdmliaodacaefaaW.PrintWords Go.Proofs.YtdmliaodacaefaaW.PrintLast Go.Proofs.YtdmliaodacaefaaW.PrintMore Go.Proofs.Ytdmliaodacaefaa.Mem Go.Proofs.Ytdmliaodacaefaa.Sep Go.Proofs.Ytdmliaodacaefaa.Bridge Go.Proofs.Ytdmliaodacaefaa.Shape
set_option linter.unusedVariables false
set_option linter.unusedSimpArgs false
structure Ns where
  A : Option Addr
  c : Nat
  l : List Int
def Ns.val (s : Ns) : Value := .slice s.A s.l.length s.c
structure Ns.ok (W : World) (s : Ns) : Prop where
  read : Kd.C (Kd.int .i64) W s.A s.l.length s.l
  cap : s.l.length ≤ s.c
  len : s.l.length * 8 ≤ 140737488351232
  fit : Fit s.l
theorem bytes3 : Try.prog.bytesOf 3 = 8 := by kernel_rfl
theorem fit_of {l : List Int} (h : ∀ x ∈ l, (Lit.int .i64 x).wf = true) : Fit l := by
  exact fun x hx => rng64 (h x hx)
theorem open_ints58 {H : Type} {enc : TypeId × Value → H} {W : World} {base : Nat} {spare : Nat → Bool} {held : Bool} {v : Value} {d : DataW H} {ps : List MemPlace} {m : Nat}
    (h : DataW.trod enc Try.prog W base spare held m 58 [v] = some (d, ps)) (hw : ∀ n ∈ d.weights Try.prog 58, n ≤ 140737488351232) : ∃ s : Ns, v = s.val ∧ s.ok W := by
  rcases open_ints Try.underlying58 Try.underlying3 (by kernel_rfl) h with ⟨hcs, _⟩ | ⟨x, l, c, zs, hcs, _, hl, hm, hz, hx, hcell, hwz⟩
  · have hv : v = .slice none 0 0 := by simpa using hcs
    subst hv
    exact ⟨⟨none, 0, []⟩, rfl, Kd.C_of_reads (d := (0 : Int)) (h1 := fun _ => rfl) (ReadsInt.nil W .i64), Nat.le_refl _, Nat.zero_le _, fun x hx => by cases hx⟩
  · have hv : v = .slice (some x) l c := by simpa using hcs
    subst hv
    obtain ⟨hx, _⟩ := Prod.mk.inj hx
    subst hx
    have hl2 : l ≤ zs.length := by
      rw [hz]
      split
      · exact hl
      · exact Nat.le_refl _
    have hlen : (zs.take l).length = l := by rw [List.length_take]; omega
    have hrd : ReadsInt W .i64 (some x) (zs.take l).length (zs.take l) := by
      refine ⟨rfl, by rw [hlen]; exact Nat.le_trans hl hm, fun _ => ⟨x, rfl, fun j hj => ?_⟩⟩
      rw [hcell j (by omega)]
      simp [List.getElem?_take, show j < l by omega]
    refine ⟨⟨some x, c, zs.take l⟩, by simp [Ns.val, hlen], Kd.C_of_reads (d := (0 : Int)) (h1 := fun _ => rfl) hrd, by show (zs.take l).length ≤ c; rw [hlen]; exact hl, ?_, fit_of (fun z hz => hwz z (List.mem_of_mem_take hz))⟩
    have h1 := hw (((lits (H := H) .i64 (zs.take l)).length + (lits (H := H) .i64 (zs.drop l)).length) * 8) (by
      unfold DataW.weights
      rw [Try.underlying58]
      refine List.mem_cons.2 (.inl ?_)
      show _ = ((lits (H := H) .i64 (zs.take l)).length + (lits (H := H) .i64 (zs.drop l)).length) * Try.prog.bytesOf 3
      rw [bytes3])
    have h2 : (lits (H := H) .i64 (zs.take l)).length = (zs.take l).length := by simp [lits]
    show (zs.take l).length * 8 ≤ _
    omega
theorem open_ns {H : Type} {enc : TypeId × Value → H} {W : World} {base : Nat} {spare : Nat → Bool} {held : Bool} {a : Option Addr} {len cap : Nat} {d : DataW H} {ps : List MemPlace}
    (h : DataW.Trod enc Try.prog W base spare held 58 (.slice a len cap) d ps) (hw : ∀ n ∈ d.weights Try.prog 58, n ≤ 140737488351232) : ∃ s : Ns, (a = s.A ∧ len = s.l.length ∧ cap = s.c) ∧ s.ok W := by
  obtain ⟨m, hf⟩ := h
  obtain ⟨s, hs, hok⟩ := open_ints58 (v := .slice a len cap) hf hw
  unfold Ns.val at hs
  injection hs with h1 h2 h3
  exact ⟨s, ⟨h1, h2, h3⟩, hok⟩
end Go.Proofs.Ytdmliaodacaefaa.Ops
