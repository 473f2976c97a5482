/- Of every text and bytes, Unpack's numbers and error are the document's, an error comes with no number, and the bytes that were handed in stand as they were: WireUnpacks returns true for every input, and what was handed in reads as before. No condition. -/
import Derived.Test.YtdmliaodacaefaaRows
import Derived.Test.YtdmliaodacaefaaUnpacksWalk
import Derived.WalkKit
import Derived.ProofKit
import Derived.OpenShut
import Derived.ShutString
import Derived.ChangeOld
import Derived.Below
import Derived.SizedLaws
namespace Go.Proofs.Ytdmliaodacaefaa.wireUnpacks
open Go.ChangeShapes Go.WideShapes Go.ChangeAt Go.RowKit
open Go.ChangeMaps (open_string shut_string)
set_option linter.unusedVariables false
theorem own : ownKnob Try.prog.godebug = none := by kernel_rfl
theorem laidOut : laidOutB Try.prog = true := by kernel_rfl
set_option maxRecDepth 100000 in
theorem lifted (os : Os) (started : os.Started) (H : Type) (enc : TypeId × Value → H) :
    ReturnsInHanded {} Try.checked os 8 .any (Rows.wireUnpacksSpec.pre6 enc Try.prog Try.f8 Rows.wireUnpacksRow.domain false) (Rows.wireUnpacksSpec.post enc Try.prog Try.f8 false true false false) := by
  refine returnsInHanded_of_change_sized (C := Try.checked) own started (by kernel_rfl) Try.func8
    (ChangeSpec.witness6 (enc := enc) (C := Try.checked) false ⟨#[], #[.string ByteArray.empty, .slice none 0 0], []⟩ 8 (by kernel_rfl) (by kernel_rfl) (by kernel_rfl) (by kernel_rfl)) ?_
  intro W base args ds gs before hval0 hW hcnd hsz0 _
  have hsz : (DataW.weightsEach Try.prog (Try.f8.params.toList ++ Rows.wireUnpacksSpec.plain.varTypes Try.prog) (ds ++ gs)).all (· ≤ reachBytes) = true := hsz0
  have hval : ∀ (j : Nat) t v, Try.f8.params[j]? = some t → args[j]? = some v → Value.okWide Try.prog W .any base t v := hval0
  have hW' := hW
  obtain ⟨p, q, hA0, hV, rfl, hfz, hnd⟩ := hW
  have hA : DataW.TrodAll enc Try.prog W 0 (fun _ => true) true Try.f8.params.toList args.toList ds p := hA0
  rw [Try.params8] at hA hval hsz
  obtain ⟨v0, vs0, d0, ds0, p0, q0, hargs, rfl, rfl, h0, r0⟩ := trodAll_cons hA
  obtain ⟨v1, vs1, d1, ds1, p1, q1, rfl, rfl, rfl, h1, r1⟩ := trodAll_cons r0
  obtain ⟨rfl, rfl, rfl⟩ := trodAll_nil r1
  obtain rfl : args = #[v0, v1] := by cases args; simp_all
  obtain ⟨rfl, rfl⟩ := trodVars_none hV
  have hww : ∀ (j : Nat) (t : TypeId) (d : DataW H), [9, 27][j]? = some t → [d0, d1][j]? = some d → ∀ n ∈ d.weights Try.prog t, n ≤ 140737488351232 := by
    intro j t d ht hd n hn
    have h1 := List.all_eq_true.1 hsz n (DataW.weights_mem_each (j := j) (by simpa using (List.getElem?_append_left (l₂ := Rows.wireUnpacksSpec.plain.varTypes Try.prog) (by exact (List.getElem?_eq_some_iff.1 ht).1)).trans ht) (by simpa using hd) n hn)
    exact of_decide_eq_true h1
  obtain ⟨a0, rfl, rfl, rfl, w0⟩ := open_string Try.underlying9 (hval 0 9 v0 rfl rfl) h0
  obtain ⟨a1, len1, cap1, rfl⟩ := okWide_slice Try.underlying27 (hval 1 27 v1 rfl rfl)
  have k1 := h1
  have lt1 : ∀ x ∈ p1, x.block < W.heap.size := by obtain ⟨m, hm⟩ := k1; exact DataW.trod_lt m _ _ _ hm
  obtain ⟨s1, ⟨rfl, rfl, rfl⟩, w1⟩ := Ops.open_sl k1 (hww 1 27 d1 rfl rfl)
  have hz0 : a0.size ≤ 140737488351232 := hww 0 9 _ rfl rfl a0.size (List.mem_singleton.2 rfl)
  clear hA0 hval0 hsz0 hsz
  refine (Shape.unpacks_walk a0 hz0 s1.A s1.c s1.l W w1).mono fun e W' ⟨he, bel⟩ => ?_
  subst he
  exact ⟨_, rfl, _, _, _, [], _, [], hW', trodAll_mk1 (shut_bool Try.underlying4 _), (trodAll_cons_mk (shut_string Try.underlying9 w0) (trodAll_cons_mk (Below.trod laidOut (by kernel_rfl) (of_decide_eq_true (by kernel_rfl)) k1 bel lt1) trodAll_mk0)), rfl, bel.frame _, fun h => by cases h⟩
theorem over : Rows.wireUnpacksRow.holds Try.pinned (OpenSpec.ofChange Rows.wireUnpacksSpec) :=
  OpenClaim.holds_of_wide 8 Try.f8 rfl rfl rfl rfl rfl rfl rfl ⟨rfl, rfl, rfl, rfl, rfl⟩ rfl rfl rfl rfl rfl (by kernel_rfl) Try.func8 (by kernel_rfl)
    (of_decide_eq_true (by kernel_rfl)) (by unfold Func.isWrapper; first | (rw [if_pos (by decide +kernel)]; kernel_rfl) | (rw [if_neg (by decide +kernel)]; exact ⟨rfl, rfl⟩))
    (fun os started H enc _ => lifted os started H enc)
theorem proved : Rows.WireUnpacksSaid := over
#print axioms proved
end Go.Proofs.Ytdmliaodacaefaa.wireUnpacks
namespace Go.Proofs.Ytdmliaodacaefaa
/-- The row, under a short name, for the claim. -/
theorem wireUnpacks_holds : Rows.WireUnpacksSaid := wireUnpacks.proved
end Go.Proofs.Ytdmliaodacaefaa

