/- CrcAssociates returns true for every three numbers and every two lengths, and what was handed in reads as before. No condition. -/
import Derived.Test.YtcfnpippmdijaaaRows
import Derived.Test.YtcfnpippmdijaaaAssoc
import Derived.WalkKit
import Derived.ProofKit
import Derived.OpenShut
import Derived.ShutString
import Derived.ChangeOld
import Derived.Below
import Derived.SizedLaws
import Derived.WideKeyArr2
namespace Go.Proofs.Ytcfnpippmdijaaa.crcAssociates
open Go.ChangeShapes Go.WideShapes Go.ChangeAt Go.RowKit
open Go.ChangeMaps (open_string shut_string)
theorem own : ownKnob Try.prog.godebug = none := by kernel_rfl
theorem laidOut : laidOutB Try.prog = true := by kernel_rfl
theorem okWide3 {r : Reach} {W : World} {b0 : Nat} {v : Value} (h : Value.okWide Try.prog W r b0 56 v) : ∃ xs : Array Value, v = .agg xs ∧ xs.size = 3 := by
  simp only [Value.okWide, Try.underlying56] at h
  obtain ⟨cs, h1, h2, _⟩ := h
  exact ⟨cs, h1, by rw [h2]; kernel_rfl⟩
theorem open3 {H : Type} {enc : TypeId × Value → H} {W : World} {base : Nat} {sp : Nat → Bool} {held : Bool} {xs : Array Value} (hn : xs.size = 3) {d : DataW H} {ps : List MemPlace} (hd : DataW.Trod enc Try.prog W base sp held 56 (.agg xs) d ps) :
    ∃ a b c : Int, xs = #[.int .u32 a, .int .u32 b, .int .u32 c] ∧ (Lit.int .u32 a).wf = true ∧ (Lit.int .u32 b).wf = true ∧ (Lit.int .u32 c).wf = true := by
  obtain ⟨fuel, hf⟩ := hd
  obtain ⟨x, y, z, rfl⟩ : ∃ x y z, xs = #[x, y, z] := by
    rcases xs with ⟨l⟩
    match l, hn with
    | [x, y, z], _ => exact ⟨x, y, z, rfl⟩
  cases fuel with
  | zero => simp [DataW.trod] at hf
  | succ m =>
    rw [DataW.trod_step] at hf
    unfold DataW.trodStep at hf
    have hc : Try.prog.cellsOf 22 = 1 := by kernel_rfl
    simp only [Try.underlying56, Value.cells, hc] at hf
    rw [if_pos (by rfl)] at hf
    simp only [Option.map_eq_some_iff] at hf
    obtain ⟨ys, hy, _⟩ := hf
    rw [show List.range 3 = [0, 1, 2] from rfl] at hy
    simp only [List.mapM_cons, List.mapM_nil, bind, Option.bind_eq_some_iff, pure, Option.some.injEq] at hy
    obtain ⟨y0, h0, y1, ⟨y2, h2, ⟨y3, ⟨y4, h4, _⟩, _⟩⟩, _⟩ := hy
    obtain ⟨a, ea, _, wa⟩ := DataW.trod_int Try.underlying22 h0
    obtain ⟨b, eb, _, wb⟩ := DataW.trod_int Try.underlying22 h2
    obtain ⟨c, ec, _, wc⟩ := DataW.trod_int Try.underlying22 h4
    simp at ea eb ec
    subst ea
    subst eb
    subst ec
    exact ⟨a, b, c, rfl, wa, wb, wc⟩
set_option maxRecDepth 100000 in
theorem lifted (os : Os) (started : os.Started) (H : Type) (enc : TypeId × Value → H) :
    ReturnsInHanded {} Try.checked os 12 .any (Rows.crcAssociatesSpec.pre6 enc Try.prog Try.f12 Rows.crcAssociatesRow.domain false) (Rows.crcAssociatesSpec.post enc Try.prog Try.f12 false true false false) := by
  refine returnsInHanded_of_change_sized (C := Try.checked) own started (by kernel_rfl) Try.func12
    (ChangeSpec.witness6 (enc := enc) (C := Try.checked) false ⟨#[], #[.agg #[.int .u32 0, .int .u32 0, .int .u32 0], .int .i64 0, .int .i64 0], []⟩ 8 (by kernel_rfl) (by kernel_rfl) (by kernel_rfl) (by kernel_rfl)) ?_
  intro W base args ds gs before hval0 hW hcnd hsz0 _
  have hval : ∀ (j : Nat) t v, Try.f12.params[j]? = some t → args[j]? = some v → Value.okWide Try.prog W .any base t v := hval0
  have hW' := hW
  obtain ⟨p, q, hA0, hV, rfl, hfz, hnd⟩ := hW
  have hA : DataW.TrodAll enc Try.prog W 0 (fun _ => true) true Try.f12.params.toList args.toList ds p := hA0
  rw [Try.params12] at hA hval
  obtain ⟨v0, vs0, d0, ds0, p0, q0, hargs, rfl, rfl, h0, r0⟩ := trodAll_cons hA
  obtain ⟨v1, vs1, d1, ds1, p1, q1, rfl, rfl, rfl, h1, r1⟩ := trodAll_cons r0
  obtain ⟨v2, vs2, d2, ds2, p2, q2, rfl, rfl, rfl, h2, r2⟩ := trodAll_cons r1
  obtain ⟨rfl, rfl, rfl⟩ := trodAll_nil r2
  obtain rfl : args = #[v0, v1, v2] := by cases args; simp_all
  obtain ⟨rfl, rfl⟩ := trodVars_none hV
  obtain ⟨xs, rfl, hn⟩ := okWide3 (hval 0 56 v0 rfl rfl)
  have k0 := h0
  have lt0 : ∀ x ∈ p0, x.block < W.heap.size := by obtain ⟨m, hm⟩ := k0; exact DataW.trod_lt m _ _ _ hm
  obtain ⟨a, b, c, rfl, wa, wb, wc⟩ := open3 hn h0
  obtain ⟨a1, rfl, rfl, rfl, w1⟩ := open_int Try.underlying3 (hval 1 3 v1 rfl rfl) h1
  obtain ⟨a2, rfl, rfl, rfl, w2⟩ := open_int Try.underlying3 (hval 2 3 v2 rfl rfl) h2
  clear hA0 hval0 hsz0
  obtain ⟨A, rfl⟩ := Bridge.of_u32 wa
  obtain ⟨B, rfl⟩ := Bridge.of_u32 wb
  obtain ⟨C, rfl⟩ := Bridge.of_u32 wc
  refine (Assoc.walk A B C a1 a2 W).mono fun e W' ⟨he, bel⟩ => ?_
  subst he
  exact ⟨_, rfl, _, _, _, [], _, [], hW', trodAll_mk1 (shut_bool Try.underlying4 _), (trodAll_cons_mk (Below.trod laidOut (by kernel_rfl) (of_decide_eq_true (by kernel_rfl)) k0 bel lt0) (trodAll_cons_mk (shut_int Try.underlying3 w1) (trodAll_cons_mk (shut_int Try.underlying3 w2) trodAll_mk0))), rfl, bel.frame _, fun h => by cases h⟩
theorem over : Rows.crcAssociatesRow.holds Try.pinned (OpenSpec.ofChange Rows.crcAssociatesSpec) :=
  OpenClaim.holds_of_wide 12 Try.f12 rfl rfl rfl rfl rfl rfl rfl ⟨rfl, rfl, rfl, rfl, rfl⟩ rfl rfl rfl rfl rfl (by kernel_rfl) Try.func12 (by kernel_rfl)
    (of_decide_eq_true (by kernel_rfl)) (by unfold Func.isWrapper; first | (rw [if_pos (by decide +kernel)]; kernel_rfl) | (rw [if_neg (by decide +kernel)]; exact ⟨rfl, rfl⟩))
    (fun os started H enc _ => lifted os started H enc)
theorem proved : Rows.CrcAssociatesSaid := over
#print axioms proved
end Go.Proofs.Ytcfnpippmdijaaa.crcAssociates
namespace Go.Proofs.Ytcfnpippmdijaaa
/-- The row, under a short name, for the claim. -/
theorem crcAssociates_holds : Rows.CrcAssociatesSaid := crcAssociates.proved
end Go.Proofs.Ytcfnpippmdijaaa
