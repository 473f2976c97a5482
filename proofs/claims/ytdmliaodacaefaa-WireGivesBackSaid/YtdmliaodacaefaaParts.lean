/- What a part's bytes are; a writer that takes parts, a reader that meets them. No program in sight. -/
import Derived.Test.YtdmliaodacaefaaBurst
import Derived.Test.YtdmliaodacaefaaLay
import Derived.Test.YtdmliaodacaefaaPWirex2
namespace Go.Proofs.Ytdmliaodacaefaa.Gb
open Go.RowKit Go.Proofs.YtdmliaodacaefaaW.PrintWords Go.Proofs.YtdmliaodacaefaaW.PrintLast Go.Proofs.YtdmliaodacaefaaW.PrintMore Go.Proofs.Ytdmliaodacaefaa.Mem Go.Proofs.Ytdmliaodacaefaa.Sep Go.Proofs.Ytdmliaodacaefaa.Bridge Go.Proofs.Ytdmliaodacaefaa.Wr Go.Proofs.Ytdmliaodacaefaa.Ops Go.Proofs.Ytdmliaodacaefaa.Rd Go.Proofs.Ytdmliaodacaefaa.Bu
set_option linter.unusedVariables false
set_option linter.unusedSimpArgs false
set_option linter.unusedSectionVars false
def part (kind n : Int) (l : List UInt8) : List UInt8 :=
  if kind = 1 then little 1 (n % 256).toNat else if kind = 2 then little 2 (n % 65536).toNat else if kind = 3 then little 4 (n % 4294967296).toNat else if kind = 4 then little 8 (n % 18446744073709551616).toNat
  else if kind = 5 then l else if kind = 6 then Bu.mark l l else []
def partOf (o : OpR) : List UInt8 := part o.kind o.n o.s.l
def cat (ops : List OpR) (k : Nat) : List UInt8 := ((ops.take k).map partOf).flatten
theorem cat_zero (ops : List OpR) : cat ops 0 = [] := rfl
theorem cat_succ (ops : List OpR) (k : Nat) (o : OpR) (h : ops[k]? = some o) : cat ops (k + 1) = cat ops k ++ (partOf o) := by
  unfold cat; rw [List.take_add_one, h]; simp
theorem cat_le (ops : List OpR) (k : Nat) : ∃ post, cat ops ops.length = cat ops k ++ post := by
  refine ⟨((ops.drop k).map partOf).flatten, ?_⟩
  unfold cat
  rw [List.take_length, ← List.flatten_append, ← List.map_append, List.take_append_drop]
theorem cat_mono (ops : List OpR) (k : Nat) (o : OpR) (h : ops[k]? = some o) : (cat ops k).length + (partOf o).length ≤ (cat ops ops.length).length := by
  obtain ⟨post, e⟩ := cat_le ops (k + 1)
  rw [e, cat_succ ops k o h, List.length_append, List.length_append]; omega
theorem put_fits {s : WS} (he : s.err = 0) (l : List UInt8) (hl : s.out.length + l.length ≤ s.lim) : s.put l = s.with_ (s.out ++ l) := by
  unfold WS.put; rw [if_pos he, if_pos hl]
theorem num_fits {s : WS} (he : s.err = 0) (v : Int) (m n : Nat) (h0 : 0 ≤ v) (h1 : v ≤ m) (hm : m < 18446744073709551616) (hl : s.out.length + n ≤ s.lim) : s.num v m n = s.with_ (s.out ++ little n v.toNat) := by
  unfold WS.num; rw [if_neg (by omega), Int.emod_eq_of_lt h0 (by omega), put_fits he _ (by rw [little_length]; exact hl)]
theorem run_fits {s : WS} (he : s.err = 0) (ho : s.opn = []) (l : List UInt8) (hl : s.out.length + (l.length + 4) ≤ s.lim) : (s.open_.put l).seal = s.with_ (s.out ++ Bu.mark l l) := by
  obtain ⟨out, lim, opn, err⟩ := s
  simp only at he ho hl
  subst he ho
  have h0 : (⟨out, lim, [], 0⟩ : WS).open_ = ⟨out, lim, [out.length], 0⟩ := by unfold WS.open_; rfl
  rw [h0, put_fits (s := ⟨out, lim, [out.length], 0⟩) rfl l (by show out.length + l.length ≤ lim; omega)]
  unfold WS.seal WS.with_
  rw [if_pos rfl, if_neg (by simp), if_pos (by show (out ++ l).length + 4 ≤ lim; rw [List.length_append]; omega)]
  unfold WS.shut WS.sealed Bu.mark
  simp
theorem lay_part {s : WS} (he : s.err = 0) (ho : s.opn = []) (kind n : Int) (l : List UInt8) (hl : s.out.length + (part kind n l).length ≤ s.lim) : s.lay kind n l = s.with_ (s.out ++ part kind n l) := by
  unfold WS.lay
  unfold part at hl ⊢
  by_cases h1 : kind = 1
  · simp only [if_pos h1] at hl ⊢; exact num_fits he _ _ _ (by omega) (by omega) (by omega) (by rwa [little_length] at hl)
  simp only [if_neg h1] at hl ⊢
  by_cases h2 : kind = 2
  · simp only [if_pos h2] at hl ⊢; exact num_fits he _ _ _ (by omega) (by omega) (by omega) (by rwa [little_length] at hl)
  simp only [if_neg h2] at hl ⊢
  by_cases h3 : kind = 3
  · simp only [if_pos h3] at hl ⊢; exact put_fits he _ hl
  simp only [if_neg h3] at hl ⊢
  by_cases h4 : kind = 4
  · simp only [if_pos h4] at hl ⊢; exact put_fits he _ hl
  simp only [if_neg h4] at hl ⊢
  by_cases h5 : kind = 5
  · simp only [if_pos h5] at hl ⊢; exact put_fits he _ hl
  simp only [if_neg h5] at hl ⊢
  by_cases h6 : kind = 6
  · simp only [if_pos h6] at hl ⊢; exact run_fits he ho _ (by rwa [Bu.mark_length] at hl)
  simp only [if_neg h6] at hl ⊢
  unfold WS.with_; simp
section
variable {s : RS} {pre x post : List UInt8} (he : s.err = 0) (hi : s.inp = pre ++ x ++ post) (hp : s.pos = pre.length)
include he hi hp
theorem left_part : s.left = x.length + post.length := by
  unfold RS.left; rw [hi, hp, List.length_append, List.length_append]; omega
theorem has_part (n : Nat) (h : n ≤ x.length) : s.hasB (n : Int) = true := by
  unfold RS.hasB; rw [left_part he hi hp]; exact decide_eq_true ⟨he, by omega, by omega⟩
theorem next_part : s.next x.length = x := by
  unfold RS.next; rw [hi, hp, List.append_assoc, List.drop_left, List.take_left]
theorem takeS_part : s.takeS (x.length : Int) = s.go (s.pos + x.length) := by
  unfold RS.takeS; rw [if_pos (has_part he hi hp _ (Nat.le_refl _))]; simp
theorem takeV_part : s.takeV x.length = worth x := by
  unfold RS.takeV; rw [if_pos (has_part he hi hp _ (Nat.le_refl _)), next_part he hi hp]
theorem blockL_part : s.blockL (x.length : Int) = x := by
  unfold RS.blockL; rw [if_pos (has_part he hi hp _ (Nat.le_refl _)), Int.toNat_natCast, next_part he hi hp]
end
section
variable {s : RS} {pre l post : List UInt8} (he : s.err = 0) (hi : s.inp = pre ++ Bu.mark l l ++ post) (hp : s.pos = pre.length)
include he hi hp
theorem next_run1 : s.next l.length = l := by
  unfold RS.next; rw [hi, hp, List.append_assoc, List.drop_left]; unfold Bu.mark; rw [List.append_assoc, List.take_left]
theorem next_run2 : (s.go (s.pos + l.length)).next 4 = little 4 (CrcM.sum l).toNat := by
  unfold RS.next RS.go
  simp only
  rw [hi, hp, List.append_assoc, ← List.drop_drop, List.drop_left]
  unfold Bu.mark
  rw [List.append_assoc, List.drop_left, List.take_left' (by rw [little_length])]
theorem sealedS_part : s.sealedS (l.length : Int) = s.go (s.pos + (l.length + 4)) := by
  unfold RS.sealedS
  rw [if_pos (has_part he hi hp _ (by rw [Bu.mark_length]; omega)), left_part he hi hp, Bu.mark_length, if_neg (by omega), Int.toNat_natCast, next_run1 he hi hp, next_run2 he hi hp, Bu.worth_sum, if_pos rfl, Nat.add_assoc]
theorem sealedL_part : s.sealedL (l.length : Int) = l := by
  unfold RS.sealedL
  rw [if_pos (has_part he hi hp _ (by rw [Bu.mark_length]; omega)), left_part he hi hp, Bu.mark_length, if_neg (by omega), Int.toNat_natCast, next_run1 he hi hp, next_run2 he hi hp, Bu.worth_sum, if_pos rfl]
end
theorem width_part (two : Bool) (kind n : Int) (l : List UInt8) (hl : l.length ≤ 140737488351232) : PWire.amberlaw02_width.f two kind n (bl l) = some (((part kind n l).length : Nat) : Int) := by
  unfold PWire.amberlaw02_width.f part
  by_cases h1 : kind = 1
  · simp only [if_pos h1, little_length]; rfl
  simp only [if_neg h1]
  by_cases h2 : kind = 2
  · simp only [if_pos h2, little_length]; rfl
  simp only [if_neg h2]
  by_cases h3 : kind = 3
  · simp only [if_pos h3, little_length]; rfl
  simp only [if_neg h3]
  by_cases h4 : kind = 4
  · simp only [if_pos h4, little_length]; rfl
  simp only [if_neg h4]
  by_cases h5 : kind = 5
  · simp only [if_pos h5, bl_length]
  simp only [if_neg h5]
  by_cases h6 : kind = 6
  · simp only [if_pos h6, bl_length, Bu.mark_length]
    congr 1
    unfold wrap64; omega
  simp only [if_neg h6]; rfl
end Go.Proofs.Ytdmliaodacaefaa.Gb
