/- Slices of bytes that a call made itself, each in a block of its own: read, written, lengthened. -/
import Derived.Test.YtcfnpippmdijaaaApart
import Derived.Lib.Hide
import Derived.Outline
namespace Go.Proofs.Ytcfnpippmdijaaa.Apart
open Go.RowKit Go.Proofs.YtcfnpippmdijaaaW.PrintWords Go.Proofs.YtcfnpippmdijaaaW.PrintLast Go.Proofs.YtcfnpippmdijaaaW.PrintMore Go.Proofs.Ytcfnpippmdijaaa.Bridge Go.Proofs.Ytcfnpippmdijaaa.Mem Go.Proofs.Ytcfnpippmdijaaa.Dig
set_option linter.unusedVariables false
set_option linter.unusedSimpArgs false
/-- bytes in a block of their own, which was not there in w0. -/
structure Own (B : Nat) (w : World) (b n c : Nat) (xs : List UInt8) : Prop where
  rw_ : Rw w 5 .u8 (.slice (some ⟨b, 0, none⟩) n c) (bl xs)
  len : xs.length = n
  new : B ≤ b
theorem Own.of {B : Nat} {w : World} {v : Value} {xs : List UInt8} (h : Rw w 5 .u8 v (bl xs)) (hx : 0 < xs.length) (hb : ∀ b, v.ownBlock = some b → B ≤ b) : ∃ b c, v = .slice (some ⟨b, 0, none⟩) xs.length c ∧ Own B w b xs.length c xs := by
  obtain ⟨g, c, e, _, _⟩ := h.some (by rw [bl_length]; exact hx)
  rw [bl_length] at e
  exact ⟨g, c, e, e ▸ h, rfl, hb g (by rw [e]; rfl)⟩
section
variable {B : Nat} {w w' : World} {b n c : Nat} {xs : List UInt8} {S : Nat → Prop}
theorem Own.lt (h : Own B w b n c xs) : b < w.heap.size := h.rw_.lt b rfl
theorem Own.only (h : Own B w b n c xs) (ho : Only w w' S) (hs : ¬ S b) : Own B w' b n c xs :=
  ⟨h.rw_.only ho (fun x hx => by have : b = x := Option.some.inj hx; exact this ▸ hs), h.len, h.new⟩
theorem Own.C (h : Own B w b n c xs) : Kd.C (Kd.int .u8) w (some ⟨b, 0, none⟩) (bl xs).length (bl xs) := by
  obtain ⟨h1, h2, h3⟩ := Kd.R_reads' h.rw_
  exact h3
theorem Own.cap (h : Own B w b n c xs) : (bl xs).length ≤ c := by
  obtain ⟨h1, h2, h3⟩ := Kd.R_reads' h.rw_
  omega
theorem Own.bln (h : Own B w b n c xs) : (bl xs).length = n := by rw [bl_length]; exact h.len
theorem Own.cell (h : Own B w b n c xs) (i : Nat) (hi : i < n) : w.cell? ⟨b, i, none⟩ = some (.int .u8 ((xs[i]'(by rw [h.len]; exact hi)).toNat : Int)) ∧ w.frozen? ⟨b, i, none⟩ = false := by
  have h1 := Kd.R_celln (0 : Int) h.rw_ (i : Int) (by omega) (by omega)
  rw [Int.toNat_natCast] at h1
  refine ⟨h1.1.trans ?_, h1.2⟩
  have h2 := rd_bl xs i (by rw [h.len]; exact hi)
  exact congrArg (fun z => some (Value.int .u8 z)) h2
theorem Own.put (h : Own B w b n c xs) (i : Nat) (x : UInt8) : Own B (w.setCell ⟨b, i, none⟩ (.int .u8 (x.toNat : Int))) b n c (xs.set i x) ∧ Only w (w.setCell ⟨b, i, none⟩ (.int .u8 (x.toNat : Int))) (fun k => k = b) := by
  have h1 := (Kd.R_putg h.rw_ (i : Int) (x.toNat : Int)).1
  rw [Int.toNat_natCast, set_bl] at h1
  exact ⟨⟨h1, by rw [List.length_set]; exact h.len, h.new⟩, (Only.refl w (fun k => k = b)).setCell (p := ⟨b, i, none⟩) (.inl rfl) _⟩
end
end Go.Proofs.Ytcfnpippmdijaaa.Apart
