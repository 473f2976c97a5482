/- The functions of package crc, as they were printed, compute the plain CRC of YtcfnpippmdijaaaMath: for every list of bytes and every number. -/
import Derived.Test.YtcfnpippmdijaaaPAllx1
import Derived.Test.YtcfnpippmdijaaaPAllx2
import Derived.Test.YtcfnpippmdijaaaMath
import Derived.Laws.BitsAllLaws
namespace Go.Proofs.Ytcfnpippmdijaaa.Bridge
open Go.RowKit Go.Proofs.Ytcfnpippmdijaaa.PAll Go.Proofs.YtcfnpippmdijaaaW.PrintWords Go.Proofs.YtcfnpippmdijaaaW.PrintLast Go.Proofs.YtcfnpippmdijaaaW.PrintMore CrcM

/-- a word as a whole number. -/
def ui (x : W) : Int := (x.toNat : Int)
/-- bytes as whole numbers. -/
def bl (l : List UInt8) : List Int := l.map fun b => (b.toNat : Int)
theorem ui_range (x : W) : 0 ≤ ui x ∧ ui x < 4294967296 := by unfold ui; have := x.isLt; omega
theorem ui_inj {x y : W} (h : ui x = ui y) : x = y := by unfold ui at h; exact BitVec.eq_of_toNat_eq (by omega)
theorem of_u32 {a : Int} (h : (Lit.int .u32 a).wf = true) : ∃ A : W, a = ui A := by
  have h2 : 0 ≤ a ∧ a ≤ 4294967295 := by simpa [Lit.wf, IntKind.min, IntKind.max, IntKind.signed, IntKind.bits] using h
  refine ⟨BitVec.ofNat 32 a.toNat, ?_⟩
  unfold ui; rw [BitVec.toNat_ofNat]; omega
theorem bl_length (l : List UInt8) : (bl l).length = l.length := by simp [bl]
theorem of_bytes {l : List Int} (h : ∀ x ∈ l, (Lit.int .u8 x).wf = true) : ∃ L : List UInt8, l = bl L := by
  induction l with
  | nil => exact ⟨[], rfl⟩
  | cons a l ih =>
    obtain ⟨L, hL⟩ := ih (fun x hx => h x (List.mem_cons_of_mem _ hx))
    have h1 := h a (List.mem_cons_self ..)
    have h2 : 0 ≤ a ∧ a ≤ 255 := by simpa [Lit.wf, IntKind.min, IntKind.max, IntKind.signed, IntKind.bits] using h1
    refine ⟨UInt8.ofNat a.toNat :: L, ?_⟩
    show a :: l = _ :: bl L
    rw [← hL]
    congr 1
    show a = ((UInt8.ofNat a.toNat).toNat : Int)
    rw [UInt8.toNat_ofNat']; omega
theorem xor_ui (a b : W) : Go.bits .xor .u32 (ui a) (ui b) = ui (a ^^^ b) := by
  unfold ui; rw [u32_xor_nat _ _ a.isLt b.isLt, BitVec.toNat_xor]
theorem and1_ui (a : W) : Go.bits .and .u32 (ui a) 1 = if a.getLsbD 0 = true then 1 else 0 := by
  have : Go.bits .and .u32 (ui a) ((1 : Nat) : Int) = ((a.toNat &&& 1 : Nat) : Int) := by unfold ui; rw [u32_and_nat _ _ a.isLt (by decide)]
  rw [show (1 : Int) = ((1 : Nat) : Int) from rfl, this, Nat.and_one_is_mod]
  show _ = if a.toNat.testBit 0 = true then _ else _
  rw [Nat.testBit_zero]
  by_cases h : a.toNat % 2 = 1
  · rw [h]; simp
  · have h2 : a.toNat % 2 = 0 := by omega
    rw [h2]; simp
theorem half_ui (a : W) : ui a / (2 : Int) = ui (a >>> 1) := by
  unfold ui; rw [BitVec.toNat_ushiftRight, Nat.shiftRight_eq_div_pow]; omega
theorem poly_ui : (3988292384 : Int) = ui poly := by decide
theorem ones_ui : (4294967295 : Int) = ui (BitVec.allOnes 32) := by decide
theorem zero_ui : (0 : Int) = ui (BitVec.ofNat 32 0) := by decide
theorem X_pos {s : W} (h : s.getLsbD 0 = true) : ui (X s) = Go.bits .xor .u32 (ui s / (2 : Int)) 3988292384 := by
  rw [half_ui, poly_ui, xor_ui]; unfold X; rw [if_pos h]
theorem X_neg {s : W} (h : ¬ s.getLsbD 0 = true) : ui (X s) = ui s / (2 : Int) := by
  rw [half_ui]; unfold X; rw [if_neg h]
theorem wrapS (i : Nat) (h : i < 9223372036854775807) : wrap64 ((i : Int) + 1) = ((i + 1 : Nat) : Int) := by unfold wrap64; omega
theorem rd_bl (l : List UInt8) (i : Nat) (h : i < l.length) : rd (bl l) (i : Int) = (l[i].toNat : Int) := by
  unfold rd bl
  rw [List.getD_eq_getElem?_getD, Int.toNat_natCast, List.getElem?_map, List.getElem?_eq_getElem h]; rfl

theorem entry_loop (n : Nat) : ∀ (s : W) (i : Nat), i + n = 8 → Ev (fun k => crc_entry.l0 k (ui s) (i : Int)) (ui (xs n s)) := by
  induction n with
  | zero => intro s i hi; exact Ev.step (f := fun _ => some (ui s)) (fun k => by simp only [crc_entry.l0]; rw [if_neg (by omega)]) (Ev.now _)
  | succ n ih =>
    intro s i hi
    refine Ev.step (f := fun k => crc_entry.l0 k (ui (X s)) ((i + 1 : Nat) : Int)) (fun k => ?_) (ih (X s) (i + 1) (by omega))
    simp only [crc_entry.l0]
    rw [if_pos (by omega), and1_ui, wrapS i (by omega)]
    by_cases h : s.getLsbD 0 = true
    · rw [if_pos h, if_pos rfl, X_pos h]
    · rw [if_neg h, if_neg (by decide), X_neg h]
theorem byte_mod (b : UInt8) : ((b.toNat : Nat) : Int) % 4294967296 = ui (bw b) := by
  unfold ui; rw [bw_toNat]; have := b.toNat_lt; omega
theorem entry_ev (b : UInt8) : Ev (fun k => crc_entry.f k (b.toNat : Int)) (ui (entry b)) := by
  have h := entry_loop 8 (bw b) 0 rfl
  rw [← byte_mod] at h
  exact h
theorem low_ui (s : W) : ui s % 256 = ((low s).toNat : Int) := by unfold ui; rw [low_toNat]; omega
theorem xor_byte (a b : UInt8) : Go.bits .xor .u8 (a.toNat : Int) (b.toNat : Int) = ((a ^^^ b).toNat : Int) := by
  rw [u8_xor_nat _ _ a.toNat_lt b.toNat_lt, UInt8.toNat_xor]
theorem shr8_ui (s : W) : ui s / (256 : Int) = ui (s >>> 8) := by
  unfold ui; rw [BitVec.toNat_ushiftRight, Nat.shiftRight_eq_div_pow]; omega
theorem step_ev (s : W) (b : UInt8) : Ev (fun k => crc_step.f k (ui s) (b.toNat : Int)) (ui (CrcM.step s b)) := by
  unfold crc_step.f
  rw [low_ui, xor_byte, step_table]
  refine Ev.bind (f := fun _ t => some (Go.bits .xor .u32 t (ui s / (256 : Int)))) (entry_ev _) ?_
  rw [shr8_ui, xor_ui]
  exact Ev.now _
theorem update_loop (n : Nat) : ∀ (l : List UInt8) (s : W) (i : Nat), i + n = l.length → l.length ≤ maxLen →
    Ev (fun k => crc_Update.l0 k (ui s) (bl l) ((bl l).length : Int) (i : Int)) (ui (~~~ (reg s (l.drop i)))) := by
  induction n with
  | zero =>
    intro l s i hi hl
    refine Ev.step (f := fun _ => some _) (fun k => ?_) (Ev.now _)
    simp only [crc_Update.l0]
    rw [if_neg (by rw [bl_length]; omega), List.drop_eq_nil_of_le (by omega), reg_nil, ones_ui, xor_ui, not_eq, BitVec.xor_comm]
  | succ n ih =>
    intro l s i hi hl
    have hl' : l.length ≤ 9223372036854775807 := hl
    have hlt : i < l.length := by omega
    refine Ev.step (f := fun k => (crc_step.f k (ui s) (rd (bl l) i)).bind fun t => crc_Update.l0 k t (bl l) ((bl l).length : Int) ((i + 1 : Nat) : Int)) (fun k => ?_) ?_
    · simp only [crc_Update.l0]
      rw [if_pos (by rw [bl_length]; omega), if_pos (by omega), if_pos (by rw [bl_length]; omega), wrapS i (by omega)]
    · rw [rd_bl l i hlt]
      refine Ev.bind (step_ev s l[i]) ?_
      rw [List.drop_eq_getElem_cons hlt, reg_cons]
      exact ih l (CrcM.step s l[i]) (i + 1) (by omega) hl
theorem update_ev (a : W) (l : List UInt8) (hl : l.length ≤ maxLen) : Ev (fun k => crc_Update.f k (ui a) (bl l)) (ui (upd a l)) := by
  have h := update_loop l.length l (BitVec.allOnes 32 ^^^ a) 0 (by omega) hl
  unfold crc_Update.f
  rw [ones_ui, xor_ui]
  rw [List.drop_zero] at h
  unfold upd
  rw [not_eq a, BitVec.xor_comm a]
  exact h
theorem sum_ev (l : List UInt8) (hl : l.length ≤ maxLen) : Ev (fun k => crc_Sum.f k (bl l)) (ui (sum l)) := by
  unfold crc_Sum.f
  refine Ev.bind (f := fun _ t => some t) ?_ (Ev.now _)
  rw [zero_ui]
  exact update_ev _ l hl
theorem copied_eq (l : List Int) (hl : l.length ≤ 140737488351232) : amberlaw01_copied.f l = some l := by
  unfold amberlaw01_copied.f
  rw [if_pos (by simp; omega), List.nil_append]
theorem joined_eq (l m : List Int) (hl : l.length ≤ 140737488351232) (h : l.length + m.length < 140737488355328) : amberlaw01_joined.f l m = some (l ++ m) := by
  unfold amberlaw01_joined.f
  rw [copied_eq l hl, Option.bind_some, if_pos h]
theorem digits : ([49, 50, 51, 52, 53, 54, 55, 56, 57] : List Int) = bl [49, 50, 51, 52, 53, 54, 55, 56, 57] := rfl
theorem known_ev : Ev (fun k => amberlaw01_known.f k) true := by
  unfold amberlaw01_known.f
  rw [digits]
  refine Ev.bind (f := fun _ t => some (t == 3421780262)) (sum_ev _ (by decide)) ?_
  have e : ui (sum [49, 50, 51, 52, 53, 54, 55, 56, 57]) = 3421780262 := by decide +kernel
  rw [e]
  exact Ev.now _

theorem rstep_loop (n : Nat) : ∀ (s : W) (i : Nat), i + n = 8 → Ev (fun k => amberref01_step.l0 k (ui s) (i : Int)) (ui (xs n s)) := by
  induction n with
  | zero => intro s i hi; exact Ev.step (f := fun _ => some (ui s)) (fun k => by simp only [amberref01_step.l0]; rw [if_neg (by omega)]) (Ev.now _)
  | succ n ih =>
    intro s i hi
    refine Ev.step (f := fun k => amberref01_step.l0 k (ui (X s)) ((i + 1 : Nat) : Int)) (fun k => ?_) (ih (X s) (i + 1) (by omega))
    simp only [amberref01_step.l0]
    rw [if_pos (by omega), and1_ui, wrapS i (by omega)]
    by_cases h : s.getLsbD 0 = true
    · rw [if_pos h, if_pos rfl, X_pos h]
    · rw [if_neg h, if_neg (by decide), X_neg h]
theorem rstep_ev (s : W) (b : UInt8) : Ev (fun k => amberref01_step.f k (ui s) (b.toNat : Int)) (ui (CrcM.step s b)) := by
  unfold amberref01_step.f
  rw [byte_mod, xor_ui]
  exact rstep_loop 8 (s ^^^ bw b) 0 rfl
theorem rupdate_loop (n : Nat) : ∀ (l : List UInt8) (s : W) (i : Nat), i + n = l.length → l.length ≤ maxLen →
    Ev (fun k => amberref01_Update.l0 k (bl l) (ui s) (i : Int)) (ui (~~~ (reg s (l.drop i)))) := by
  induction n with
  | zero =>
    intro l s i hi hl
    refine Ev.step (f := fun _ => some _) (fun k => ?_) (Ev.now _)
    simp only [amberref01_Update.l0]
    rw [if_neg (by rw [bl_length]; omega), List.drop_eq_nil_of_le (by omega), reg_nil, ones_ui, xor_ui, not_eq]
  | succ n ih =>
    intro l s i hi hl
    have hl' : l.length ≤ 9223372036854775807 := hl
    have hlt : i < l.length := by omega
    refine Ev.step (f := fun k => (amberref01_step.f k (ui s) (rd (bl l) i)).bind fun t => amberref01_Update.l0 k (bl l) t ((i + 1 : Nat) : Int)) (fun k => ?_) ?_
    · simp only [amberref01_Update.l0]
      rw [if_pos (by rw [bl_length]; omega), if_pos (by omega), wrapS i (by omega)]
    · rw [rd_bl l i hlt]
      refine Ev.bind (rstep_ev s l[i]) ?_
      rw [List.drop_eq_getElem_cons hlt, reg_cons]
      exact ih l (CrcM.step s l[i]) (i + 1) (by omega) hl
theorem rupdate_ev (a : W) (l : List UInt8) (hl : l.length ≤ maxLen) : Ev (fun k => amberref01_Update.f k (ui a) (bl l)) (ui (upd a l)) := by
  have h := rupdate_loop l.length l (a ^^^ BitVec.allOnes 32) 0 (by omega) hl
  unfold amberref01_Update.f
  rw [ones_ui, xor_ui]
  rw [List.drop_zero] at h
  unfold upd
  rw [not_eq a]
  exact h
theorem rsum_ev (l : List UInt8) (hl : l.length ≤ maxLen) : Ev (fun k => amberref01_Sum.f k (bl l)) (ui (sum l)) := by
  unfold amberref01_Sum.f
  refine Ev.bind (f := fun _ t => some t) ?_ (Ev.now _)
  rw [zero_ui]
  exact rupdate_ev _ l hl
end Go.Proofs.Ytcfnpippmdijaaa.Bridge
