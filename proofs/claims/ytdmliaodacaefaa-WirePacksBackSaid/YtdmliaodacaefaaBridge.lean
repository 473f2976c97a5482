/- The plain functions that the layer calls, as they were printed: what they compute, for every list of bytes and every number; and their contracts. -/
import Derived.Test.YtdmliaodacaefaaPWirex1
import Derived.Test.YtdmliaodacaefaaPWirex2
import Derived.Test.YtdmliaodacaefaaMath
import Derived.Test.YtdmliaodacaefaaSep
import Derived.Laws.BitsAllLaws
import Derived.Lib.Hide
namespace Go.Proofs.Ytdmliaodacaefaa.Bridge
open Go.RowKit Go.Proofs.Ytdmliaodacaefaa.PWire Go.Proofs.YtdmliaodacaefaaW.PrintWords Go.Proofs.YtdmliaodacaefaaW.PrintLast Go.Proofs.YtdmliaodacaefaaW.PrintMore Go.Proofs.Ytdmliaodacaefaa.Mem CrcM

/-- a word as a whole number. -/
def ui (x : W) : Int := (x.toNat : Int)
/-- bytes as whole numbers. -/
def bl (l : List UInt8) : List Int := l.map fun b => (b.toNat : Int)
theorem ui_range (x : W) : 0 ≤ ui x ∧ ui x < 4294967296 := by unfold ui; have := x.isLt; omega
theorem ui_inj {x y : W} (h : ui x = ui y) : x = y := by unfold ui at h; exact BitVec.eq_of_toNat_eq (by omega)
theorem of_u32 {a : Int} (h : (Lit.int .u32 a).wf = true) : ∃ A : W, a = ui A := by
  have h2 : 0 ≤ a ∧ a ≤ 4294967295 := by simpa [Lit.wf, IntKind.min, IntKind.max, IntKind.signed, IntKind.bits] using h
  refine ⟨BitVec.ofNat 32 a.toNat, ?_⟩
  unfold ui; rw [BitVec.toNat_ofNat]; omega
theorem bl_length (l : List UInt8) : (bl l).length = l.length := by simp [bl]
theorem of_bytes {l : List Int} (h : ∀ x ∈ l, (Lit.int .u8 x).wf = true) : ∃ L : List UInt8, l = bl L := by
  induction l with
  | nil => exact ⟨[], rfl⟩
  | cons a l ih =>
    obtain ⟨L, hL⟩ := ih (fun x hx => h x (List.mem_cons_of_mem _ hx))
    have h1 := h a (List.mem_cons_self ..)
    have h2 : 0 ≤ a ∧ a ≤ 255 := by simpa [Lit.wf, IntKind.min, IntKind.max, IntKind.signed, IntKind.bits] using h1
    refine ⟨UInt8.ofNat a.toNat :: L, ?_⟩
    show a :: l = _ :: bl L
    rw [← hL]
    congr 1
    show a = ((UInt8.ofNat a.toNat).toNat : Int)
    rw [UInt8.toNat_ofNat']; omega
theorem xor_ui (a b : W) : Go.bits .xor .u32 (ui a) (ui b) = ui (a ^^^ b) := by
  unfold ui; rw [u32_xor_nat _ _ a.isLt b.isLt, BitVec.toNat_xor]
theorem and1_ui (a : W) : Go.bits .and .u32 (ui a) 1 = if a.getLsbD 0 = true then 1 else 0 := by
  have : Go.bits .and .u32 (ui a) ((1 : Nat) : Int) = ((a.toNat &&& 1 : Nat) : Int) := by unfold ui; rw [u32_and_nat _ _ a.isLt (by decide)]
  rw [show (1 : Int) = ((1 : Nat) : Int) from rfl, this, Nat.and_one_is_mod]
  show _ = if a.toNat.testBit 0 = true then _ else _
  rw [Nat.testBit_zero]
  by_cases h : a.toNat % 2 = 1
  · rw [h]; simp
  · have h2 : a.toNat % 2 = 0 := by omega
    rw [h2]; simp
theorem half_ui (a : W) : ui a / (2 : Int) = ui (a >>> 1) := by
  unfold ui; rw [BitVec.toNat_ushiftRight, Nat.shiftRight_eq_div_pow]; omega
theorem poly_ui : (3988292384 : Int) = ui poly := by decide
theorem ones_ui : (4294967295 : Int) = ui (BitVec.allOnes 32) := by decide
theorem zero_ui : (0 : Int) = ui (BitVec.ofNat 32 0) := by decide
theorem X_pos {s : W} (h : s.getLsbD 0 = true) : ui (X s) = Go.bits .xor .u32 (ui s / (2 : Int)) 3988292384 := by
  rw [half_ui, poly_ui, xor_ui]; unfold X; rw [if_pos h]
theorem X_neg {s : W} (h : ¬ s.getLsbD 0 = true) : ui (X s) = ui s / (2 : Int) := by
  rw [half_ui]; unfold X; rw [if_neg h]
theorem wrapS (i : Nat) (h : i < 9223372036854775807) : wrap64 ((i : Int) + 1) = ((i + 1 : Nat) : Int) := by unfold wrap64; omega
theorem rd_bl (l : List UInt8) (i : Nat) (h : i < l.length) : rd (bl l) (i : Int) = (l[i].toNat : Int) := by
  unfold rd bl
  rw [List.getD_eq_getElem?_getD, Int.toNat_natCast, List.getElem?_map, List.getElem?_eq_getElem h]; rfl

theorem entry_loop (n : Nat) : ∀ (s : W) (i : Nat), i + n = 8 → Ev (fun k => crc_entry.l0 k (ui s) (i : Int)) (ui (xs n s)) := by
  induction n with
  | zero => intro s i hi; exact Ev.step (f := fun _ => some (ui s)) (fun k => by simp only [crc_entry.l0]; rw [if_neg (by omega)]) (Ev.now _)
  | succ n ih =>
    intro s i hi
    refine Ev.step (f := fun k => crc_entry.l0 k (ui (X s)) ((i + 1 : Nat) : Int)) (fun k => ?_) (ih (X s) (i + 1) (by omega))
    simp only [crc_entry.l0]
    rw [if_pos (by omega), and1_ui, wrapS i (by omega)]
    by_cases h : s.getLsbD 0 = true
    · rw [if_pos h, if_pos rfl, X_pos h]
    · rw [if_neg h, if_neg (by decide), X_neg h]
theorem byte_mod (b : UInt8) : ((b.toNat : Nat) : Int) % 4294967296 = ui (bw b) := by
  unfold ui; rw [bw_toNat]; have := b.toNat_lt; omega
theorem entry_ev (b : UInt8) : Ev (fun k => crc_entry.f k (b.toNat : Int)) (ui (entry b)) := by
  have h := entry_loop 8 (bw b) 0 rfl
  rw [← byte_mod] at h
  exact h
theorem low_ui (s : W) : ui s % 256 = ((low s).toNat : Int) := by unfold ui; rw [low_toNat]; omega
theorem xor_byte (a b : UInt8) : Go.bits .xor .u8 (a.toNat : Int) (b.toNat : Int) = ((a ^^^ b).toNat : Int) := by
  rw [u8_xor_nat _ _ a.toNat_lt b.toNat_lt, UInt8.toNat_xor]
theorem shr8_ui (s : W) : ui s / (256 : Int) = ui (s >>> 8) := by
  unfold ui; rw [BitVec.toNat_ushiftRight, Nat.shiftRight_eq_div_pow]; omega
theorem step_ev (s : W) (b : UInt8) : Ev (fun k => crc_step.f k (ui s) (b.toNat : Int)) (ui (CrcM.step s b)) := by
  unfold crc_step.f
  rw [low_ui, xor_byte, step_table]
  refine Ev.bind (f := fun _ t => some (Go.bits .xor .u32 t (ui s / (256 : Int)))) (entry_ev _) ?_
  rw [shr8_ui, xor_ui]
  exact Ev.now _
theorem update_loop (n : Nat) : ∀ (l : List UInt8) (s : W) (i : Nat), i + n = l.length → l.length ≤ maxLen →
    Ev (fun k => crc_Update.l0 k (ui s) (bl l) ((bl l).length : Int) (i : Int)) (ui (~~~ (reg s (l.drop i)))) := by
  induction n with
  | zero =>
    intro l s i hi hl
    refine Ev.step (f := fun _ => some _) (fun k => ?_) (Ev.now _)
    simp only [crc_Update.l0]
    rw [if_neg (by rw [bl_length]; omega), List.drop_eq_nil_of_le (by omega), reg_nil, ones_ui, xor_ui, not_eq, BitVec.xor_comm]
  | succ n ih =>
    intro l s i hi hl
    have hl' : l.length ≤ 9223372036854775807 := hl
    have hlt : i < l.length := by omega
    refine Ev.step (f := fun k => (crc_step.f k (ui s) (rd (bl l) i)).bind fun t => crc_Update.l0 k t (bl l) ((bl l).length : Int) ((i + 1 : Nat) : Int)) (fun k => ?_) ?_
    · simp only [crc_Update.l0]
      rw [if_pos (by rw [bl_length]; omega), if_pos (by omega), if_pos (by rw [bl_length]; omega), wrapS i (by omega)]
    · rw [rd_bl l i hlt]
      refine Ev.bind (step_ev s l[i]) ?_
      rw [List.drop_eq_getElem_cons hlt, reg_cons]
      exact ih l (CrcM.step s l[i]) (i + 1) (by omega) hl
theorem update_ev (a : W) (l : List UInt8) (hl : l.length ≤ maxLen) : Ev (fun k => crc_Update.f k (ui a) (bl l)) (ui (upd a l)) := by
  have h := update_loop l.length l (BitVec.allOnes 32 ^^^ a) 0 (by omega) hl
  unfold crc_Update.f
  rw [ones_ui, xor_ui]
  rw [List.drop_zero] at h
  unfold upd
  rw [not_eq a, BitVec.xor_comm a]
  exact h
theorem sum_ev (l : List UInt8) (hl : l.length ≤ maxLen) : Ev (fun k => crc_Sum.f k (bl l)) (ui (sum l)) := by
  unfold crc_Sum.f
  refine Ev.bind (f := fun _ t => some t) ?_ (Ev.now _)
  rw [zero_ui]
  exact update_ev _ l hl
theorem bl_append (l m : List UInt8) : bl (l ++ m) = bl l ++ bl m := by simp [bl]
theorem bl_take (l : List UInt8) (i : Nat) : (bl l).take i = bl (l.take i) := by simp [bl, List.map_take]
theorem bl_drop (l : List UInt8) (i : Nat) : (bl l).drop i = bl (l.drop i) := by simp [bl, List.map_drop]
theorem bl_inj {l m : List UInt8} (h : bl l = bl m) : l = m := by
  unfold bl at h
  exact List.map_inj_right (fun a b hab => UInt8.toNat_inj.1 (by omega)) |>.1 h
theorem rsum_tail (l : List UInt8) (hl : l.length ≤ maxLen) (n : Nat) : ∀ i, i + n = l.length → ∀ s, Ev (fun k => amberref02_Sum.l0 k (bl l) (ui s) (i : Int)) (ui (~~~ (reg s (l.drop i)))) := by
  have hl' : l.length ≤ 9223372036854775807 := hl
  have ones : ∀ s : W, Go.bits .xor .u32 (ui s) 4294967295 = ui (~~~ s) := fun s => by rw [ones_ui, xor_ui, not_eq]
  induction n with
  | zero =>
    intro i hi s
    refine Ev.step (f := fun _ => some _) (fun k => ?_) (Ev.now _)
    simp only [amberref02_Sum.l0]
    rw [if_neg (by rw [bl_length]; omega), List.drop_eq_nil_of_le (by omega), reg_nil, ones]
  | succ n ih =>
    intro i hi s
    have hlt : i < l.length := by omega
    have inner : ∀ m j : Nat, j + m = 8 → ∀ t : W, Ev (fun k => amberref02_Sum.l1 k (bl l) (ui t) (i : Int) (j : Int)) (ui (~~~ (reg (xs m t) (l.drop (i + 1))))) := by
      intro m
      induction m with
      | zero =>
        intro j hj t
        refine Ev.step (fun k => ?_) (ih (i + 1) (by omega) t)
        simp only [amberref02_Sum.l1]
        rw [if_neg (by omega), wrapS i (by omega)]
      | succ m ihm =>
        intro j hj t
        refine Ev.step (fun k => ?_) (ihm (j + 1) (by omega) (X t))
        simp only [amberref02_Sum.l1]
        have e1 : Int.tdiv (ui t) 2 = ui (t >>> 1) := by rw [Int.tdiv_eq_ediv_of_nonneg (ui_range t).1, half_ui]
        have e2 : ui (t >>> 1) % (4294967296 : Int) = ui (t >>> 1) := by have := ui_range (t >>> 1); omega
        have e3 : Int.tmod (ui t) 2 = if t.getLsbD 0 = true then 1 else 0 := by
          rw [Int.tmod_eq_emod_of_nonneg (ui_range t).1, ← and1_ui]
          have : Go.bits .and .u32 (ui t) ((1 : Nat) : Int) = ((t.toNat &&& 1 : Nat) : Int) := by unfold ui; rw [u32_and_nat _ _ t.isLt (by decide)]
          rw [show (1 : Int) = ((1 : Nat) : Int) from rfl, this, Nat.and_one_is_mod]
          unfold ui; omega
        rw [if_pos (by omega), e1, e2, e3, wrapS j (by omega)]
        by_cases h : t.getLsbD 0 = true
        · rw [if_pos h, if_pos rfl, poly_ui, xor_ui]
          unfold X
          rw [if_pos h]
        · rw [if_neg h, if_neg (by decide)]
          unfold X
          rw [if_neg h]
    refine Ev.step (fun k => ?_) (by
      have h := inner 8 0 rfl (s ^^^ bw l[i])
      rw [List.drop_eq_getElem_cons hlt, reg_cons]
      exact h)
    simp only [amberref02_Sum.l0]
    have e : Go.bits .xor .u32 (ui s) ((rd (bl l) (i : Int)) % 4294967296) = ui (s ^^^ bw l[i]) := by rw [rd_bl l i hlt, byte_mod, xor_ui]
    rw [if_pos (by rw [bl_length]; omega), if_pos (by omega), e]
    rfl
theorem rsum_ev (l : List UInt8) (hl : l.length ≤ maxLen) : Ev (fun k => amberref02_Sum.f k (bl l)) (ui (sum l)) := by
  have h := rsum_tail l hl l.length 0 (by omega) (BitVec.allOnes 32)
  have e : BitVec.allOnes 32 = ~~~ BitVec.ofNat 32 0 := by decide
  rw [List.drop_zero, ← ones_ui] at h
  unfold amberref02_Sum.f sum upd
  rw [← e]
  exact h
theorem dup_eq (l : List Int) (hl : l.length ≤ 140737488351232) : amberlaw02_dup.f l = some l := by
  unfold amberlaw02_dup.f
  rw [if_pos (by simp; omega)]
  rfl
theorem same_tail (l : List Int) (hl : l.length ≤ maxLen) (n : Nat) : ∀ i, i + n = l.length → Ev (fun k => amberlaw02_same.l0 k l l (i : Int)) true := by
  have hl' : l.length ≤ 9223372036854775807 := hl
  induction n with
  | zero =>
    intro i hi
    exact Ev.step (f := fun _ => some _) (fun k => by simp only [amberlaw02_same.l0]; rw [if_neg (by omega)]) (Ev.now _)
  | succ n ih =>
    intro i hi
    refine Ev.step (fun k => ?_) (ih (i + 1) (by omega))
    simp only [amberlaw02_same.l0]
    rw [if_pos (by omega), if_pos (by omega), if_pos (by omega), if_pos True.intro, wrapS i (by omega)]
theorem same_ev (l : List Int) (hl : l.length ≤ maxLen) : Ev (fun k => amberlaw02_same.f k l l) true := by
  unfold amberlaw02_same.f
  simp only [if_true]
  exact same_tail l hl l.length 0 (by omega)
theorem copied_tail (l : List UInt8) (hl : l.length ≤ 140737488351232) (n : Nat) : ∀ i, i + n = l.length → Ev (fun k => amberref02_Copied.l0 k (bl l) (bl (l.take i)) (i : Int)) (bl l) := by
  induction n with
  | zero =>
    intro i hi
    have : i = l.length := by omega
    subst this
    exact Ev.step (f := fun _ => some _) (fun k => by simp only [amberref02_Copied.l0]; rw [if_neg (by rw [bl_length]; omega), List.take_length]) (Ev.now _)
  | succ n ih =>
    intro i hi
    refine Ev.step (fun k => ?_) (ih (i + 1) (by omega))
    simp only [amberref02_Copied.l0]
    rw [if_pos (by rw [bl_length]; omega), if_pos (by omega), if_pos (by rw [bl_length, List.length_take]; omega), wrapS i (by omega), rd_bl l i (by omega), List.take_succ_eq_append_getElem (by omega), bl_append]
    rfl
theorem copied_ev (l : List UInt8) (hl : l.length ≤ 140737488351232) : Ev (fun k => amberref02_Copied.f k (bl l)) (bl l) := copied_tail l hl l.length 0 (by omega)
/-- the n lowest bytes of a number, the lowest first. -/
def little : Nat → Nat → List UInt8
  | 0, _ => []
  | n + 1, v => UInt8.ofNat v :: little n (v / 256)
theorem little_length (n : Nat) : ∀ v, (little n v).length = n := by
  induction n with
  | zero => intro v; rfl
  | succ n ih => intro v; simp [little, ih]
theorem byte_of (v : Nat) : ((UInt8.ofNat v).toNat : Int) = (v : Int) % 256 := by rw [UInt8.toNat_ofNat']; omega
theorem u64_div (v : Nat) (h : v < 18446744073709551616) : IntKind.u64.wrap (Int.tdiv (v : Int) 256) = ((v / 256 : Nat) : Int) := by
  rw [Int.tdiv_eq_ediv_of_nonneg (by omega)]
  have e : (v : Int) / 256 = ((v / 256 : Nat) : Int) := by omega
  rw [e]
  simp [IntKind.wrap, IntKind.signed, IntKind.bits]
  omega
theorem little_tail (m : Nat) (hm : m ≤ 1048576) (n : Nat) : ∀ (o : List UInt8) (v i : Nat), v < 18446744073709551616 → i + n = m → o.length = i → Ev (fun k => amberref02_Little.l0 k (v : Int) (m : Int) (bl o) (i : Int)) (bl (o ++ little n v)) := by
  induction n with
  | zero =>
    intro o v i hv hi ho
    refine Ev.step (f := fun _ => some _) (fun k => ?_) (Ev.now _)
    simp only [amberref02_Little.l0]
    rw [if_neg (by omega)]
    simp [little]
  | succ n ih =>
    intro o v i hv hi ho
    have h := ih (o ++ [UInt8.ofNat v]) (v / 256) (i + 1) (by omega) (by omega) (by simp [ho])
    rw [List.append_assoc] at h
    refine Ev.step (fun k => ?_) h
    simp only [amberref02_Little.l0]
    have e : (Int.tmod (v : Int) 256) % 256 = ((UInt8.ofNat v).toNat : Int) := by rw [byte_of, Int.tmod_eq_emod_of_nonneg (by omega)]; omega
    rw [if_pos (by omega), if_pos (by rw [bl_length]; omega), u64_div v hv, e, wrapS i (by omega), bl_append]
    rfl
theorem little_ev (n v : Nat) (hn : n ≤ 1048576) (hv : v < 18446744073709551616) : Ev (fun k => amberref02_Little.f k (v : Int) (n : Int)) (bl (little n v)) := little_tail n hn n [] v 0 hv (by omega) rfl
/-- the number whose bytes these are, the lowest first. -/
def worth : List UInt8 → Nat
  | [] => 0
  | b :: l => b.toNat + 256 * worth l
theorem worth_lt : ∀ l : List UInt8, worth l < 256 ^ l.length
  | [] => by simp [worth]
  | b :: l => by
    have h := worth_lt l
    have h2 := b.toNat_lt
    simp only [worth, List.length_cons, Nat.pow_succ]
    omega
theorem worth_little (n : Nat) : ∀ v, worth (little n v) = v % 256 ^ n := by
  induction n with
  | zero => intro v; simp [little, worth, Nat.mod_one]
  | succ n ih =>
    intro v
    simp only [little, worth, ih, UInt8.toNat_ofNat']
    have e : 256 ^ (n + 1) = 256 * 256 ^ n := by rw [Nat.pow_succ, Nat.mul_comm]
    rw [e, Nat.mod_mul]
theorem little_worth : ∀ l : List UInt8, little l.length (worth l) = l
  | [] => rfl
  | b :: l => by
    have h := little_worth l
    have h2 := b.toNat_lt
    have e : (b.toNat + 256 * worth l) / 256 = worth l := by omega
    simp only [worth, List.length_cons, little, e, h]
    congr 1
    exact UInt8.toNat_inj.1 (by rw [UInt8.toNat_ofNat']; omega)
theorem worth_tail (l : List UInt8) (hl : l.length ≤ 8) (n : Nat) : n ≤ l.length → Ev (fun k => amberref02_Worth.l0 k (bl l) ((worth (l.drop n) : Nat) : Int) (wrap64 ((n : Int) - 1))) ((worth l : Nat) : Int) := by
  induction n with
  | zero =>
    intro hn
    refine Ev.step (f := fun _ => some _) (fun k => ?_) (Ev.now _)
    simp only [amberref02_Worth.l0]
    have e : wrap64 (((0 : Nat) : Int) - 1) = -1 := by unfold wrap64; omega
    rw [e, if_neg (by omega), List.drop_zero]
  | succ n ih =>
    intro hn
    refine Ev.step (fun k => ?_) (ih (by omega))
    simp only [amberref02_Worth.l0]
    have e : wrap64 (((n + 1 : Nat) : Int) - 1) = (n : Int) := by unfold wrap64; omega
    have h1 := worth_lt (l.drop (n + 1))
    have h2 : (l.drop (n + 1)).length ≤ 7 := by rw [List.length_drop]; omega
    have h3 : (256 : Nat) ^ (l.drop (n + 1)).length ≤ 256 ^ 7 := Nat.pow_le_pow_right (by omega) h2
    have h4 := l[n].toNat_lt
    have e2 : IntKind.u64.wrap (IntKind.u64.wrap (((worth (l.drop (n + 1)) : Nat) : Int) * 256) + IntKind.u64.wrap (rd (bl l) (n : Int))) = ((worth (l.drop n) : Nat) : Int) := by
      rw [rd_bl l n (by omega), List.drop_eq_getElem_cons (show n < l.length by omega)]
      simp only [worth]
      simp [IntKind.wrap, IntKind.signed, IntKind.bits]
      omega
    rw [e, if_pos (by omega), if_pos (by omega), if_pos (by rw [bl_length]; omega), e2]
theorem worth_ev (l : List UInt8) (hl : l.length ≤ 8) : Ev (fun k => amberref02_Worth.f k (bl l)) ((worth l : Nat) : Int) := by
  have h := worth_tail l hl l.length (Nat.le_refl _)
  rw [List.drop_length] at h
  unfold amberref02_Worth.f
  rw [bl_length]
  exact h
section
variable (A : Option Addr) (c : Nat) (l : List UInt8) (w : World)
theorem sum_calls (hr : Kd.C (Kd.int .u8) w A (bl l).length (bl l)) (hc : (bl l).length ≤ c) (hl : l.length ≤ maxLen) :
    Calls Try.prog 78 #[.slice A (bl l).length c] w fun e w' => e = .returned (.int .u32 (ui (CrcM.sum l))) ∧ Drawn0 w w' := by
  obtain ⟨k, hk⟩ := Ev.rounds (sum_ev l hl)
  exact crc_Sum.calls k A c (bl l) _ w hr hc hk
theorem rsum_calls (hr : Kd.C (Kd.int .u8) w A (bl l).length (bl l)) (hc : (bl l).length ≤ c) (hl : l.length ≤ maxLen) :
    Calls Try.prog 89 #[.slice A (bl l).length c] w fun e w' => e = .returned (.int .u32 (ui (CrcM.sum l))) ∧ Drawn0 w w' := by
  obtain ⟨k, hk⟩ := Ev.rounds (rsum_ev l hl)
  exact amberref02_Sum.calls k A c (bl l) _ w hr hc hk
theorem worth_calls (hr : Kd.C (Kd.int .u8) w A (bl l).length (bl l)) (hc : (bl l).length ≤ c) (hl : l.length ≤ 8) :
    Calls Try.prog 88 #[.slice A (bl l).length c] w fun e w' => e = .returned (.int .u64 ((worth l : Nat) : Int)) ∧ Drawn0 w w' := by
  obtain ⟨k, hk⟩ := Ev.rounds (worth_ev l hl)
  exact amberref02_Worth.calls k A c (bl l) _ w hr hc hk
/-- a row in new memory. -/
def New (w w' : World) (v : Value) (xs : List Int) : Prop := Rw w' 5 .u8 v xs ∧ (∀ b, v.ownBlock = some b → w.heap.size ≤ b) ∧ Below w.heap.size w w'
theorem copied_calls (hr : Kd.C (Kd.int .u8) w A (bl l).length (bl l)) (hc : (bl l).length ≤ c) (hl : l.length ≤ 140737488351232) :
    Calls Try.prog 67 #[.slice A (bl l).length c] w fun e w' => ∃ v, e = .returned v ∧ New w w' v (bl l) := by
  obtain ⟨k, hk⟩ := Ev.rounds (copied_ev l hl)
  refine (amberref02_Copied.calls k A c (bl l) _ w hr hc hk).mono ?_
  rintro e w' ⟨v, rfl, hR, hb⟩
  exact ⟨v, rfl, Rw.of hR, fun b hv => ((Kd.R_bound hR).1 b hv).2.1, hb⟩
theorem dup_calls (hr : Kd.C (Kd.int .u8) w A (bl l).length (bl l)) (hc : (bl l).length ≤ c) (hl : l.length ≤ 140737488351232) :
    Calls Try.prog 16 #[.slice A (bl l).length c] w fun e w' => ∃ v, e = .returned v ∧ New w w' v (bl l) := by
  refine (amberlaw02_dup.calls A c (bl l) _ w hr hc (dup_eq _ (by rw [bl_length]; exact hl))).mono ?_
  rintro e w' ⟨v, rfl, hR, hb⟩
  exact ⟨v, rfl, Rw.of hR, fun b hv => ((Kd.R_bound hR).1 b hv).2.1, hb⟩
theorem same_calls (A' : Option Addr) (c' : Nat) (l l' : List Int) (hr : Kd.C (Kd.int .u8) w A l.length l) (hc : l.length ≤ c) (hr' : Kd.C (Kd.int .u8) w A' l'.length l') (hc' : l'.length ≤ c') (e : l = l') :
    Calls Try.prog 19 #[.slice A l.length c, .slice A' l'.length c'] w fun e w' => e = .returned (.bool true) ∧ Drawn0 w w' := by
  subst e
  obtain ⟨k, hk⟩ := Ev.rounds (same_ev l (Kd.C_max hr))
  exact amberlaw02_same.calls k A c l A' c' l true w hr hc hr' hc' hk
theorem little_calls (n v : Nat) (hn : n ≤ 1048576) (hv : v < 18446744073709551616) :
    Calls Try.prog 93 #[.int .u64 v, .int .i64 n] w fun e w' => ∃ u, e = .returned u ∧ New w w' u (bl (little n v)) := by
  obtain ⟨k, hk⟩ := Ev.rounds (little_ev n v hn hv)
  refine (amberref02_Little.calls k _ _ _ w hk).mono ?_
  rintro e w' ⟨u, rfl, hR, hb⟩
  exact ⟨u, rfl, Rw.of hR, fun b hv => ((Kd.R_bound hR).1 b hv).2.1, hb⟩
end
end Go.Proofs.Ytdmliaodacaefaa.Bridge
