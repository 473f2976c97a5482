/- Package crc's Forge and the reference's, as they were printed: for every list of bytes, every place that is not refused and every sum, the four bytes that are chosen so. -/
import Derived.Test.YtcfnpippmdijaaaPMorex2
import Derived.Test.YtcfnpippmdijaaaPureCrcJoins
import Derived.Test.YtcfnpippmdijaaaBurst
namespace Go.Proofs.Ytcfnpippmdijaaa.Bridge
open Go.RowKit Go.Proofs.Ytcfnpippmdijaaa.PAll Go.Proofs.Ytcfnpippmdijaaa.PMore Go.Proofs.Ytcfnpippmdijaaa.PGiven Go.Proofs.YtcfnpippmdijaaaW.PrintWords Go.Proofs.YtcfnpippmdijaaaW.PrintLast Go.Proofs.YtcfnpippmdijaaaW.PrintMore Go.Proofs.Ytcfnpippmdijaaa.Pure CrcM

theorem bks_drop (t : W) (l : List UInt8) (i : Nat) (h : i < l.length) : bks t (l.drop i) = bk (bks t (l.drop (i + 1))) l[i] := by
  rw [List.drop_eq_getElem_cons h]; rfl
theorem ys_zero4 (s : W) : bk (bk (bk (bk s 0) 0) 0) 0 = ys 32 s := by
  rw [bk_zero, bk_zero, bk_zero, bk_zero, ← ys_add, ← ys_add, ← ys_add]
theorem rd_zero : ((0 : UInt8).toNat : Int) = 0 := rfl
theorem back_zero (s : W) : crc_back.f (ui s) 0 = some (ui (bk s 0)) := crc_back.f_ui s 0
/-- the four bytes, laid at their places. -/
def laid4 (l : List UInt8) (p : Nat) (v : W) : List UInt8 := (((l.set p (low v)).set (p + 1) (low (v >>> 8))).set (p + 2) (low (v >>> 16))).set (p + 3) (low (v >>> 24))
theorem laid4_eq (l : List UInt8) (p : Nat) (v : W) (h : p + 4 ≤ l.length) : laid4 l p v = l.take p ++ four v ++ l.drop (p + 4) := by
  unfold laid4 four
  apply List.ext_getElem
  · simp; omega
  · intro i h1 h2
    simp only [List.length_set] at h1
    simp only [List.getElem_set]
    have hp : (l.take p).length = p := by rw [List.length_take]; omega
    by_cases a : i < p
    · rw [if_neg (by omega), if_neg (by omega), if_neg (by omega), if_neg (by omega)]
      rw [List.getElem_append_left (by simp; omega), List.getElem_append_left (by omega), List.getElem_take]
    · by_cases b : p + 4 ≤ i
      · rw [if_neg (by omega), if_neg (by omega), if_neg (by omega), if_neg (by omega)]
        rw [List.getElem_append_right (by simp; omega), List.getElem_drop]
        congr 1
        simp; omega
      · have hi : i = p ∨ i = p + 1 ∨ i = p + 2 ∨ i = p + 3 := by omega
        rw [List.getElem_append_left (by simp; omega), List.getElem_append_right (by omega)]
        have e : ∀ (j : Nat) (hj : j < 4) (hh : i - (l.take p).length < [low v, low (v >>> 8), low (v >>> 16), low (v >>> 24)].length), i = p + j → [low v, low (v >>> 8), low (v >>> 16), low (v >>> 24)][i - (l.take p).length]'hh = [low v, low (v >>> 8), low (v >>> 16), low (v >>> 24)][j]'(by simpa using hj) := by
          intro j hj hh e
          congr 1; omega
        rcases hi with rfl | rfl | rfl | rfl
        · rw [e 0 (by omega) _ rfl]; simp
        · rw [e 1 (by omega) _ rfl]; simp
        · rw [e 2 (by omega) _ rfl]; simp
        · rw [e 3 (by omega) _ rfl]; simp
theorem shrbyte (s : W) (k : Nat) (h : k ≤ 32) : shr .u32 (ui s) (k : Int) % (256 : Int) = ((low (s >>> k)).toNat : Int) := by
  have e : shr .u32 (ui s) (k : Int) = ui (s >>> k) := by
    unfold shr ui
    rw [BitVec.toNat_ushiftRight, Nat.shiftRight_eq_div_pow, Int.toNat_natCast]
    have : min k (IntKind.bits .u32) = k := by simp [IntKind.bits]; omega
    rw [this]; push_cast; rfl
  rw [e, low_ui]
theorem set_bl (l : List UInt8) (i : Nat) (b : UInt8) : (bl l).set i (b.toNat : Int) = bl (l.set i b) := by unfold bl; rw [List.map_set]
theorem take_bl (l : List UInt8) (i : Nat) : (bl l).take i = bl (l.take i) := by unfold bl; rw [List.map_take]
theorem forge_sets (l : List UInt8) (p : Nat) (v : W) (h : p + 4 ≤ l.length) (hl : l.length ≤ 140737488351232) : Ev (fun k => crc_Forge.l2 k (p : Int) (bl l) (ui v) 0) (bl (laid4 l p v), 0) := by
  have go : ∀ (j : Nat) (m : List UInt8) (r : List Int × Int), j < 4 → m.length = l.length → Ev (fun k => crc_Forge.l2 k (p : Int) (bl (m.set (p + j) (low (v >>> (8 * j))))) (ui v) ((j + 1 : Nat) : Int)) r → Ev (fun k => crc_Forge.l2 k (p : Int) (bl m) (ui v) (j : Int)) r := by
    intro j m r hj hm hr
    refine Ev.step (fun k => ?_) hr
    simp only [crc_Forge.l2]
    have e8 : wrap64 (8 * (j : Int)) = ((8 * j : Nat) : Int) := by unfold wrap64; omega
    rw [if_pos (by omega), e8, if_pos (by omega), wrapA p j (by omega), if_pos (by omega), if_pos (by rw [bl_length]; omega), Int.toNat_natCast, shrbyte v (8 * j) (by omega), set_bl, wrapS j (by omega)]
  refine go 0 l _ (by omega) rfl ?_
  refine go 1 _ _ (by omega) (by simp) ?_
  refine go 2 _ _ (by omega) (by simp) ?_
  refine go 3 _ _ (by omega) (by simp) ?_
  refine Ev.step (f := fun _ => some _) (fun k => ?_) (Ev.now _)
  simp only [crc_Forge.l2]
  rw [if_neg (by omega)]
  simp [laid4]
theorem forge_mid (l : List UInt8) (p : Nat) (s : W) (m : List UInt8) (r : List Int × Int) (h : p + 4 ≤ l.length) (hl : l.length ≤ 140737488351232)
    (hr : Ev (fun k => crc_Forge.l2 k (p : Int) (bl m) (ui (ys 32 s ^^^ reg (BitVec.allOnes 32) (l.take p))) 0) r) : Ev (fun k => crc_Forge.l1 k (bl l) (p : Int) (bl m) (ui s) 0) r := by
  have go : ∀ (j : Nat) (s : W), j < 4 → Ev (fun k => crc_Forge.l1 k (bl l) (p : Int) (bl m) (ui (bk s 0)) ((j + 1 : Nat) : Int)) r → Ev (fun k => crc_Forge.l1 k (bl l) (p : Int) (bl m) (ui s) (j : Int)) r := by
    intro j s hj hr
    refine Ev.step (fun k => ?_) hr
    simp only [crc_Forge.l1]
    rw [if_pos (by omega), back_zero, Option.bind_some, wrapS j (by omega)]
  refine go 0 _ (by omega) ?_
  refine go 1 _ (by omega) ?_
  refine go 2 _ (by omega) ?_
  refine go 3 _ (by omega) ?_
  rw [ys_zero4]
  refine Ev.step (f := fun k => (crc_Update.f k 0 (bl (l.take p))).bind fun t => crc_Forge.l2 k (p : Int) (bl m) (Go.bits .xor .u32 (ui (ys 32 s)) (Go.bits .xor .u32 4294967295 t)) 0) (fun k => ?_) ?_
  · simp only [crc_Forge.l1]
    rw [if_neg (by omega), if_pos (by omega), if_pos (by rw [bl_length]; omega), Int.toNat_natCast, take_bl]
  · rw [zero_ui]
    refine Ev.bind (update_ev _ _ (by rw [List.length_take]; unfold maxLen; omega)) ?_
    rw [ones_ui, xor_ui, xor_ui]
    have e : BitVec.allOnes 32 ^^^ upd (BitVec.ofNat 32 0) (l.take p) = reg (BitVec.allOnes 32) (l.take p) := by
      unfold upd
      rw [show ~~~ (BitVec.ofNat 32 0) = BitVec.allOnes 32 by decide, not_eq, BitVec.xor_comm, BitVec.xor_assoc, BitVec.xor_self, BitVec.xor_zero]
    rw [e]
    exact hr
theorem forge_back (l : List UInt8) (p : Nat) (t : W) (x : List Int) (r : List Int × Int) (hl : l.length ≤ 140737488351232) (hr : Ev (fun k => crc_Forge.l1 k (bl l) (p : Int) x (ui (bks t (l.drop (p + 4)))) 0) r) (m : Nat) :
    p + 4 + m ≤ l.length → Ev (fun k => crc_Forge.l0 k (bl l) (p : Int) x (ui (bks t (l.drop (p + 4 + m)))) ((p + 3 + m : Nat) : Int)) r := by
  have e4 : p + 4 ≤ 140737488351236 → wrap64 ((p : Int) + 4) = ((p + 4 : Nat) : Int) := fun h => by unfold wrap64; omega
  induction m with
  | zero =>
    intro hm
    refine Ev.step (fun k => ?_) hr
    simp only [crc_Forge.l0]
    rw [e4 (by omega), if_neg (by omega)]
  | succ m ih =>
    intro hm
    refine Ev.step (fun k => ?_) (ih (by omega))
    simp only [crc_Forge.l0]
    have em : wrap64 (((p + 3 + (m + 1) : Nat) : Int) - 1) = ((p + 3 + m : Nat) : Int) := by unfold wrap64; omega
    rw [e4 (by omega), if_pos (by omega), if_pos (by omega), if_pos (by rw [bl_length]; omega), rd_bl _ _ (by omega), crc_back.f_ui, Option.bind_some, em]
    have eg : l[p + 3 + (m + 1)]'(by omega) = l[p + 4 + m]'(by omega) := by congr 1; omega
    rw [bks_drop t l (p + 4 + m) (by omega), eg]
    rfl
/-- Forge's answer. -/
def forged (l : List UInt8) (p : Nat) (want : W) : List UInt8 := l.take p ++ four (chosen (l.take p) (l.drop (p + 4)) want) ++ l.drop (p + 4)
theorem forge_ev (l : List UInt8) (p : Nat) (want : W) (h : p + 4 ≤ l.length) (hl : l.length ≤ 140737488351232) : Ev (fun k => crc_Forge.f k (bl l) (p : Int) (ui want)) (bl (forged l p want), 0) := by
  unfold crc_Forge.f
  have ew : wrap64 (((bl l).length : Int) - 4) = ((l.length - 4 : Nat) : Int) := by rw [bl_length]; unfold wrap64; omega
  refine Ev.congr (f := fun k => crc_Forge.j0 k (bl l) (p : Int) (ui want) false) (fun k => ?_) ?_
  · rw [if_neg (by omega), ew, decide_eq_false (by omega)]
  · have hs := forge_sets l p (chosen (l.take p) (l.drop (p + 4)) want) h hl
    rw [laid4_eq l p _ h] at hs
    have hm := forge_mid l p (bks (~~~ want) (l.drop (p + 4))) l _ h hl (by rw [BitVec.xor_comm]; exact hs)
    have hb := forge_back l p (~~~ want) (bl l) _ hl hm (l.length - (p + 4)) (by omega)
    have e1 : wrap64 (((bl l).length : Int) - 1) = ((p + 3 + (l.length - (p + 4)) : Nat) : Int) := by rw [bl_length]; unfold wrap64; omega
    have e2 : l.drop (p + 4 + (l.length - (p + 4))) = [] := List.drop_eq_nil_of_le (by omega)
    rw [e2] at hb
    refine Ev.step (fun k => ?_) hb
    simp only [crc_Forge.j0]
    rw [if_neg (by decide), if_pos (by rw [bl_length]; simp; omega), List.nil_append, e1, ones_ui, xor_ui]
    have e3 : BitVec.allOnes 32 ^^^ want = bks (~~~ want) [] := by rw [BitVec.xor_comm, ← not_eq]; rfl
    rw [e3]
theorem forge_out (l : List Int) (a : Int) (want : Int) (hl : l.length ≤ 140737488351232) (h : a < 0 ∨ a > (l.length : Int) - 4) : Ev (fun k => crc_Forge.f k l a want) ([], 1) := by
  have out : Ev (fun k => crc_Forge.j0 k l a want true) ([], 1) := Ev.step (f := fun _ => some ([], 1)) (fun k => by simp only [crc_Forge.j0]; rw [if_pos trivial]) (Ev.now _)
  unfold crc_Forge.f
  have ew : wrap64 ((l.length : Int) - 4) = (l.length : Int) - 4 := by unfold wrap64; omega
  by_cases h0 : a < 0
  · exact Ev.congr (fun k => by rw [if_pos h0]) out
  · exact Ev.congr (fun k => by rw [if_neg h0, ew, decide_eq_true (by omega)]) out

theorem rback_loop (n : Nat) : ∀ (s : W) (b : UInt8) (i : Nat), i + n = 8 → Ev (fun k => amberref01_back.l0 k (ui s) (b.toNat : Int) (i : Int)) (ui (ys n s ^^^ bw b)) := by
  induction n with
  | zero =>
    intro s b i hi
    refine Ev.step (f := fun _ => some _) (fun k => by simp only [amberref01_back.l0]; rw [if_neg (by omega)]) ?_
    rw [byte_mod, xor_ui]
    exact Ev.now _
  | succ n ih =>
    intro s b i hi
    rw [ys]
    refine Ev.step (fun k => ?_) (ih (Y s) b (i + 1) (by omega))
    simp only [amberref01_back.l0]
    rw [if_pos (by omega), wrapS i (by omega)]
    unfold Y
    by_cases h : s.getLsbD 31 = true
    · rw [if_pos ((top_bit s).2 h), if_pos h, poly_ui, xor_ui, dbl_ui]
      have e1 : (1 : Int) = ui (BitVec.ofNat 32 1) := by decide
      rw [e1, Back.or_ui]
    · rw [if_neg (fun e => h ((top_bit s).1 e)), if_neg h, dbl_ui]
theorem rback_ev (s : W) (b : UInt8) : Ev (fun k => amberref01_back.f k (ui s) (b.toNat : Int)) (ui (bk s b)) := rback_loop 8 s b 0 rfl
theorem rforge_sets (l : List UInt8) (p : Nat) (v : W) (h : p + 4 ≤ l.length) (hl : l.length ≤ 140737488351232) : Ev (fun k => amberref01_Forge.l3 k (p : Int) (ui v) (bl l) 0) (bl (laid4 l p v), 0) := by
  have go : ∀ (j : Nat) (m : List UInt8) (r : List Int × Int), j < 4 → m.length = l.length → Ev (fun k => amberref01_Forge.l3 k (p : Int) (ui v) (bl (m.set (p + j) (low (v >>> (8 * j))))) ((j + 1 : Nat) : Int)) r → Ev (fun k => amberref01_Forge.l3 k (p : Int) (ui v) (bl m) (j : Int)) r := by
    intro j m r hj hm hr
    refine Ev.step (fun k => ?_) hr
    simp only [amberref01_Forge.l3]
    have e8 : wrap64 (8 * (j : Int)) = ((8 * j : Nat) : Int) := by unfold wrap64; omega
    rw [if_pos (by omega), e8, if_pos (by omega), wrapA p j (by omega), if_pos (by omega), if_pos (by rw [bl_length]; omega), Int.toNat_natCast, shrbyte v (8 * j) (by omega), set_bl, wrapS j (by omega)]
  refine go 0 l _ (by omega) rfl ?_
  refine go 1 _ _ (by omega) (by simp) ?_
  refine go 2 _ _ (by omega) (by simp) ?_
  refine go 3 _ _ (by omega) (by simp) ?_
  refine Ev.step (f := fun _ => some _) (fun k => ?_) (Ev.now _)
  simp only [amberref01_Forge.l3]
  rw [if_neg (by omega)]
  simp [laid4]
theorem rforge_mid (l : List UInt8) (p : Nat) (s8 s : W) (r : List Int × Int) (hl : l.length ≤ 140737488351232)
    (hr : Ev (fun k => amberref01_Forge.l3 k (p : Int) (ui (s8 ^^^ ys 32 s)) (bl l) 0) r) : Ev (fun k => amberref01_Forge.l2 k (bl l) (p : Int) (ui s8) (ui s) 0) r := by
  have go : ∀ (j : Nat) (s : W), j < 4 → Ev (fun k => amberref01_Forge.l2 k (bl l) (p : Int) (ui s8) (ui (bk s 0)) ((j + 1 : Nat) : Int)) r → Ev (fun k => amberref01_Forge.l2 k (bl l) (p : Int) (ui s8) (ui s) (j : Int)) r := by
    intro j s hj hr
    refine Ev.step (f := fun k => (amberref01_back.f k (ui s) 0).bind fun t => amberref01_Forge.l2 k (bl l) (p : Int) (ui s8) t ((j + 1 : Nat) : Int)) (fun k => ?_) (Ev.bind (rback_ev s 0) hr)
    simp only [amberref01_Forge.l2]
    rw [if_pos (by omega), wrapS j (by omega)]
  refine go 0 _ (by omega) ?_
  refine go 1 _ (by omega) ?_
  refine go 2 _ (by omega) ?_
  refine go 3 _ (by omega) ?_
  rw [ys_zero4]
  refine Ev.step (fun k => ?_) hr
  simp only [amberref01_Forge.l2]
  rw [if_neg (by omega), if_pos (by rw [bl_length]; simp; omega), List.nil_append, xor_ui]
theorem rforge_back (l : List UInt8) (p : Nat) (s8 t : W) (r : List Int × Int) (hl : l.length ≤ 140737488351232) (hr : Ev (fun k => amberref01_Forge.l2 k (bl l) (p : Int) (ui s8) (ui (bks t (l.drop (p + 4)))) 0) r) (m : Nat) :
    p + 4 + m ≤ l.length → Ev (fun k => amberref01_Forge.l1 k (bl l) (p : Int) (ui s8) (ui (bks t (l.drop (p + 4 + m)))) ((p + 3 + m : Nat) : Int)) r := by
  have e4 : p + 4 ≤ 140737488351236 → wrap64 ((p : Int) + 4) = ((p + 4 : Nat) : Int) := fun h => by unfold wrap64; omega
  induction m with
  | zero =>
    intro hm
    refine Ev.step (fun k => ?_) hr
    simp only [amberref01_Forge.l1]
    rw [e4 (by omega), if_neg (by omega)]
  | succ m ih =>
    intro hm
    have em : wrap64 (((p + 3 + (m + 1) : Nat) : Int) - 1) = ((p + 3 + m : Nat) : Int) := by unfold wrap64; omega
    refine Ev.step (f := fun k => (amberref01_back.f k (ui (bks t (l.drop (p + 4 + (m + 1))))) (rd (bl l) ((p + 3 + (m + 1) : Nat) : Int))).bind fun q => amberref01_Forge.l1 k (bl l) (p : Int) (ui s8) q ((p + 3 + m : Nat) : Int)) (fun k => ?_) ?_
    · simp only [amberref01_Forge.l1]
      rw [e4 (by omega), if_pos (by omega), if_pos (by omega), if_pos (by rw [bl_length]; omega), em]
    · rw [rd_bl _ _ (by omega)]
      refine Ev.bind (rback_ev _ _) ?_
      have hx := ih (by omega)
      have eg : l[p + 3 + (m + 1)]'(by omega) = l[p + 4 + m]'(by omega) := by congr 1; omega
      rw [bks_drop t l (p + 4 + m) (by omega), ← eg] at hx
      exact hx
theorem rforge_fwd (l : List UInt8) (p : Nat) (want : W) (r : List Int × Int) (h : p + 4 ≤ l.length) (hl : l.length ≤ 140737488351232) (hr : Ev (fun k => amberref01_Forge.l1 k (bl l) (p : Int) (ui (reg (BitVec.allOnes 32) (l.take p))) (ui (~~~ want)) (wrap64 (((bl l).length : Int) - 1))) r) (m : Nat) :
    ∀ i, i + m = p → Ev (fun k => amberref01_Forge.l0 k (bl l) (p : Int) (ui want) (ui (reg (BitVec.allOnes 32) (l.take i))) (i : Int)) r := by
  induction m with
  | zero =>
    intro i hi
    obtain rfl : i = p := by omega
    refine Ev.step (fun k => ?_) hr
    simp only [amberref01_Forge.l0]
    rw [if_neg (by omega), ones_ui, xor_ui, ← not_eq]
  | succ m ih =>
    intro i hi
    refine Ev.step (f := fun k => (amberref01_step.f k (ui (reg (BitVec.allOnes 32) (l.take i))) (rd (bl l) (i : Int))).bind fun q => amberref01_Forge.l0 k (bl l) (p : Int) (ui want) q ((i + 1 : Nat) : Int)) (fun k => ?_) ?_
    · simp only [amberref01_Forge.l0]
      rw [if_pos (by omega), if_pos (by omega), if_pos (by rw [bl_length]; omega), wrapS i (by omega)]
    · rw [rd_bl _ _ (by omega)]
      refine Ev.bind (rstep_ev _ _) ?_
      have hx := ih (i + 1) (by omega)
      rw [List.take_succ_eq_append_getElem (show i < l.length by omega), reg_snoc] at hx
      exact hx
theorem rforge_ev (l : List UInt8) (p : Nat) (want : W) (h : p + 4 ≤ l.length) (hl : l.length ≤ 140737488351232) : Ev (fun k => amberref01_Forge.f k (bl l) (p : Int) (ui want)) (bl (forged l p want), 0) := by
  unfold amberref01_Forge.f
  have ew : wrap64 (((bl l).length : Int) - 4) = ((l.length - 4 : Nat) : Int) := by rw [bl_length]; unfold wrap64; omega
  refine Ev.congr (f := fun k => amberref01_Forge.j0 k (bl l) (p : Int) (ui want) false) (fun k => ?_) ?_
  · rw [if_neg (by omega), ew, decide_eq_false (by omega)]
  · have hs := rforge_sets l p (chosen (l.take p) (l.drop (p + 4)) want) h hl
    rw [laid4_eq l p _ h] at hs
    have hm := rforge_mid l p (reg (BitVec.allOnes 32) (l.take p)) (bks (~~~ want) (l.drop (p + 4))) _ hl hs
    have hb := rforge_back l p _ (~~~ want) _ hl hm (l.length - (p + 4)) (by omega)
    have e1 : wrap64 (((bl l).length : Int) - 1) = ((p + 3 + (l.length - (p + 4)) : Nat) : Int) := by rw [bl_length]; unfold wrap64; omega
    have e2 : l.drop (p + 4 + (l.length - (p + 4))) = [] := List.drop_eq_nil_of_le (by omega)
    rw [e2, ← e1] at hb
    have hf := rforge_fwd l p want _ h hl hb p 0 (by omega)
    refine Ev.step (fun k => ?_) hf
    simp only [amberref01_Forge.j0]
    rw [if_neg (by decide), ones_ui]
    rfl
theorem rforge_out (l : List Int) (a : Int) (want : Int) (hl : l.length ≤ 140737488351232) (h : a < 0 ∨ a > (l.length : Int) - 4) : Ev (fun k => amberref01_Forge.f k l a want) ([], 1) := by
  have out : Ev (fun k => amberref01_Forge.j0 k l a want true) ([], 1) := Ev.step (f := fun _ => some ([], 1)) (fun k => by simp only [amberref01_Forge.j0]; rw [if_pos trivial]) (Ev.now _)
  unfold amberref01_Forge.f
  have ew : wrap64 ((l.length : Int) - 4) = (l.length : Int) - 4 := by unfold wrap64; omega
  by_cases h0 : a < 0
  · exact Ev.congr (fun k => by rw [if_pos h0]) out
  · exact Ev.congr (fun k => by rw [if_neg h0, ew, decide_eq_true (by omega)]) out
theorem same_self (l : List Int) : amberlaw01_same.f l l = some true := by unfold amberlaw01_same.f; rw [beq_self_eq_true]
end Go.Proofs.Ytcfnpippmdijaaa.Bridge
