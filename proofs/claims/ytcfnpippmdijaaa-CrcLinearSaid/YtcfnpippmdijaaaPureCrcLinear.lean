/- For every two lists of bytes: what distinguishes two strings of one length distinguishes their sums, whatever the strings are. No condition beside the reach of a slice. -/
import Derived.Test.YtcfnpippmdijaaaPAllx3
import Derived.Test.YtcfnpippmdijaaaBridge
namespace Go.Proofs.Ytcfnpippmdijaaa.Pure
open Go.RowKit Go.Proofs.Ytcfnpippmdijaaa.PAll Go.Proofs.YtcfnpippmdijaaaW.PrintWords Go.Proofs.YtcfnpippmdijaaaW.PrintLast Go.Proofs.Ytcfnpippmdijaaa.Bridge

/-- the first n bytes of d, zeros behind: as many as x has. -/
def cutTo (n : Nat) (x d : List UInt8) : List UInt8 := d.take n ++ List.replicate (x.length - n) 0
theorem cutTo_length (n : Nat) (x d : List UInt8) (h : n ≤ d.length) (h2 : n ≤ x.length) : (cutTo n x d).length = x.length := by
  unfold cutTo; rw [List.length_append, List.length_take, List.length_replicate]; omega
theorem cutTo_succ (n : Nat) (x d : List UInt8) (h : n < d.length) (h2 : n < x.length) : cutTo (n + 1) x d = (cutTo n x d).set n d[n] := by
  unfold cutTo
  obtain ⟨m, hm⟩ : ∃ m, x.length - n = m + 1 := ⟨x.length - n - 1, by omega⟩
  rw [hm, show x.length - (n + 1) = m by omega, List.take_succ_eq_append_getElem h, List.append_assoc]
  rw [List.set_append_right _ _ (by rw [List.length_take]; omega)]
  rw [show n - (d.take n).length = 0 by rw [List.length_take]; omega]
  rfl
def turnedTo (n : Nat) (x d : List UInt8) : List UInt8 := List.zipWith (· ^^^ ·) x (cutTo n x d)
theorem turnedTo_length (n : Nat) (x d : List UInt8) (h : n ≤ d.length) (h2 : n ≤ x.length) : (turnedTo n x d).length = x.length := by
  unfold turnedTo; rw [List.length_zipWith, cutTo_length n x d h h2, Nat.min_self]
theorem zip_zeros (x : List UInt8) : List.zipWith (· ^^^ ·) x (List.replicate x.length 0) = x := by
  induction x with
  | nil => rfl
  | cons a l ih => rw [List.length_cons, List.replicate_succ, List.zipWith_cons_cons, ih]; simp
theorem turnedTo_zero (x d : List UInt8) : turnedTo 0 x d = x := by
  unfold turnedTo cutTo; rw [List.take_zero, List.nil_append, Nat.sub_zero, zip_zeros]
theorem cutTo_at (n : Nat) (x d : List UInt8) (h : n ≤ d.length) (h2 : n < x.length) : (cutTo n x d)[n]'(by rw [cutTo_length n x d h (by omega)]; exact h2) = 0 := by
  unfold cutTo
  rw [List.getElem_append_right (by rw [List.length_take]; omega), List.getElem_replicate]
theorem turnedTo_at (n : Nat) (x d : List UInt8) (h : n ≤ d.length) (h2 : n < x.length) : (turnedTo n x d)[n]'(by rw [turnedTo_length n x d h (by omega)]; exact h2) = x[n] := by
  unfold turnedTo
  rw [List.getElem_zipWith, cutTo_at n x d h h2]; simp
theorem turnedTo_succ (n : Nat) (x d : List UInt8) (h : n < d.length) (h2 : n < x.length) : turnedTo (n + 1) x d = (turnedTo n x d).set n (x[n] ^^^ d[n]) := by
  apply List.ext_getElem
  · rw [turnedTo_length _ _ _ (by omega) (by omega), List.length_set, turnedTo_length _ _ _ (by omega) (by omega)]
  · intro i h1 h3
    rw [List.getElem_set]
    unfold turnedTo
    simp only [List.getElem_zipWith, cutTo_succ n x d h h2, List.getElem_set]
    by_cases e : n = i
    · subst e; simp
    · simp [e]
theorem bl_set (l : List UInt8) (i : Nat) (b : UInt8) : (bl l).set i (b.toNat : Int) = bl (l.set i b) := by unfold bl; rw [List.map_set]
theorem bl_zeros (n : Nat) : List.replicate n (0 : Int) = bl (List.replicate n 0) := by unfold bl; rw [List.map_replicate]; rfl
theorem rd_bl' (l : List UInt8) (i : Nat) (h : i < l.length) : rd (bl l) (i : Int) = (l[i].toNat : Int) := rd_bl l i h

theorem linear_end (x y z d : List UInt8) (hx : x.length ≤ 140737488351232) (hy : y.length ≤ maxLen) (hz : z.length ≤ maxLen) (hd : d.length ≤ maxLen) (h : CrcM.sum x ^^^ CrcM.sum y = CrcM.sum z ^^^ CrcM.sum d) :
    Ev (fun k => amberlaw01_CrcLinear.j1 k (bl x) (bl y) (bl z) (bl d)) true := by
  refine Ev.step (fun k => by simp only [amberlaw01_CrcLinear.j1]; exact rfl) ?_
  rw [copied_eq _ (by rw [bl_length]; exact hx)]
  simp only [Option.bind_some]
  refine Ev.bind (sum_ev x (by unfold maxLen; omega)) ?_
  refine Ev.bind (sum_ev y hy) ?_
  refine Ev.bind (sum_ev z hz) ?_
  refine Ev.bind (f := fun _ t => some (Go.bits .xor .u32 (ui (CrcM.sum x)) (ui (CrcM.sum y)) == Go.bits .xor .u32 (ui (CrcM.sum z)) t)) (sum_ev d hd) ?_
  rw [xor_ui, xor_ui, h, beq_self_eq_true]
  exact Ev.now _
theorem linear_fin (x d : List UInt8) (n : Nat) (hx : x.length ≤ 140737488351232) (h1 : n ≤ x.length) (h2 : n ≤ d.length) :
    Ev (fun k => amberlaw01_CrcLinear.j1 k (bl x) (bl (turnedTo n x d)) (bl (List.replicate x.length 0)) (bl (cutTo n x d))) true := by
  have hl := turnedTo_length n x d h2 h1
  have hl2 := cutTo_length n x d h2 h1
  refine linear_end x _ _ _ hx ?_ ?_ ?_ (CrcM.linear x _ _ hl2 rfl)
  · unfold maxLen; omega
  · unfold maxLen; rw [List.length_replicate]; omega
  · unfold maxLen; omega
theorem linear_loop (m : Nat) : ∀ (x d : List UInt8) (n : Nat), x.length ≤ 140737488351232 → n + m = x.length → n ≤ d.length →
    Ev (fun k => amberlaw01_CrcLinear.l0 k (bl x) (bl d) (bl (turnedTo n x d)) (bl (List.replicate x.length 0)) (bl (cutTo n x d)) (n : Int)) true := by
  induction m with
  | zero =>
    intro x d n hx hn h2
    refine Ev.step (fun k => ?_) (linear_fin x d n hx (by omega) h2)
    simp only [amberlaw01_CrcLinear.l0]
    rw [if_neg (by rw [bl_length]; omega)]
  | succ m ih =>
    intro x d n hx hn h2
    by_cases h3 : n < d.length
    · refine Ev.step (fun k => ?_) (ih x d (n + 1) hx (by omega) (by omega))
      simp only [amberlaw01_CrcLinear.l0]
      have hl := turnedTo_length n x d h2 (by omega)
      have hl2 := cutTo_length n x d h2 (by omega)
      rw [if_pos (by rw [bl_length]; omega), if_pos (by rw [bl_length]; omega), if_pos (by omega), if_pos (by rw [bl_length]; omega), if_pos (by rw [bl_length]; omega),
        wrapS n (by omega), Int.toNat_natCast, rd_bl _ n (by omega), rd_bl _ n h3, turnedTo_at n x d h2 (by omega), xor_byte, bl_set, bl_set, ← turnedTo_succ n x d h3 (by omega), ← cutTo_succ n x d h3 (by omega)]
    · refine Ev.step (fun k => ?_) (linear_fin x d n hx (by omega) h2)
      simp only [amberlaw01_CrcLinear.l0]
      rw [if_pos (by rw [bl_length]; omega), if_neg (by rw [bl_length]; omega)]
theorem CrcLinear : amberlaw01_CrcLinear.Pure := by
  intro l d hl hs hw hl2 hs2 hw2
  obtain ⟨L, rfl⟩ := of_bytes hw
  obtain ⟨D, rfl⟩ := of_bytes hw2
  rw [bl_length] at hl hs hl2 hs2
  refine Ev.rounds (g := fun k => amberlaw01_CrcLinear.f k (bl L) (bl D)) ?_
  unfold amberlaw01_CrcLinear.f
  refine Ev.bind known_ev ?_
  rw [copied_eq _ (by rw [bl_length]; omega)]
  simp only [Option.bind_some, if_true]
  have h := linear_loop L.length L D 0 (by omega) (by omega) (by omega)
  rw [turnedTo_zero] at h
  have e : cutTo 0 L D = List.replicate L.length 0 := by unfold cutTo; simp
  rw [e] at h
  refine Ev.congr (fun k => ?_) h
  rw [if_pos (by omega), if_pos (by rw [bl_length]; omega), Int.toNat_natCast, bl_zeros, bl_length]
  rfl

end Go.Proofs.Ytcfnpippmdijaaa.Pure
