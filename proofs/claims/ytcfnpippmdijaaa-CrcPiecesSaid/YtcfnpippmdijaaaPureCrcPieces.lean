/- For every list of bytes and every list of cuts: a digest's sum and length are those of the bytes that were written, whatever the pieces. No condition beside the reach of a slice. -/
import Derived.Test.YtcfnpippmdijaaaPMorex5
import Derived.Test.YtcfnpippmdijaaaBridge
import Derived.Test.YtcfnpippmdijaaaBurst
namespace Go.Proofs.Ytcfnpippmdijaaa.Pure
open Go.RowKit Go.Proofs.Ytcfnpippmdijaaa.PAll Go.Proofs.Ytcfnpippmdijaaa.PMore Go.Proofs.Ytcfnpippmdijaaa.PGiven Go.Proofs.YtcfnpippmdijaaaW.PrintWords Go.Proofs.YtcfnpippmdijaaaW.PrintLast Go.Proofs.YtcfnpippmdijaaaW.PrintMore Go.Proofs.Ytcfnpippmdijaaa.Bridge CrcM

theorem in_i64 {a : Int} (h : (Lit.int .i64 a).wf = true) : -9223372036854775808 ≤ a ∧ a ≤ 9223372036854775807 := by
  simpa [Lit.wf, IntKind.min, IntKind.max, IntKind.signed, IntKind.bits] using h
theorem bl_take (l : List UInt8) (i : Nat) : (bl l).take i = bl (l.take i) := by unfold bl; rw [List.map_take]
theorem bl_drop (l : List UInt8) (i : Nat) : (bl l).drop i = bl (l.drop i) := by unfold bl; rw [List.map_drop]
theorem copied_bl (l : List UInt8) (hl : l.length ≤ 140737488351232) : amberlaw01_copied.f (bl l) = some (bl l) := copied_eq _ (by rw [bl_length]; exact hl)
theorem write_ev (l : List UInt8) (s : W) (n : Nat) (hl : l.length ≤ 140737488351232) (hn : n ≤ 140737488351232) : Ev (fun k => crc_Digest_Write.f k (ui s) (n : Int) (bl l)) (ui (upd s l), ((n + l.length : Nat) : Int)) := by
  unfold crc_Digest_Write.f
  refine Ev.bind (f := fun _ t => some (t, wrap64 ((n : Int) + ((bl l).length : Int)))) (update_ev s l (by unfold maxLen; omega)) ?_
  rw [bl_length, wrapA n l.length (by omega)]
  exact Ev.now _
theorem tmodN (c n : Nat) : Int.tmod (c : Int) (n : Int) = ((c % n : Nat) : Int) := by rw [Int.tmod_eq_emod_of_nonneg (by omega), Int.natCast_emod]
theorem rd_at (l : List Int) (i : Nat) (h : i < l.length) : rd l (i : Int) = l[i] := by
  unfold rd; rw [List.getD_eq_getElem?_getD, Int.toNat_natCast, List.getElem?_eq_getElem h]; rfl
theorem pieces_end (s n : Int) : Ev (fun k => amberlaw01_CrcPieces.j2 k false s n) true := by
  refine Ev.step (f := fun _ => some true) (fun k => ?_) (Ev.now _)
  simp only [amberlaw01_CrcPieces.j2, crc_Digest_Reset.f, crc_Digest_Len.f, crc_Digest_Sum.f, Option.bind_some]
  rfl
theorem sum_take (l : List UInt8) (n r : Nat) : upd (CrcM.sum (l.take n)) ((l.drop n).take r) = CrcM.sum (l.take (n + r)) := by
  rw [← sum_append, ← List.take_add]
/-- what follows a piece. -/
def afterW (l : List UInt8) (cuts : List Int) (t i : Nat) (k : Nat) (q : Int × Int) : Option Bool :=
  if wrap64 (q.2 + ((bl (l.drop t)).length : Int)) = ((bl l).length : Int) then (crc_Sum.f k (bl (l.take t))).bind fun u => if q.1 = u then amberlaw01_CrcPieces.l0 k (bl l) cuts (bl (l.drop t)) ((i + 1 : Nat) : Int) q.1 q.2 else some false else some false
theorem round_unfold (l : List UInt8) (cuts : List Int) (n r i c k : Nat) (s : W) (hl : l.length ≤ 140737488351232) (hc : cuts.length ≤ 140737488351232) (hi : i < cuts.length) (hn : n ≤ l.length) (hrr : c % (l.length - n + 1) = r) (hrle : r ≤ l.length - n) :
    amberlaw01_CrcPieces.j1 (k + 1) (bl l) cuts (bl (l.drop n)) (i : Int) (c : Int) (ui s) (n : Int) = (crc_Digest_Write.f k (ui s) (n : Int) (bl ((l.drop n).take r))).bind (afterW l cuts (n + r) i k) := by
  have hlen : ((bl (l.drop n)).length : Int) = ((l.length - n : Nat) : Int) := by rw [bl_length, List.length_drop]
  have hlen1 : wrap64 (((bl (l.drop n)).length : Int) + 1) = ((l.length - n + 1 : Nat) : Int) := by rw [hlen]; exact wrapS _ (by omega)
  have hr : Int.tmod (c : Int) ((l.length - n + 1 : Nat) : Int) = (r : Int) := by rw [tmodN, hrr]
  have e1 : wrap64 (((bl l).length : Int) - ((bl (l.drop (n + r))).length : Int)) = ((n + r : Nat) : Int) := by rw [bl_length, bl_length, List.length_drop]; unfold wrap64; omega
  simp only [amberlaw01_CrcPieces.j1]
  rw [hlen1, if_neg (by omega), hr, if_pos (by omega), hlen, if_pos (by omega), Int.toNat_natCast, bl_take, bl_drop, List.drop_drop]
  simp only [Option.bind_some]
  rw [copied_bl _ (by rw [List.length_take, List.length_drop]; omega), Option.bind_some, e1, wrapS i (by omega)]
  congr 1
  funext q
  unfold afterW
  simp only [crc_Digest_Len.f, crc_Digest_Sum.f, Option.bind_some]
  by_cases hq : wrap64 (q.2 + ((bl (l.drop (n + r))).length : Int)) = ((bl l).length : Int)
  · rw [if_pos hq, if_pos hq, if_pos (by omega), if_pos (by rw [bl_length]; omega), Int.toNat_natCast, bl_take, copied_bl _ (by rw [List.length_take]; omega)]
    simp only [Option.bind_some]
  · rw [if_neg hq, if_neg hq]
theorem round_ev (l : List UInt8) (cuts : List Int) (n i c : Nat) (hl : l.length ≤ 140737488351232) (hc : cuts.length ≤ 140737488351232) (hi : i < cuts.length) (hn : n ≤ l.length)
    (hrec : ∀ r, n + r ≤ l.length → Ev (fun k => amberlaw01_CrcPieces.l0 k (bl l) cuts (bl (l.drop (n + r))) ((i + 1 : Nat) : Int) (ui (CrcM.sum (l.take (n + r)))) ((n + r : Nat) : Int)) true) :
    Ev (fun k => amberlaw01_CrcPieces.j1 k (bl l) cuts (bl (l.drop n)) (i : Int) (c : Int) (ui (CrcM.sum (l.take n))) (n : Int)) true := by
  have hrle : c % (l.length - n + 1) ≤ l.length - n := by have := Nat.mod_lt c (show 0 < l.length - n + 1 by omega); omega
  generalize hrr : c % (l.length - n + 1) = r at hrle
  refine Ev.step (fun k => round_unfold l cuts n r i c k _ hl hc hi hn hrr hrle) ?_
  have e3 : ((l.drop n).take r).length = r := by rw [List.length_take, List.length_drop]; omega
  refine Ev.bind (write_ev _ _ n (by omega) (by omega)) ?_
  rw [sum_take, e3]
  have e4 : wrap64 (((n + r : Nat) : Int) + ((bl (l.drop (n + r))).length : Int)) = ((bl l).length : Int) := by
    rw [bl_length, bl_length, List.length_drop]; unfold wrap64; omega
  unfold afterW
  simp only [if_pos e4]
  refine Ev.bind (f := fun k t => if ui (CrcM.sum (l.take (n + r))) = t then amberlaw01_CrcPieces.l0 k (bl l) cuts (bl (l.drop (n + r))) ((i + 1 : Nat) : Int) (ui (CrcM.sum (l.take (n + r)))) ((n + r : Nat) : Int) else some false) (sum_ev (l.take (n + r)) (by rw [List.length_take]; unfold maxLen; omega)) ?_
  simp only [if_true]
  exact hrec r (by omega)
def afterEnd (l : List UInt8) (k : Nat) (q : Int × Int) : Option Bool :=
  if q.2 = ((bl l).length : Int) then (crc_Sum.f k (bl l)).bind fun t => amberlaw01_CrcPieces.j2 k (q.1 != t) q.1 q.2 else amberlaw01_CrcPieces.j2 k true q.1 q.2
theorem end_ev (l : List UInt8) (cuts : List Int) (n i : Nat) (hl : l.length ≤ 140737488351232) (hi : i = cuts.length) (hn : n ≤ l.length) :
    Ev (fun k => amberlaw01_CrcPieces.l0 k (bl l) cuts (bl (l.drop n)) (i : Int) (ui (CrcM.sum (l.take n))) (n : Int)) true := by
  refine Ev.step (f := fun k => (crc_Digest_Write.f k (ui (CrcM.sum (l.take n))) (n : Int) (bl (l.drop n))).bind (afterEnd l k)) (fun k => ?_) ?_
  · simp only [amberlaw01_CrcPieces.l0]
    rw [if_neg (by omega), copied_bl _ (by rw [List.length_drop]; omega), Option.bind_some]
    congr 1
    funext q
    unfold afterEnd
    simp only [crc_Digest_Len.f, crc_Digest_Sum.f, Option.bind_some, copied_bl l hl]
  · refine Ev.bind (write_ev _ _ n (by rw [List.length_drop]; omega) (by omega)) ?_
    have e : ((n + (l.drop n).length : Nat) : Int) = ((bl l).length : Int) := by rw [bl_length, List.length_drop]; omega
    unfold afterEnd
    simp only [if_pos e]
    refine Ev.bind (f := fun k t => amberlaw01_CrcPieces.j2 k (ui (upd (CrcM.sum (l.take n)) (l.drop n)) != t) (ui (upd (CrcM.sum (l.take n)) (l.drop n))) ((n + (l.drop n).length : Nat) : Int)) (sum_ev l (by unfold maxLen; omega)) ?_
    rw [← sum_append, List.take_append_drop, bne_self_eq_false]
    exact pieces_end _ _
theorem pieces_loop (m : Nat) : ∀ (l : List UInt8) (cuts : List Int) (n i : Nat), l.length ≤ 140737488351232 → cuts.length ≤ 140737488351232 → i + m = cuts.length → n ≤ l.length →
    (∀ x ∈ cuts, (Lit.int .i64 x).wf = true) →
    Ev (fun k => amberlaw01_CrcPieces.l0 k (bl l) cuts (bl (l.drop n)) (i : Int) (ui (CrcM.sum (l.take n))) (n : Int)) true := by
  induction m with
  | zero => intro l cuts n i hl hc hi hn hw; exact end_ev l cuts n i hl (by omega) hn
  | succ m ih =>
    intro l cuts n i hl hc hi hn hw
    have hlt : i < cuts.length := by omega
    have hx := in_i64 (hw cuts[i] (List.getElem_mem hlt))
    have hrd : rd cuts (i : Int) = cuts[i] := rd_at cuts i hlt
    have key : ∀ c : Nat, Ev (fun k => amberlaw01_CrcPieces.j1 k (bl l) cuts (bl (l.drop n)) (i : Int) (c : Int) (ui (CrcM.sum (l.take n))) (n : Int)) true := fun c =>
      round_ev l cuts n i c hl hc hlt hn (fun r hr => ih l cuts (n + r) (i + 1) hl hc (by omega) hr hw)
    by_cases hneg : cuts[i] < 0
    · have ew : wrap64 (-(wrap64 (cuts[i] + 1))) = ((-(cuts[i] + 1)).toNat : Int) := by unfold wrap64; omega
      refine Ev.step (fun k => ?_) (key (-(cuts[i] + 1)).toNat)
      simp only [amberlaw01_CrcPieces.l0]
      rw [if_pos (by omega), if_pos (by omega), hrd, if_pos hneg, ew]
    · refine Ev.step (fun k => ?_) (key cuts[i].toNat)
      simp only [amberlaw01_CrcPieces.l0]
      rw [if_pos (by omega), if_pos (by omega), hrd, if_neg hneg, Int.toNat_of_nonneg (by omega)]
theorem CrcPieces : amberlaw01_CrcPieces.Pure := by
  intro l cuts hl hs hw hl2 hs2 hw2
  obtain ⟨L, rfl⟩ := of_bytes hw
  rw [bl_length] at hl hs
  have hl' : L.length ≤ 140737488351232 := by omega
  refine Ev.rounds (g := fun k => amberlaw01_CrcPieces.f k (bl L) cuts) ?_
  unfold amberlaw01_CrcPieces.f
  refine Ev.bind known_ev ?_
  simp only [if_true, crc_New.f, Option.bind_some]
  rw [copied_bl L hl']
  simp only [Option.bind_some]
  have h := pieces_loop cuts.length L cuts 0 0 hl' (by omega) (by omega) (by omega) hw2
  have e : ui (CrcM.sum (L.take 0)) = 0 := by rw [List.take_zero]; decide
  rw [e] at h
  exact h

end Go.Proofs.Ytcfnpippmdijaaa.Pure
