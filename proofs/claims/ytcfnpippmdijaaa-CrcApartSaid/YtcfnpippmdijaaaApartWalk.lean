/- CrcApart walked. -/
import Derived.Test.YtcfnpippmdijaaaOwn
import Derived.Deep.CutRange
namespace Go.Proofs.Ytcfnpippmdijaaa.Apart
open Go.RowKit Go.Proofs.YtcfnpippmdijaaaW.PrintWords Go.Proofs.YtcfnpippmdijaaaW.PrintLast Go.Proofs.YtcfnpippmdijaaaW.PrintMore Go.Proofs.Ytcfnpippmdijaaa.Bridge Go.Proofs.Ytcfnpippmdijaaa.Mem Go.Proofs.Ytcfnpippmdijaaa.Dig
set_option linter.unusedVariables false
set_option linter.unusedSimpArgs false
theorem Own.front {B : Nat} {w : World} {b n c : Nat} {l r : List UInt8} (h : Own B w b n c (l ++ r)) : Kd.C (Kd.int .u8) w (some ⟨b, 0, none⟩) (bl l).length (bl l) := by
  have h1 := C_take h.C (bl l).length (by simp [bl_length])
  have h2 : (bl (l ++ r)).take (bl l).length = bl l := by rw [take_bl, bl_length, List.take_left]
  rwa [h2] at h1
theorem Own.of' {B : Nat} {w : World} {v : Value} {xs : List UInt8} (h : Rw w 5 .u8 v (bl xs)) (hx : 0 < xs.length) (hb : ∀ b, v.ownBlock = some b → B ≤ b) : ∃ b n c, v = .slice (some ⟨b, 0, none⟩) n c ∧ Own B w b n c xs := by
  obtain ⟨b, c, h1, h2⟩ := Own.of h hx hb
  exact ⟨b, _, c, h1, h2⟩
theorem Own.drawn {B : Nat} {w w' : World} {b n c : Nat} {xs : List UInt8} (h : Own B w b n c xs) (hd : Drawn0 w w') : Own B w' b n c xs := by
  obtain ⟨k, rfl⟩ := hd
  exact h.only ((Only.refl w (fun _ => False)).drewN k) (fun h => h)
theorem Own.below {B : Nat} {w w' : World} {b n c : Nat} {xs : List UInt8} (h : Own B w b n c xs) (hd : Below w.heap.size w w') : Own B w' b n c xs := h.only (Only.of_below hd (fun _ => False)) (fun h => h)
theorem xor_one (s : CrcM.W) : bits .xor .u32 (ui s) 1 = ui (s ^^^ BitVec.ofNat 32 1) := by
  have h := xor_ui s (BitVec.ofNat 32 1)
  have e : ui (BitVec.ofNat 32 1) = 1 := by decide
  rwa [e] at h
/-- own bytes, the first k of them v. -/
def Filled (B : Nat) (w : World) (b n c k : Nat) (v : UInt8) : Prop := ∃ a, Own B w b n c a ∧ ∀ i, i < k → a[i]? = some v
theorem Filled.only {B : Nat} {w w' : World} {b n c k : Nat} {v : UInt8} {S : Nat → Prop} (h : Filled B w b n c k v) (ho : Only w w' S) (hs : ¬ S b) : Filled B w' b n c k v := by
  obtain ⟨a, h1, h2⟩ := h
  exact ⟨a, h1.only ho hs, h2⟩
theorem Filled.put {B : Nat} {w : World} {b n c k : Nat} {v : UInt8} (h : Filled B w b n c k v) (hk : k < n) : Filled B (w.setCell ⟨b, k, none⟩ (.int .u8 (v.toNat : Int))) b n c (k + 1) v := by
  obtain ⟨a, h1, h2⟩ := h
  refine ⟨_, (h1.put k v).1, fun i hi => ?_⟩
  have h3 := h1.len
  by_cases h4 : i = k
  · subst h4
    simp [List.getElem?_set_self (show i < a.length by omega)]
  · rw [List.getElem?_set_ne (by omega)]
    exact h2 i (by omega)
theorem Own.some_cell {B : Nat} {w : World} {b n c : Nat} {xs : List UInt8} (h : Own B w b n c xs) (i : Nat) (hi : i < n) : ∃ z : Int, w.cell? ⟨b, i, none⟩ = some (.int .u8 z) ∧ w.frozen? ⟨b, i, none⟩ = false := ⟨_, h.cell i hi⟩
theorem Filled.some_cell {B : Nat} {w : World} {b n c k : Nat} {v : UInt8} (h : Filled B w b n c k v) (i : Nat) (hi : i < n) : ∃ z : Int, w.cell? ⟨b, i, none⟩ = some (.int .u8 z) ∧ w.frozen? ⟨b, i, none⟩ = false := by
  obtain ⟨a, h1, _⟩ := h
  exact h1.some_cell i hi
theorem Filled.row {B : Nat} {w : World} {b n c k : Nat} {v : UInt8} (h : Filled B w b n c k v) : ∃ a, Own B w b n c a := by
  obtain ⟨a, h1, _⟩ := h
  exact ⟨a, h1⟩
theorem Filled.lt {B : Nat} {w : World} {b n c k : Nat} {v : UInt8} (h : Filled B w b n c k v) : b < w.heap.size := by
  obtain ⟨a, h1, _⟩ := h
  exact h1.lt
theorem Filled.below {B : Nat} {w w' : World} {b n c k : Nat} {v : UInt8} (h : Filled B w b n c k v) (hd : Below w.heap.size w w') : Filled B w' b n c k v := h.only (Only.of_below hd (fun _ => False)) (fun h => h)
theorem Filled.drawn {B : Nat} {w w' : World} {b n c k : Nat} {v : UInt8} (h : Filled B w b n c k v) (hd : Drawn0 w w') : Filled B w' b n c k v := by
  obtain ⟨a, h1, h2⟩ := h
  exact ⟨a, h1.drawn hd, h2⟩
theorem Filled.at_ {B : Nat} {w : World} {b n c k : Nat} {v : UInt8} (h : Filled B w b n c k v) (i : Nat) (hi : i < k) (hk : i < n) : w.cell? ⟨b, i, none⟩ = some (.int .u8 (v.toNat : Int)) := by
  obtain ⟨a, h1, h2⟩ := h
  have h3 := h1.len
  have h4 := h2 i hi
  rw [List.getElem?_eq_getElem (show i < a.length by omega)] at h4
  rw [(h1.cell i hk).1, Option.some.inj h4]
/-- what an append of two leaves. -/
theorem Filled.appended {B : Nat} {W w1 : World} {b n c k : Nat} {v u : UInt8} {a : List UInt8} {v1 : Value} (h : Own B W b n c a) (hf : ∀ i, i < k → a[i]? = some v) (ho : Kd.R (Kd.int .u8) 5 w1 0 (fun _ => True) v1 (bl a ++ [(u.toNat : Int), (u.toNat : Int)])) (hg : W.grownBy w1 (some b))
    (hat : v1.ownBlock = some b ∨ ∃ b', v1.ownBlock = some b' ∧ W.heap.size ≤ b') : ∃ b' n' c', v1 = .slice (some ⟨b', 0, none⟩) n' c' ∧ Filled B w1 b' n' c' k v ∧ n ≤ n' ∧ Only W w1 (fun x => x = b) ∧ (b' = b ∨ W.heap.size ≤ b') := by
  have e : bl a ++ [(u.toNat : Int), (u.toNat : Int)] = bl (a ++ [u, u]) := by simp [bl]
  rw [e] at ho
  have hb : ∀ x, v1.ownBlock = some x → x = b ∨ W.heap.size ≤ x := by
    intro x hx
    rcases hat with h3 | ⟨b', h3, h4⟩
    · exact .inl (Option.some.inj (hx.symm.trans h3))
    · have : x = b' := Option.some.inj (hx.symm.trans h3)
      exact .inr (by omega)
  have hn := h.new
  have hlt := h.lt
  obtain ⟨b', n', c', rfl, hO⟩ := Own.of' (B := B) (Rw.of ho) (by simp) (fun x hx => by rcases hb x hx with h5 | h5 <;> omega)
  refine ⟨b', n', c', rfl, ⟨_, hO, fun i hi => ?_⟩, ?_, ?_, hb b' rfl⟩
  · have h6 := hf i hi
    have h7 : i < a.length := by
      by_cases h8 : i < a.length
      · exact h8
      · rw [List.getElem?_eq_none (by omega)] at h6; cases h6
    rw [List.getElem?_append_left h7, h6]
  · have h1 := hO.len
    have h2 := h.len
    simp at h1
    omega
  · exact (Only.refl W (fun x => x = b)).grown hg (fun k hk => .inl (Option.some.inj hk).symm)
theorem drawn_below {B : Nat} {w w' : World} (hd : Drawn0 w w') : Below B w w' := by
  obtain ⟨k, rfl⟩ := hd
  exact pw_below_drewN (Below.refl _ _) k
theorem same_own {B B' : Nat} {w : World} {b n c b' n' c' : Nat} {xs : List UInt8} (h : Own B w b n c xs) (h' : Own B' w b' n' c' xs) :
    Calls Try.prog 33 #[.slice (some ⟨b, 0, none⟩) n c, .slice (some ⟨b', 0, none⟩) n' c'] w fun e w' => e = .returned (.bool true) ∧ Drawn0 w w' := by
  have h1 := same_calls (some ⟨b, 0, none⟩) c (bl xs) (some ⟨b', 0, none⟩) c' (bl xs) w h.C h.cap h'.C h'.cap rfl
  have e1 := h.bln
  have e2 := h'.bln
  rw [show (bl xs).length = n from e1] at h1
  have e3 : n = n' := by omega
  subst e3
  exact h1
theorem copied_own {B : Nat} {w : World} {b n c : Nat} {xs : List UInt8} (h : Own B w b n c xs) (h0 : 0 < xs.length) (hl : xs.length ≤ 140737488351232) :
    Calls Try.prog 16 #[.slice (some ⟨b, 0, none⟩) n c] w fun e w' => ∃ b' n' c', e = .returned (.slice (some ⟨b', 0, none⟩) n' c') ∧ Own w.heap.size w' b' n' c' xs ∧ Below w.heap.size w w' := by
  have h1 := copied_calls (some ⟨b, 0, none⟩) c xs w h.C h.cap hl
  rw [show (bl xs).length = n from h.bln] at h1
  refine h1.mono ?_
  rintro e w' ⟨v, rfl, hR, hn, hb⟩
  obtain ⟨b', n', c', rfl, hO⟩ := Own.of' (B := w.heap.size) hR h0 hn
  exact ⟨b', n', c', rfl, hO, hb⟩
theorem roomy_own (A : Option Addr) (c : Nat) (l : List UInt8) (w : World) (hr : Kd.C (Kd.int .u8) w A (bl l).length (bl l)) (hc : (bl l).length ≤ c) (hl : l.length ≤ 140737488351232) :
    Calls Try.prog 34 #[.slice A (bl l).length c] w fun e w' => ∃ b' n' c', e = .returned (.slice (some ⟨b', 0, none⟩) n' c') ∧ Own w.heap.size w' b' n' c' (l ++ room) ∧ Below w.heap.size w w' := by
  refine (roomy_calls A c l w hr hc (by omega)).mono ?_
  rintro e w' ⟨v, rfl, hR, hn, hb⟩
  obtain ⟨b', n', c', rfl, hO⟩ := Own.of' (B := w.heap.size) hR (by simp [room]) hn
  exact ⟨b', n', c', rfl, hO, hb⟩
theorem flip_ne (z : UInt8) : z ^^^ 1 ≠ z := by
  intro h
  have h1 := congrArg (fun t => z ^^^ t) h
  simp only [← UInt8.xor_assoc, UInt8.xor_self, UInt8.zero_xor] at h1
  exact absurd h1 (by decide)
theorem sum_at (A : Option Addr) (c m : Nat) (l : List UInt8) (w : World) (hm : (bl l).length = m) (hr : Kd.C (Kd.int .u8) w A (bl l).length (bl l)) (hc : (bl l).length ≤ c) (hl : l.length ≤ maxLen) :
    Calls Try.prog 15 #[.slice A m c] w fun e w' => e = .returned (.int .u32 (ui (CrcM.sum l))) ∧ Drawn0 w w' := by
  subst hm
  exact sum_calls A c l w hr hc hl
theorem update_at (s : CrcM.W) (A : Option Addr) (c m : Nat) (l : List UInt8) (w : World) (hm : (bl l).length = m) (hr : Kd.C (Kd.int .u8) w A (bl l).length (bl l)) (hc : (bl l).length ≤ c) (hl : l.length ≤ maxLen) :
    Calls Try.prog 17 #[.int .u32 (ui s), .slice A m c] w fun e w' => e = .returned (.int .u32 (ui (CrcM.upd s l))) ∧ Drawn0 w w' := by
  subst hm
  exact update_calls s A c l w hr hc hl
theorem copied_at (A : Option Addr) (c m : Nat) (l : List UInt8) (w : World) (hm : (bl l).length = m) (h0 : 0 < l.length) (hr : Kd.C (Kd.int .u8) w A (bl l).length (bl l)) (hc : (bl l).length ≤ c) (hl : l.length ≤ 140737488351232) :
    Calls Try.prog 16 #[.slice A m c] w fun e w' => ∃ b' n' c', e = .returned (.slice (some ⟨b', 0, none⟩) n' c') ∧ Own w.heap.size w' b' n' c' l ∧ Below w.heap.size w w' := by
  subst hm
  refine (copied_calls A c l w hr hc hl).mono ?_
  rintro e w' ⟨v, rfl, hR, hn, hb⟩
  obtain ⟨b', n', c', rfl, hO⟩ := Own.of' (B := w.heap.size) hR h0 hn
  exact ⟨b', n', c', rfl, hO, hb⟩
theorem two_new (w : World) (z : Int) : Kd.C (Kd.int .u8) (w.alloc (.cells #[.int .u8 z, .int .u8 z] 5)) (some ⟨w.heap.size, 0, none⟩) 2 [z, z] := by
  refine Kd.C_of_reads (d := (0 : Int)) (h1 := fun _ => rfl) (enc := Value.int .u8) ⟨rfl, by decide, fun _ => ⟨_, rfl, ?_⟩⟩
  intro j hj
  have hj' : j = 0 ∨ j = 1 := by omega
  rcases hj' with h | h <;> subst h <;> first | (simp [Addr.add]; done) | (simp [Addr.add]; exact World.cell?_alloc_mark _ _ _ _ _)
theorem sum_flip (l : List UInt8) (p : Nat) (hp : p < l.length) (b : UInt8) (hb : b ≠ l[p]) : CrcM.sum (l.set p b) ≠ CrcM.sum l := by
  intro h
  have e1 : l = l.take p ++ l[p] :: l.drop (p + 1) := by rw [← List.drop_eq_getElem_cons hp, List.take_append_drop]
  have e2 : l.set p b = l.take p ++ b :: l.drop (p + 1) := by rw [List.set_eq_take_append_cons_drop, if_pos hp]
  unfold CrcM.sum CrcM.upd at h
  have h1 := congrArg (fun z => ~~~ z) h
  simp only [BitVec.not_not] at h1
  rw [e2] at h1
  have h2 : CrcM.reg (~~~ BitVec.ofNat 32 0) l = CrcM.reg (~~~ BitVec.ofNat 32 0) (l.take p ++ l[p] :: l.drop (p + 1)) := congrArg _ e1
  rw [h2, CrcM.reg_append, CrcM.reg_append, CrcM.reg_cons, CrcM.reg_cons] at h1
  have h3 := congrArg (fun z => CrcM.bks z (l.drop (p + 1))) h1
  simp only [CrcM.bks_reg] at h3
  unfold CrcM.step at h3
  have h4 := CrcM.xs_inj h3
  have h5 := congrArg (fun z => CrcM.reg (~~~ BitVec.ofNat 32 0) (l.take p) ^^^ z) h4
  simp only [← BitVec.xor_assoc, BitVec.xor_self, BitVec.zero_xor] at h5
  exact hb (CrcM.bw_inj h5)
set_option maxHeartbeats 8000000 in
set_option maxRecDepth 100000 in
theorem walk (A : Option Addr) (c : Nat) (l : List UInt8) (i : Int) (want : CrcM.W) (w : World) (hr : Kd.C (Kd.int .u8) w A (bl l).length (bl l)) (hc : (bl l).length ≤ c) (hl : l.length ≤ 140737488351232)
    (hi : -9223372036854775808 ≤ i ∧ i ≤ 9223372036854775807) :
    Calls Try.prog 14 #[.slice A (bl l).length c, .int .i64 i, .int .u32 (ui want)] w fun e w' => e = .returned (.bool true) ∧ Below w.heap.size w w' := by
  have HR := Lib.hid hr
  have HL := Lib.hid (bl_length l)
  have HLL := Lib.hid hl
  have HI := Lib.hid hi
  clear hr hl hi
  go_enter Try.func14, Try.ntmps14
  go_wp2_with fail
  refine (Assoc.known_calls _).mono ?_
  rintro e w1 ⟨rfl, hb1⟩
  have HB1 := Lib.hid hb1
  clear hb1
  by_cases h4 : ((bl l).length : Int) < 4
  · go_wp2_with fail
    go_ret
    exact ⟨rfl, HB1.out⟩
  have HN4 := Lib.hid h4
  go_upto_if 32 with fail
  go_cut [1] from 33 to 35 (fun v1 wx => wx = w1 ∧ ∃ j : Int, v1 = .int .i64 j ∧ 0 ≤ j ∧ j ≤ 9223372036854775807)
  case first =>
    by_cases h0 : i < 0
    · go_wp2_with fail
      go_meet
      case rel =>
        have hI := HI.out
        exact ⟨rfl, _, rfl, by unfold wrap64; omega, by unfold wrap64; omega⟩
    · go_wp2_with fail
      go_meet
      case rel =>
        have hI := HI.out
        exact ⟨rfl, _, rfl, by omega, hI.2⟩
  case rest =>
    obtain ⟨rfl, j, rfl, hj0, hj1⟩ := hcut
    have hE : wrap64 (((bl l).length : Int) - 3) = ((bl l).length : Int) - 3 := by have h1 := HN4.out; have h2 := HL.out; have h3 := HLL.out; unfold wrap64; omega
    have t0 : ¬ (((bl l).length : Int) - 3) = 0 := by have h1 := HN4.out; omega
    go_upto_region 7 with fail
    go_cut [1] from 36 to 40 (fun v1 wx => wx = wc ∧ ∃ p : Nat, v1 = .int .i64 p ∧ p + 4 ≤ l.length)
    case first =>
      go_wp2_with fail
      go_meet
      case rel =>
        have h1 := HN4.out
        have h2 := HL.out
        obtain ⟨p, hp⟩ := Int.eq_ofNat_of_zero_le (Int.emod_nonneg j t0)
        have h3 := Int.emod_lt_of_pos j (show 0 < ((bl l).length : Int) - 3 by omega)
        exact ⟨rfl, p, by simp [hp], by omega⟩
    case rest =>
      clear hE t0
      obtain ⟨hw, p, rfl, hp⟩ := hcut
      subst hw
      have hb1 := HB1.out
      have HR1 := Lib.hid (Kd.C_below HR.out hb1)
      clear hb1 h4
      have HP := Lib.hid hp
      clear hp hj0 hj1
      go_wp2_with fail
      refine (roomy_calls A c l _ HR1.out hc (by have := HLL.out; omega)).mono ?_
      rintro e w2 ⟨v, rfl, hR2, hn2, hb2⟩
      obtain ⟨g, ng, cg, rfl, hO2⟩ := Own.of' (B := wc.heap.size) hR2 (by simp [room]) hn2
      have HO2 := Lib.hid hO2
      have HB2 := Lib.hid (HB1.out.trans (hb2.mono HB1.out.size))
      have hcg : (bl l).length ≤ cg := by have h1 := hO2.cap; rw [bl_length] at h1 ⊢; rw [List.length_append] at h1; omega
      clear hR2 hn2 hb2 hO2
      go_wp2_with fail
      refine (sum_calls _ cg l _ HO2.out.front hcg (Nat.le_trans HLL.out (by decide))).mono ?_
      rintro e w3 ⟨rfl, hd⟩
      have HO3 := Lib.hid (HO2.out.drawn hd)
      have HB3 := Lib.hid (HB2.out.trans (show Below w.heap.size w2 w3 by obtain ⟨k, rfl⟩ := hd; exact pw_below_drewN (Below.refl _ _) k))
      clear hd HO2 HB2
      go_wp2_with fail
      refine (update_calls want _ cg l _ HO3.out.front hcg (Nat.le_trans HLL.out (by decide))).mono ?_
      rintro e w4 ⟨rfl, hd⟩
      have HO4 := Lib.hid (HO3.out.drawn hd)
      have HB4 := Lib.hid (HB3.out.trans (show Below w.heap.size w3 w4 by obtain ⟨k, rfl⟩ := hd; exact pw_below_drewN (Below.refl _ _) k))
      clear hd HO3 HB3
      go_wp2_with fail
      refine (forge_calls _ cg l p want _ HO4.out.front hcg (by have := HLL.out; omega) HP.out).mono ?_
      rintro e w5 ⟨v5, x5, rfl, hx5, hR5, hn5, hb5⟩
      obtain ⟨f, nf, cf, rfl, hF5⟩ := Own.of' (B := w4.heap.size) hR5 (by have := HP.out; omega) hn5
      have HF5 := Lib.hid hF5
      have HO5 := Lib.hid (HO4.out.below hb5)
      have HB5 := Lib.hid (HB4.out.trans (hb5.mono HB4.out.size))
      have HX5 := Lib.hid hx5
      have e8 : wrap64 (8 * (p : Int)) = 8 * (p : Int) := by have h1 := HP.out; have h2 := HLL.out; unfold wrap64; omega
      have HFO := Lib.hid (show g < f by have h1 := HO4.out.lt; have h2 := hF5.new; omega)
      clear hx5 hR5 hn5 hb5 hF5 HO4 HB4
      go_wp2_with fail
      have hbu := burst_calls _ cg l p want _ HO5.out.front hcg (by have := HLL.out; omega) HP.out
      rw [show ((8 * p : Nat) : Int) = 8 * (p : Int) by push_cast; rfl] at hbu
      refine hbu.mono ?_
      clear hbu
      rintro e w6 ⟨v6, x6, rfl, hx6, hR6, hn6, hb6⟩
      obtain ⟨h, nh, ch, rfl, hH6⟩ := Own.of' (B := w5.heap.size) hR6 (by have := HP.out; omega) hn6
      have HH6 := Lib.hid hH6
      have HO6 := Lib.hid (HO5.out.below hb6)
      have HF6 := Lib.hid (HF5.out.below hb6)
      have HB6 := Lib.hid (HB5.out.trans (hb6.mono HB5.out.size))
      have HX6 := Lib.hid hx6
      have HFH := Lib.hid (show f < h by have h1 := HF5.out.lt; have h2 := hH6.new; omega)
      have HA6 := Lib.hid (Kd.C_below HR.out HB6.out)
      clear hx6 hR6 hn6 hb6 hH6 HO5 HF5 HB5 e8
      have t1 : (nf : Int) = ((bl l).length : Int) := by have h1 := HF6.out.len; have h2 := HX5.out; have h3 := HL.out; omega
      have t2 : (nh : Int) = ((bl l).length : Int) := by have h1 := HH6.out.len; have h2 := HX6.out; have h3 := HL.out; omega
      have t1' : ((nf : Int) == ((bl l).length : Int)) = true := by simpa using t1
      have t2' : ((nh : Int) == ((bl l).length : Int)) = true := by simpa using t2
      have T1 := Lib.hid t1
      have T2 := Lib.hid t2
      clear t1 t2
      go_wp2_with fail
      refine (roomy_own A c l _ HA6.out hc HLL.out).mono ?_
      rintro e w7 ⟨g7, n7, c7, rfl, hO7, hb7⟩
      have HO7 := Lib.hid (HO6.out.below hb7)
      have HF7 := Lib.hid (HF6.out.below hb7)
      have HH7 := Lib.hid (HH6.out.below hb7)
      have HR7 := Lib.hid hO7
      have HB7 := Lib.hid (HB6.out.trans (hb7.mono HB6.out.size))
      clear hO7 hb7 HO6 HF6 HH6 HB6 HA6
      go_wp2_with fail
      refine (same_own HO7.out HR7.out).mono ?_
      rintro e w8 ⟨rfl, hd⟩
      have HO8 := Lib.hid (HO7.out.drawn hd)
      have HF8 := Lib.hid (HF7.out.drawn hd)
      have HH8 := Lib.hid (HH7.out.drawn hd)
      have HB8 := Lib.hid (HB7.out.trans (drawn_below hd))
      clear hd HO7 HF7 HH7 HB7 HR7
      go_wp2_with fail
      refine (copied_own HF8.out (by have h1 := HX5.out; have h2 := HP.out; omega) (by have h1 := HX5.out; have h2 := HLL.out; omega)).mono ?_
      rintro e w9 ⟨g9, n9, c9, rfl, hO9, hb9⟩
      have HO9 := Lib.hid (HO8.out.below hb9)
      have HF9 := Lib.hid (HF8.out.below hb9)
      have HH9 := Lib.hid (HH8.out.below hb9)
      have HU9 := Lib.hid hO9
      have HB9 := Lib.hid (HB8.out.trans (hb9.mono HB8.out.size))
      clear hO9 hb9 HO8 HF8 HH8 HB8
      go_wp2_with fail
      refine (copied_own HH9.out (by have h1 := HX6.out; have h2 := HP.out; omega) (by have h1 := HX6.out; have h2 := HLL.out; omega)).mono ?_
      rintro e w10 ⟨g10, n10, c10, rfl, hO10, hb10⟩
      have HO10 := Lib.hid (HO9.out.below hb10)
      have HF10 := Lib.hid (HF9.out.below hb10)
      have HH10 := Lib.hid (HH9.out.below hb10)
      have HU10 := Lib.hid (HU9.out.below hb10)
      have HV10 := Lib.hid hO10
      have HB10 := Lib.hid (HB9.out.trans (hb10.mono HB9.out.size))
      clear hO10 hb10 HO9 HF9 HH9 HU9 HB9
      go_wp2_with fail
      have hfo := forge_calls _ cg l p (want ^^^ BitVec.ofNat 32 1) _ HO10.out.front hcg (by have := HLL.out; omega) HP.out
      rw [← xor_one want] at hfo
      refine hfo.mono ?_
      clear hfo
      rintro e w11 ⟨v11, x11, rfl, hx11, hR11, hn11, hb11⟩
      obtain ⟨x, nx, cx, rfl, hX11⟩ := Own.of' (B := w10.heap.size) hR11 (by have := HP.out; omega) hn11
      have HO11 := Lib.hid (HO10.out.below hb11)
      have HF11 := Lib.hid (HF10.out.below hb11)
      have HH11 := Lib.hid (HH10.out.below hb11)
      have HU11 := Lib.hid (HU10.out.below hb11)
      have HV11 := Lib.hid (HV10.out.below hb11)
      have HXX11 := Lib.hid hX11
      have HX11 := Lib.hid hx11
      have HHX := Lib.hid (show h < x by have h1 := HH10.out.lt; have h2 := hX11.new; omega)
      have HB11 := Lib.hid (HB10.out.trans (hb11.mono HB10.out.size))
      have e8 : wrap64 (8 * (p : Int)) = 8 * (p : Int) := by have h1 := HP.out; have h2 := HLL.out; unfold wrap64; omega
      clear hx11 hR11 hn11 hb11 hX11 HO10 HF10 HH10 HU10 HV10 HB10
      go_wp2_with fail
      have hbu := burst_calls _ cg l p (want ^^^ BitVec.ofNat 32 1) _ HO11.out.front hcg (by have := HLL.out; omega) HP.out
      rw [← xor_one want, show ((8 * p : Nat) : Int) = 8 * (p : Int) by push_cast; rfl] at hbu
      refine hbu.mono ?_
      clear hbu
      rintro e w12 ⟨v12, x12, rfl, hx12, hR12, hn12, hb12⟩
      obtain ⟨y, ny, cy, rfl, hY12⟩ := Own.of' (B := w11.heap.size) hR12 (by have := HP.out; omega) hn12
      have HO12 := Lib.hid (HO11.out.below hb12)
      have HF12 := Lib.hid (HF11.out.below hb12)
      have HH12 := Lib.hid (HH11.out.below hb12)
      have HU12 := Lib.hid (HU11.out.below hb12)
      have HV12 := Lib.hid (HV11.out.below hb12)
      have HXX12 := Lib.hid (HXX11.out.below hb12)
      have HYY12 := Lib.hid hY12
      have HX12 := Lib.hid hx12
      have HXY := Lib.hid (show x < y by have h1 := HXX11.out.lt; have h2 := hY12.new; omega)
      have HB12 := Lib.hid (HB11.out.trans (hb12.mono HB11.out.size))
      clear hx12 hR12 hn12 hb12 hY12 HO11 HF11 HH11 HU11 HV11 HXX11 HB11 e8
      go_wp2_with fail
      refine (same_own HF12.out HU12.out).mono ?_
      rintro e w13 ⟨rfl, hd⟩
      have HO13 := Lib.hid (HO12.out.drawn hd)
      have HF13 := Lib.hid (HF12.out.drawn hd)
      have HH13 := Lib.hid (HH12.out.drawn hd)
      have HV13 := Lib.hid (HV12.out.drawn hd)
      have HXX13 := Lib.hid (HXX12.out.drawn hd)
      have HYY13 := Lib.hid (HYY12.out.drawn hd)
      have HB13 := Lib.hid (HB12.out.trans (drawn_below hd))
      clear hd HO12 HF12 HH12 HU12 HV12 HXX12 HYY12 HB12
      go_wp2_with fail
      refine (same_own HH13.out HV13.out).mono ?_
      rintro e w14 ⟨rfl, hd⟩
      have HO14 := Lib.hid (HO13.out.drawn hd)
      have HF14 := Lib.hid (HF13.out.drawn hd)
      have HH14 := Lib.hid (HH13.out.drawn hd)
      have HXX14 := Lib.hid (HXX13.out.drawn hd)
      have HYY14 := Lib.hid (HYY13.out.drawn hd)
      have HB14 := Lib.hid (HB13.out.trans (drawn_below hd))
      clear hd HO13 HF13 HH13 HV13 HXX13 HYY13 HB13
      go_wp2_with fail
      refine (copied_own HXX14.out (by have h1 := HX11.out; have h2 := HP.out; omega) (by have h1 := HX11.out; have h2 := HLL.out; omega)).mono ?_
      rintro e w15 ⟨g15, n15, c15, rfl, hO15, hb15⟩
      have HO15 := Lib.hid (HO14.out.below hb15)
      have HF15 := Lib.hid (HF14.out.below hb15)
      have HH15 := Lib.hid (HH14.out.below hb15)
      have HXX15 := Lib.hid (HXX14.out.below hb15)
      have HYY15 := Lib.hid (HYY14.out.below hb15)
      have HU15 := Lib.hid hO15
      have HYU := Lib.hid (show y < g15 by have h1 := HYY14.out.lt; have h2 := hO15.new; omega)
      have HB15 := Lib.hid (HB14.out.trans (hb15.mono HB14.out.size))
      clear hO15 hb15 HO14 HF14 HH14 HXX14 HYY14 HB14
      go_wp2_with fail
      refine (copied_own HYY15.out (by have h1 := HX12.out; have h2 := HP.out; omega) (by have h1 := HX12.out; have h2 := HLL.out; omega)).mono ?_
      rintro e w16 ⟨g16, n16, c16, rfl, hO16, hb16⟩
      have HO16 := Lib.hid (HO15.out.below hb16)
      have HF16 := Lib.hid (HF15.out.below hb16)
      have HH16 := Lib.hid (HH15.out.below hb16)
      have HXX16 := Lib.hid (HXX15.out.below hb16)
      have HYY16 := Lib.hid (HYY15.out.below hb16)
      have HU16 := Lib.hid (HU15.out.below hb16)
      have HV16 := Lib.hid hO16
      have HUV := Lib.hid (show g15 < g16 by have h1 := HU15.out.lt; have h2 := hO16.new; omega)
      have HB16 := Lib.hid (HB15.out.trans (hb16.mono HB15.out.size))
      clear hO16 hb16 HO15 HF15 HH15 HXX15 HYY15 HU15 HB15
      go_wp2_with fail
      obtain ⟨B0, hB0⟩ : ∃ B0 : Prop, B0 = (g < f ∧ f < h ∧ h < x ∧ x < y ∧ y < g15 ∧ g15 < g16 ∧ nf = nh) := ⟨_, rfl⟩
      have HORD : Hid (g < f ∧ f < h ∧ h < x ∧ x < y ∧ y < g15 ∧ g15 < g16 ∧ nf = nh ∧ nf ≤ 140737488351232 ∧ nf = l.length) := Lib.hid ⟨HFO.out, HFH.out, HHX.out, HXY.out, HYU.out, HUV.out, by have h1 := T1.out; have h2 := T2.out; omega, by have h1 := T1.out; have h2 := HL.out; have h3 := HLL.out; omega, by have h1 := T1.out; have h2 := HL.out; omega⟩
      have HG0 := Lib.hid (show w.heap.size ≤ g by have h1 := HO16.out.new; have h2 := HB1.out.size; omega)
      clear hB0 B0 HFO HFH HHX HXY HYU HUV T1 T2
      go_loopw [21] (fun v21 wr => ∃ k : Nat, v21 = .int .i64 k ∧ k ≤ nf ∧ Filled w4.heap.size wr f nf cf k 17 ∧ Filled w5.heap.size wr h nh ch k 51 ∧ Only w16 wr (fun b => b = f ∨ b = h)) (fun v _ => nf - (intOf v).toNat)
      case atStart =>
        exact ⟨0, rfl, Nat.zero_le _, ⟨_, HF16.out, fun i hi => by omega⟩, ⟨_, HH16.out, fun i hi => by omega⟩, Only.refl _ _⟩
      case round =>
        obtain ⟨k, rfl, hk, hf, hh, ho⟩ := hrel
        have HFR := Lib.hid hf
        have HHR := Lib.hid hh
        have HOR := Lib.hid ho
        clear hf hh ho
        by_cases hlt : k < nf
        · obtain ⟨z1, q1, q2⟩ := HFR.out.some_cell k hlt
          have hn := HORD.out
          have hoF : Only wr (wr.setCell ⟨f, k, none⟩ (.int .u8 17)) (fun b => b = f) := (Only.refl wr (fun b => b = f)).setCell (p := ⟨f, k, none⟩) (.inl rfl) _
          have HF2 : Hid (Filled w4.heap.size (wr.setCell ⟨f, k, none⟩ (.int .u8 17)) f nf cf (k + 1) 17) := Lib.hid (HFR.out.put (v := 17) hlt)
          have HH2 : Hid (Filled w5.heap.size (wr.setCell ⟨f, k, none⟩ (.int .u8 17)) h nh ch k 51) := Lib.hid (HHR.out.only hoF (show ¬ h = f by omega))
          obtain ⟨z2, q3, q4⟩ := HH2.out.some_cell k (by omega)
          have hlt2 : (k : Int) < (nh : Int) := by omega
          have HO2 := Lib.hid ((HOR.out).setCell (p := ⟨f, k, none⟩) (.inl (.inl rfl)) (.int .u8 17))
          have HLT := Lib.hid hlt
          have hkb : k < 140737488351233 := by omega
          have hoH : Only (wr.setCell ⟨f, k, none⟩ (.int .u8 17)) ((wr.setCell ⟨f, k, none⟩ (.int .u8 17)).setCell ⟨h, k, none⟩ (.int .u8 51)) (fun b => b = h) := (Only.refl _ (fun b => b = h)).setCell (p := ⟨h, k, none⟩) (.inl rfl) _
          have HF3 : Hid (Filled w4.heap.size ((wr.setCell ⟨f, k, none⟩ (.int .u8 17)).setCell ⟨h, k, none⟩ (.int .u8 51)) f nf cf (k + 1) 17) := Lib.hid (HF2.out.only hoH (show ¬ f = h by omega))
          have HH3 : Hid (Filled w5.heap.size ((wr.setCell ⟨f, k, none⟩ (.int .u8 17)).setCell ⟨h, k, none⟩ (.int .u8 51)) h nh ch (k + 1) 51) := Lib.hid (HH2.out.put (v := 51) (by omega))
          have HO3 := Lib.hid ((HO2.out).setCell (p := ⟨h, k, none⟩) (.inl (.inr rfl)) (.int .u8 51))
          clear hoF hoH hn HFR HHR HOR HF2 HH2 HO2
          go_wp2_with fail
          refine ⟨⟨k + 1, by simp, by have := HLT.out; omega, HF3.out, HH3.out, HO3.out⟩, ?_⟩
          have := HLT.out
          simp [intOf]
          omega
        · have hkn : k = nf := by omega
          subst hkn
          have hORD := HORD.out
          have HO17 := Lib.hid (HO16.out.only HOR.out (by omega))
          have HXX17 := Lib.hid (HXX16.out.only HOR.out (by omega))
          have HYY17 := Lib.hid (HYY16.out.only HOR.out (by omega))
          have HU17 := Lib.hid (HU16.out.only HOR.out (by omega))
          have HV17 := Lib.hid (HV16.out.only HOR.out (by omega))
          have HB17 := Lib.hid (HOR.out.below HB16.out (by have h1 := HG0.out; omega) HB16.out.size)
          have hhn : k = nh := by omega
          have HHR' := Lib.hid (show Filled w5.heap.size wr h nh ch nh 51 by have := HHR.out; rwa [hhn] at this)
          clear hORD hhn HO16 HXX16 HYY16 HU16 HV16 HB16 HOR HHR HF16 HH16
          obtain ⟨af, haf, hfill⟩ := HFR.out
          have HAF := Lib.hid haf
          have HFILL := Lib.hid hfill
          have HLEN1 := Lib.hid (show ((bl af).length + 2) * 1 ≤ 140737488355328 by have h1 := haf.bln; have h2 := HORD.out; omega)
          clear haf hfill HFR
          go_upto_region 30 with (first | ((with_reducible refine gate_builtin (b := .append) (xs := #[.tmp 141, .tmp 142]) rfl ?_); refine Kd.R_append_row (Value.int .u8) (0 : Int) (h1 := fun _ => rfl) (w0 := wr.alloc (.cells #[.int .u8 34, .int .u8 34] 5)) 0 rfl (.tmp 141) (.tmp 142) 23 5 (.int .u8 0) 1 rfl Try.underlying23 info5 rfl (by decide) (.slice (some ⟨f, 0, none⟩) k cf) (bl af) [34, 34] _ 2 2 (fun _ => True) rfl rfl (fun _ _ => trivial) (Kd.R_alloc HAF.out.rw_ _) (two_new wr 34) (Below.refl 0 _) (Nat.zero_le _) HLEN1.out ?_; intro v1 wa ho hb hg hat; obtain ⟨f', nf', cf', e1, hF, hle, hon, hor⟩ := Filled.appended (u := 34) (HAF.out.below (below_alloc (Below.refl _ _) _)) HFILL.out ho hg hat; subst e1; have HF1 := Lib.hid hF; have HLE1 := Lib.hid hle; have HON1 := Lib.hid (((Only.refl wr (fun b => b = f)).alloc (.cells #[.int .u8 34, .int .u8 34] 5)).trans hon (fun b hb => .inl hb)); have HOR1 := Lib.hid (show (f' = f ∨ wr.heap.size < f') ∧ f' < wa.heap.size ∧ wr.heap.size ≤ wa.heap.size from ⟨by rcases hor with h | h; exact .inl h; refine .inr ?_; simp at h; omega, by obtain ⟨q, hq, _⟩ := hF; exact hq.lt, by have h1 := hon.size; simp at h1; omega⟩); clear ho hb hg hat hF hle hon hor))
          have hORD := HORD.out
          have HGT := Lib.hid (show g16 < wr.heap.size from HV17.out.lt)
          have HO18 := Lib.hid (HO17.out.only HON1.out (by omega))
          have HXX18 := Lib.hid (HXX17.out.only HON1.out (by omega))
          have HYY18 := Lib.hid (HYY17.out.only HON1.out (by omega))
          have HU18 := Lib.hid (HU17.out.only HON1.out (by omega))
          have HV18 := Lib.hid (HV17.out.only HON1.out (by omega))
          have HH18 := Lib.hid (HHR'.out.only HON1.out (by omega))
          have HB18 := Lib.hid (HON1.out.below HB17.out (by have h1 := HG0.out; omega) HB17.out.size)
          clear hORD HO17 HXX17 HYY17 HU17 HV17 HB17 HHR' HON1 HAF HFILL HLEN1
          obtain ⟨ah, hah, hfill⟩ := HH18.out
          have HAH := Lib.hid hah
          have HFILL := Lib.hid hfill
          have HLEN2 := Lib.hid (show ((bl ah).length + 2) * 1 ≤ 140737488355328 by have h1 := hah.bln; have h2 := HORD.out; omega)
          clear hah hfill HH18
          go_upto_region 31 with (first | ((with_reducible refine gate_builtin (b := .append) (xs := #[.tmp 144, .tmp 145]) rfl ?_); refine Kd.R_append_row (Value.int .u8) (0 : Int) (h1 := fun _ => rfl) (w0 := wa.alloc (.cells #[.int .u8 68, .int .u8 68] 5)) 0 rfl (.tmp 144) (.tmp 145) 23 5 (.int .u8 0) 1 rfl Try.underlying23 info5 rfl (by decide) (.slice (some ⟨h, 0, none⟩) nh ch) (bl ah) [68, 68] _ 2 2 (fun _ => True) rfl rfl (fun _ _ => trivial) (Kd.R_alloc HAH.out.rw_ _) (two_new wa 68) (Below.refl 0 _) (Nat.zero_le _) HLEN2.out ?_; intro v2 wb ho hb hg hat; obtain ⟨h', nh', ch', e1, hF, hle, hon, hor⟩ := Filled.appended (u := 68) (HAH.out.below (below_alloc (Below.refl _ _) _)) HFILL.out ho hg hat; subst e1; have HF2 := Lib.hid hF; have HLE2 := Lib.hid hle; have HON2 := Lib.hid (((Only.refl wa (fun b => b = h)).alloc (.cells #[.int .u8 68, .int .u8 68] 5)).trans hon (fun b hb => .inl hb)); have HOR2 := Lib.hid (show (h' = h ∨ wa.heap.size < h') ∧ h' < wb.heap.size ∧ wa.heap.size ≤ wb.heap.size from ⟨by rcases hor with h | h; exact .inl h; refine .inr ?_; simp at h; omega, by obtain ⟨q, hq, _⟩ := hF; exact hq.lt, by have h1 := hon.size; simp at h1; omega⟩); clear ho hb hg hat hF hle hon hor))
          have hORD := HORD.out
          have hGT := HGT.out
          have hOR1 := HOR1.out
          have HO19 := Lib.hid (HO18.out.only HON2.out (by omega))
          have HXX19 := Lib.hid (HXX18.out.only HON2.out (by omega))
          have HYY19 := Lib.hid (HYY18.out.only HON2.out (by omega))
          have HU19 := Lib.hid (HU18.out.only HON2.out (by omega))
          have HV19 := Lib.hid (HV18.out.only HON2.out (by omega))
          have HFF19 := Lib.hid (HF1.out.only HON2.out (by omega))
          have HB19 := Lib.hid (HON2.out.below HB18.out (by have h1 := HG0.out; omega) HB18.out.size)
          have HA19 := Lib.hid (Kd.C_below HR.out HB19.out)
          clear hORD hGT hOR1 HO18 HXX18 HYY18 HU18 HV18 HB18 HF1 HON2 HAH HFILL HLEN2
          go_wp2_with fail
          refine (roomy_own A c l _ HA19.out hc HLL.out).mono ?_
          rintro e w20 ⟨g20, n20, c20, rfl, hR20, hb20⟩
          have HR20 := Lib.hid hR20
          have HO20 := Lib.hid (HO19.out.below hb20)
          have HXX20 := Lib.hid (HXX19.out.below hb20)
          have HYY20 := Lib.hid (HYY19.out.below hb20)
          have HU20 := Lib.hid (HU19.out.below hb20)
          have HV20 := Lib.hid (HV19.out.below hb20)
          have HFF20 := Lib.hid (HFF19.out.below hb20)
          have HHH20 := Lib.hid (HF2.out.below hb20)
          have HB20 := Lib.hid (HB19.out.trans (hb20.mono HB19.out.size))
          have HS20 := Lib.hid hb20.size
          clear hR20 hb20 HO19 HXX19 HYY19 HU19 HV19 HFF19 HF2 HB19 HA19
          go_wp2_with fail
          refine (same_own HO20.out HR20.out).mono ?_
          rintro e w21 ⟨rfl, hd⟩
          have HO21 := Lib.hid (HO20.out.drawn hd)
          have HXX21 := Lib.hid (HXX20.out.drawn hd)
          have HYY21 := Lib.hid (HYY20.out.drawn hd)
          have HU21 := Lib.hid (HU20.out.drawn hd)
          have HV21 := Lib.hid (HV20.out.drawn hd)
          have HFF21 := Lib.hid (HFF20.out.drawn hd)
          have HHH21 := Lib.hid (HHH20.out.drawn hd)
          have HB21 := Lib.hid (HB20.out.trans (drawn_below hd))
          clear hd HO20 HXX20 HYY20 HU20 HV20 HFF20 HHH20 HB20 HR20
          go_wp2_with fail
          refine (same_own HXX21.out HU21.out).mono ?_
          rintro e w22 ⟨rfl, hd⟩
          have HO22 := Lib.hid (HO21.out.drawn hd)
          have HXX22 := Lib.hid (HXX21.out.drawn hd)
          have HYY22 := Lib.hid (HYY21.out.drawn hd)
          have HV22 := Lib.hid (HV21.out.drawn hd)
          have HFF22 := Lib.hid (HFF21.out.drawn hd)
          have HHH22 := Lib.hid (HHH21.out.drawn hd)
          have HB22 := Lib.hid (HB21.out.trans (drawn_below hd))
          clear hd HO21 HXX21 HYY21 HU21 HV21 HFF21 HHH21 HB21
          go_wp2_with fail
          refine (same_own HYY22.out HV22.out).mono ?_
          rintro e w23 ⟨rfl, hd⟩
          have HO23 := Lib.hid (HO22.out.drawn hd)
          have HXX23 := Lib.hid (HXX22.out.drawn hd)
          have HYY23 := Lib.hid (HYY22.out.drawn hd)
          have HFF23 := Lib.hid (HFF22.out.drawn hd)
          have HHH23 := Lib.hid (HHH22.out.drawn hd)
          have HB23 := Lib.hid (HB22.out.trans (drawn_below hd))
          clear hd HO22 HXX22 HYY22 HV22 HFF22 HHH22 HB22
          go_wp2_with fail
          have HNX := Lib.hid (show nx = l.length by have h1 := HXX23.out.len; have h2 := HX11.out; omega)
          have HNY := Lib.hid (show ny = l.length by have h1 := HYY23.out.len; have h2 := HX12.out; omega)
          go_loopw [22] (fun v22 wq => ∃ kx : Nat, v22 = .int .i64 kx ∧ kx ≤ nx ∧ Filled w10.heap.size wq x nx cx kx 85 ∧ Only w23 wq (fun b => b = x)) (fun v _ => nx - (intOf v).toNat)
          case atStart =>
            exact ⟨0, rfl, Nat.zero_le _, ⟨_, HXX23.out, fun i hi => by omega⟩, Only.refl _ _⟩
          case round =>
            obtain ⟨kx, rfl, hkx, hx, hox⟩ := hrel
            have HX := Lib.hid hx
            have HOX := Lib.hid hox
            clear hx hox
            by_cases hltx : kx < nx
            · obtain ⟨z1, q1, q2⟩ := HX.out.some_cell kx hltx
              have HX2 := Lib.hid (HX.out.put (v := 85) hltx)
              have HO2 := Lib.hid ((HOX.out).setCell (p := ⟨x, kx, none⟩) (.inl rfl) (.int .u8 85))
              have hkb : kx < 140737488351233 := by have h1 := HNX.out; have h2 := HLL.out; omega
              have HLT := Lib.hid hltx
              clear HX HOX
              go_wp2_with fail
              refine ⟨⟨kx + 1, by simp, by have := HLT.out; omega, HX2.out, HO2.out⟩, ?_⟩
              have := HLT.out
              simp [intOf]
              omega
            · obtain ⟨wq, rfl⟩ : ∃ wo : World, wo = wr := ⟨_, rfl⟩
              have hkn : kx = nx := by omega
              have hORD := HORD.out
              have hGT := HGT.out
              have hOR1 := HOR1.out
              have hOR2 := HOR2.out
              have HXF := Lib.hid (show Filled w10.heap.size wq x nx cx nx 85 by have := HX.out; rwa [hkn] at this)
              have HO24 := Lib.hid (HO23.out.only HOX.out (by omega))
              have HYY24 := Lib.hid (HYY23.out.only HOX.out (by omega))
              have HFF24 := Lib.hid (HFF23.out.only HOX.out (by omega))
              have HHH24 := Lib.hid (HHH23.out.only HOX.out (by omega))
              have HB24 := Lib.hid (HOX.out.below HB23.out (by have h1 := HG0.out; omega) HB23.out.size)
              clear hORD hGT hOR1 hOR2 hkn HX HOX HO23 HYY23 HFF23 HHH23 HB23 HXX23
              go_wp2_with fail
              go_loopw [23] (fun v23 wp => ∃ ky : Nat, v23 = .int .i64 ky ∧ ky ≤ ny ∧ Filled w11.heap.size wp y ny cy ky 119 ∧ Only wq wp (fun b => b = y)) (fun v _ => ny - (intOf v).toNat)
              case atStart =>
                exact ⟨0, rfl, Nat.zero_le _, ⟨_, HYY24.out, fun i hi => by omega⟩, Only.refl _ _⟩
              case round =>
                obtain ⟨ky, rfl, hky, hy, hoy⟩ := hrel
                have HY := Lib.hid hy
                have HOY := Lib.hid hoy
                clear hy hoy
                by_cases hlty : ky < ny
                · obtain ⟨z1, q1, q2⟩ := HY.out.some_cell ky hlty
                  have HY2 := Lib.hid (HY.out.put (v := 119) hlty)
                  have HO2 := Lib.hid ((HOY.out).setCell (p := ⟨y, ky, none⟩) (.inl rfl) (.int .u8 119))
                  have hkb : ky < 140737488351233 := by have h1 := HNY.out; have h2 := HLL.out; omega
                  have HLT := Lib.hid hlty
                  clear HY HOY
                  go_wp2_with fail
                  refine ⟨⟨ky + 1, by simp, by have := HLT.out; omega, HY2.out, HO2.out⟩, ?_⟩
                  have := HLT.out
                  simp [intOf]
                  omega
                · obtain ⟨wp, rfl⟩ : ∃ wo : World, wo = wr := ⟨_, rfl⟩
                  have hkn : ky = ny := by omega
                  have hORD := HORD.out
                  have hGT := HGT.out
                  have hOR1 := HOR1.out
                  have hOR2 := HOR2.out
                  have HYF := Lib.hid (show Filled w11.heap.size wp y ny cy ny 119 by have := HY.out; rwa [hkn] at this)
                  have HO25 := Lib.hid (HO24.out.only HOY.out (by omega))
                  have HXX25 := Lib.hid (HXF.out.only HOY.out (by omega))
                  have HFF25 := Lib.hid (HFF24.out.only HOY.out (by omega))
                  have HHH25 := Lib.hid (HHH24.out.only HOY.out (by omega))
                  have HB25 := Lib.hid (HOY.out.below HB24.out (by have h1 := HG0.out; omega) HB24.out.size)
                  clear hORD hGT hOR1 hOR2 hkn HY HOY HO24 HXF HYY24 HFF24 HHH24 HB24
                  obtain ⟨ax, hax, hfill⟩ := HXX25.out
                  have HAX := Lib.hid hax
                  have HFILL := Lib.hid hfill
                  have HLEN3 := Lib.hid (show ((bl ax).length + 2) * 1 ≤ 140737488355328 by have h1 := hax.bln; have h2 := HNX.out; have h3 := HLL.out; omega)
                  clear hax hfill HXX25
                  go_upto_region 42 with (first | ((with_reducible refine gate_builtin (b := .append) (xs := #[.tmp 182, .tmp 183]) rfl ?_); refine Kd.R_append_row (Value.int .u8) (0 : Int) (h1 := fun _ => rfl) (w0 := wp.alloc (.cells #[.int .u8 102, .int .u8 102] 5)) 0 rfl (.tmp 182) (.tmp 183) 23 5 (.int .u8 0) 1 rfl Try.underlying23 info5 rfl (by decide) (.slice (some ⟨x, 0, none⟩) nx cx) (bl ax) [102, 102] _ 2 2 (fun _ => True) rfl rfl (fun _ _ => trivial) (Kd.R_alloc HAX.out.rw_ _) (two_new wp 102) (Below.refl 0 _) (Nat.zero_le _) HLEN3.out ?_; intro v3 wd ho hb hg hat; obtain ⟨x', nx', cx', e1, hF, hle, hon, hor⟩ := Filled.appended (u := 102) (HAX.out.below (below_alloc (Below.refl _ _) _)) HFILL.out ho hg hat; subst e1; have HF3 := Lib.hid hF; have HLE3 := Lib.hid hle; have HON3 := Lib.hid (((Only.refl wp (fun b => b = x)).alloc (.cells #[.int .u8 102, .int .u8 102] 5)).trans hon (fun b hb => .inl hb)); have HOR3 := Lib.hid (show (x' = x ∨ wp.heap.size < x') ∧ x' < wd.heap.size ∧ wp.heap.size ≤ wd.heap.size from ⟨by rcases hor with h | h; exact .inl h; refine .inr ?_; simp at h; omega, by obtain ⟨q, hq, _⟩ := hF; exact hq.lt, by have h1 := hon.size; simp at h1; omega⟩); clear ho hb hg hat hF hle hon hor))
                  have hORD := HORD.out
                  have hGT := HGT.out
                  have hOR1 := HOR1.out
                  have hOR2 := HOR2.out
                  have hlF := HFF25.out.lt
                  have hlH := HHH25.out.lt
                  have hlY := HYF.out.lt
                  have HO26 := Lib.hid (HO25.out.only HON3.out (by omega))
                  have HYF26 := Lib.hid (HYF.out.only HON3.out (by omega))
                  have HFF26 := Lib.hid (HFF25.out.only HON3.out (by omega))
                  have HHH26 := Lib.hid (HHH25.out.only HON3.out (by omega))
                  have HB26 := Lib.hid (HON3.out.below HB25.out (by have h1 := HG0.out; omega) HB25.out.size)
                  have HLT3 := Lib.hid (show f' < wp.heap.size ∧ h' < wp.heap.size ∧ y < wp.heap.size from ⟨hlF, hlH, hlY⟩)
                  clear hORD hGT hOR1 hOR2 hlF hlH hlY HO25 HYF HFF25 HHH25 HB25 HON3 HAX HFILL HLEN3
                  obtain ⟨ay, hay, hfill⟩ := HYF26.out
                  have HAY := Lib.hid hay
                  have HFILL := Lib.hid hfill
                  have HLEN4 := Lib.hid (show ((bl ay).length + 2) * 1 ≤ 140737488355328 by have h1 := hay.bln; have h2 := HNY.out; have h3 := HLL.out; omega)
                  clear hay hfill HYF26
                  go_upto_region 43 with (first | ((with_reducible refine gate_builtin (b := .append) (xs := #[.tmp 185, .tmp 186]) rfl ?_); refine Kd.R_append_row (Value.int .u8) (0 : Int) (h1 := fun _ => rfl) (w0 := wd.alloc (.cells #[.int .u8 136, .int .u8 136] 5)) 0 rfl (.tmp 185) (.tmp 186) 23 5 (.int .u8 0) 1 rfl Try.underlying23 info5 rfl (by decide) (.slice (some ⟨y, 0, none⟩) ny cy) (bl ay) [136, 136] _ 2 2 (fun _ => True) rfl rfl (fun _ _ => trivial) (Kd.R_alloc HAY.out.rw_ _) (two_new wd 136) (Below.refl 0 _) (Nat.zero_le _) HLEN4.out ?_; intro v4 we ho hb hg hat; obtain ⟨y', ny', cy', e1, hF, hle, hon, hor⟩ := Filled.appended (u := 136) (HAY.out.below (below_alloc (Below.refl _ _) _)) HFILL.out ho hg hat; subst e1; have HF4 := Lib.hid hF; have HLE4 := Lib.hid hle; have HON4 := Lib.hid (((Only.refl wd (fun b => b = y)).alloc (.cells #[.int .u8 136, .int .u8 136] 5)).trans hon (fun b hb => .inl hb)); have HOR4 := Lib.hid (show (y' = y ∨ wd.heap.size < y') ∧ y' < we.heap.size ∧ wd.heap.size ≤ we.heap.size from ⟨by rcases hor with h | h; exact .inl h; refine .inr ?_; simp at h; omega, by obtain ⟨q, hq, _⟩ := hF; exact hq.lt, by have h1 := hon.size; simp at h1; omega⟩); clear ho hb hg hat hF hle hon hor))
                  have hORD := HORD.out
                  have hGT := HGT.out
                  have hOR1 := HOR1.out
                  have hOR2 := HOR2.out
                  have hOR3 := HOR3.out
                  have hLT3 := HLT3.out
                  have HO27 := Lib.hid (HO26.out.only HON4.out (by omega))
                  have HXX27 := Lib.hid (HF3.out.only HON4.out (by omega))
                  have HFF27 := Lib.hid (HFF26.out.only HON4.out (by omega))
                  have HHH27 := Lib.hid (HHH26.out.only HON4.out (by omega))
                  have HB27 := Lib.hid (HON4.out.below HB26.out (by have h1 := HG0.out; omega) HB26.out.size)
                  have HALL := Lib.hid (show nf' ≥ (bl l).length ∧ nh' ≥ (bl l).length ∧ nx' ≥ (bl l).length ∧ ny' ≥ (bl l).length by have h1 := HLE1.out; have h2 := HLE2.out; have h3 := HLE3.out; have h4 := HLE4.out; have h5 := HNX.out; have h6 := HNY.out; have h7 := HL.out; omega)
                  have HALK := Lib.hid (show k = (bl l).length ∧ nh = (bl l).length ∧ nx = (bl l).length ∧ ny = (bl l).length by have h5 := HNX.out; have h6 := HNY.out; have h7 := HL.out; omega)
                  clear hORD hGT hOR1 hOR2 hOR3 hLT3 HO26 HF3 HFF26 HHH26 HB26 HON4 HAY HFILL HLEN4
                  go_wp2_with fail
                  go_loop [24] (fun v24 => ∃ j : Nat, v24 = .int .i64 j ∧ j ≤ (bl l).length) (fun v => (bl l).length - (intOf v).toNat)
                  case atStart => exact ⟨0, rfl, Nat.zero_le _⟩
                  case round =>
                    obtain ⟨j, rfl, hj⟩ := hrel
                    by_cases hltj : j < (bl l).length
                    · have hALL := HALL.out
                      have hALK := HALK.out
                      have c1 : we.cell? ⟨f', j, none⟩ = some (.int .u8 17) := HFF27.out.at_ j (by omega) (by omega)
                      have c2 : we.cell? ⟨h', j, none⟩ = some (.int .u8 51) := HHH27.out.at_ j (by omega) (by omega)
                      have c3 : we.cell? ⟨x', j, none⟩ = some (.int .u8 85) := HXX27.out.at_ j (by omega) (by omega)
                      have c4 : we.cell? ⟨y', j, none⟩ = some (.int .u8 119) := HF4.out.at_ j (by omega) (by omega)
                      have l1 : (j : Int) < (nf' : Int) := by omega
                      have l2 : (j : Int) < (nh' : Int) := by omega
                      have l3 : (j : Int) < (nx' : Int) := by omega
                      have l4 : (j : Int) < (ny' : Int) := by omega
                      have hkb : j < 140737488351233 := by have h1 := HL.out; have h2 := HLL.out; omega
                      clear hALL hALK
                      go_wp2_with fail
                      go_round
                      case rel => exact ⟨j + 1, by simp, by omega⟩
                      case measure => simp [intOf]; omega
                    · clear hj
                      have HA28 := Lib.hid (Kd.C_below HR.out HB27.out)
                      go_wp2_with fail
                      refine (roomy_own A c l _ HA28.out hc HLL.out).mono ?_
                      rintro e w28 ⟨g28, n28, c28, rfl, hR28, hb28⟩
                      have HR28 := Lib.hid hR28
                      have HO28 := Lib.hid (HO27.out.below hb28)
                      have HB28 := Lib.hid (HB27.out.trans (hb28.mono HB27.out.size))
                      clear hR28 hb28 HO27 HB27 HXX27 HFF27 HHH27 HF4 HA28
                      go_wp2_with fail
                      refine (same_own HO28.out HR28.out).mono ?_
                      rintro e w29 ⟨rfl, hd⟩
                      have HO29 := Lib.hid (HO28.out.drawn hd)
                      have HB29 := Lib.hid (HB28.out.trans (drawn_below hd))
                      clear hd HO28 HB28 HR28
                      have hp0 : p < l.length := by have h1 := HP.out; omega
                      have hp1 : p < ng := by have h1 := HO29.out.len; rw [List.length_append] at h1; omega
                      obtain ⟨q1, q2⟩ := HO29.out.cell p hp1
                      obtain ⟨z, hz⟩ : ∃ z : UInt8, z = (l ++ room)[p]'(by rw [HO29.out.len]; exact hp1) := ⟨_, rfl⟩
                      rw [← hz] at q1
                      have hzl : z = l[p] := by rw [hz, List.getElem_append_left hp0]
                      have hx : bits .xor .u8 (z.toNat : Int) 1 = ((z ^^^ 1).toNat : Int) := xor_byte z 1
                      have hpl : (p : Int) < ((bl l).length : Int) := by have h1 := HL.out; omega
                      obtain ⟨L, hL⟩ : ∃ L, L = l.set p (z ^^^ 1) := ⟨_, rfl⟩
                      have hput := HO29.out.put p (z ^^^ 1)
                      rw [List.set_append_left _ _ hp0, ← hL] at hput
                      have HO30 := Lib.hid hput.1
                      have HON30 := Lib.hid hput.2
                      have hLl : L.length = l.length := by rw [hL, List.length_set]
                      have hm : (bl L).length = (bl l).length := by rw [bl_length, bl_length, hLl]
                      have hne : CrcM.sum L ≠ CrcM.sum l := by
                        rw [hL]
                        exact sum_flip l p hp0 _ (by rw [← hzl]; exact flip_ne z)
                      have t1 : (ui (CrcM.sum L) == ui (CrcM.sum l)) = false := by rw [beq_eq_false_iff_ne]; exact fun h => hne (ui_inj h)
                      have t2 : (ui (CrcM.sum L) != ui (CrcM.sum l)) = true := by rw [bne_iff_ne]; exact fun h => hne (ui_inj h)
                      have HLL1 := Lib.hid hLl
                      have HM := Lib.hid hm
                      have HLM := Lib.hid (show L.length ≤ maxLen by have h1 := HLL.out; unfold maxLen; omega)
                      have HLM2 := Lib.hid (show l.length ≤ maxLen by have h1 := HLL.out; unfold maxLen; omega)
                      have hcL : (bl L).length ≤ cg := by omega
                      have HP0 := Lib.hid hp0
                      clear hput hL hLl hm hne hz hzl hp0 hp1
                      go_wp2_with fail
                      have HB30 := Lib.hid (HON30.out.below HB29.out (by have h1 := HG0.out; omega) HB29.out.size)
                      refine (copied_at (some ⟨g, 0, none⟩) cg _ L _ HM.out (by have h1 := HP0.out; have h2 := HLL1.out; omega) HO30.out.front hcL (by have h1 := HLL.out; have h2 := HLL1.out; omega)).mono ?_
                      rintro e w31 ⟨g31, n31, c31, rfl, hO31, hb31⟩
                      have HN31 := Lib.hid hO31
                      have HO31 := Lib.hid (HO30.out.below hb31)
                      have HB31 := Lib.hid (HB30.out.trans (hb31.mono HB30.out.size))
                      clear hO31 hb31 HO30 HB30 HON30 HO29 HB29 q1 q2 hx
                      go_wp2_with fail
                      refine (sum_at (some ⟨g, 0, none⟩) cg _ L _ HM.out HO31.out.front hcL HLM.out).mono ?_
                      rintro e w32 ⟨rfl, hd⟩
                      have HN32 := Lib.hid (HN31.out.drawn hd)
                      have HO32 := Lib.hid (HO31.out.drawn hd)
                      have HB32 := Lib.hid (HB31.out.trans (drawn_below hd))
                      clear hd HN31 HO31 HB31
                      go_wp2_with fail
                      refine (sum_at (some ⟨g31, 0, none⟩) c31 n31 L _ HN32.out.bln HN32.out.C HN32.out.cap HLM.out).mono ?_
                      rintro e w33 ⟨rfl, hd⟩
                      have HN33 := Lib.hid (HN32.out.drawn hd)
                      have HO33 := Lib.hid (HO32.out.drawn hd)
                      have HB33 := Lib.hid (HB32.out.trans (drawn_below hd))
                      clear hd HN32 HO32 HB32
                      go_wp2_with fail
                      refine (sum_at (some ⟨g, 0, none⟩) cg _ L _ HM.out HO33.out.front hcL HLM.out).mono ?_
                      rintro e w34 ⟨rfl, hd⟩
                      have HN34 := Lib.hid (HN33.out.drawn hd)
                      have HO34 := Lib.hid (HO33.out.drawn hd)
                      have HB34 := Lib.hid (HB33.out.trans (drawn_below hd))
                      clear hd HN33 HO33 HB33
                      go_wp2_with fail
                      refine (sum_at A c _ l _ rfl (Kd.C_below HR.out HB34.out) hc HLM2.out).mono ?_
                      rintro e w35 ⟨rfl, hd⟩
                      have HN35 := Lib.hid (HN34.out.drawn hd)
                      have HO35 := Lib.hid (HO34.out.drawn hd)
                      have HB35 := Lib.hid (HB34.out.trans (drawn_below hd))
                      clear hd HN34 HO34 HB34
                      go_wp2_with fail
                      refine (update_at want (some ⟨g, 0, none⟩) cg _ L _ HM.out HO35.out.front hcL HLM.out).mono ?_
                      rintro e w36 ⟨rfl, hd⟩
                      have HN36 := Lib.hid (HN35.out.drawn hd)
                      have HB36 := Lib.hid (HB35.out.trans (drawn_below hd))
                      clear hd HN35 HO35 HB35
                      go_wp2_with fail
                      refine (update_at want (some ⟨g31, 0, none⟩) c31 n31 L _ HN36.out.bln HN36.out.C HN36.out.cap HLM.out).mono ?_
                      rintro e w37 ⟨rfl, hd⟩
                      have HB37 := Lib.hid (HB36.out.trans (drawn_below hd))
                      clear hd HN36 HB36
                      go_wp2_with fail
                      go_ret
                      exact ⟨by simp, HB37.out⟩
end Go.Proofs.Ytcfnpippmdijaaa.Apart
