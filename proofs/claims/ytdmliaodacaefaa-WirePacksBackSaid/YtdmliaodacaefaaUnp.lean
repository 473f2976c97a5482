/- Function unpack: the numbers of a shape, read one by one; or the first error, as a panic. By a walk, by induction on the depth. -/
import Derived.Test.YtdmliaodacaefaaSteps
import Derived.Test.YtdmliaodacaefaaDuo
import Derived.Test.YtdmliaodacaefaaShape
import Derived.Outline
import Derived.WalkLawsBesides
import Derived.Recover
import Derived.BigRegion
import Derived.Test.YtdmliaodacaefaaParse
namespace Go.Proofs.Ytdmliaodacaefaa.Shape
open Go.RowKit Go.Proofs.YtdmliaodacaefaaW.PrintWords Go.Proofs.YtdmliaodacaefaaW.PrintLast Go.Proofs.YtdmliaodacaefaaW.PrintMore Go.Proofs.Ytdmliaodacaefaa.Mem Go.Proofs.Ytdmliaodacaefaa.Sep Go.Proofs.Ytdmliaodacaefaa.Bridge Go.Proofs.Ytdmliaodacaefaa.Wr Go.Proofs.Ytdmliaodacaefaa.Rd
set_option linter.unusedVariables false
set_option linter.unusedSimpArgs false
/-- a panic of an error. -/
def died (z : Int) : Ending := .panicked [{ v := .iface 44 (.int .i64 z), recovered := false }]
/-- a reader and the numbers so far. -/
def two (a : Nat) (v : Value) (x : UX) : Asr := all [rd 76 a x.1, row 3 .i64 v x.2]
/-- what unpack comes to. -/
def UnPost (us : List U) (x : UX) (a : Nat) (w : World) (F : Blks) (e : Ending) (w' : World) : Prop :=
  (∃ z, run ustep (flatL us) (x, []) = .error z ∧ e = died z ∧ Only w w' F) ∨
  ∃ y v, run ustep (flatL us) (x, []) = .ok (y, []) ∧ e = .returned v ∧ Turn w w' F (two a v y)
/-- at the head of an outer round. -/
def Out (us : List U) (x : UX) (a : Nat) (w : World) (F : Blks) (v2 v13 : Value) (wr : World) : Prop :=
  ∃ (i : Nat) (y : UX), v13 = .int .i64 (i : Nat) ∧ i ≤ us.length ∧ run ustep (flatL us) (x, []) = run ustep (flatL (us.drop i)) (y, []) ∧ Turn w wr F (two a v2 y) ∧ y.2.length + (flatL (us.drop i)).length ≤ 100000
/-- at the head of an inner one. -/
def Inn (us : List U) (x : UX) (a : Nat) (w : World) (F : Blks) (i : Nat) (c : UInt8) (n : Nat) (g : List U) (b : Nat) (O : Obj) (v2 v19 : Value) (wr : World) : Prop :=
  ∃ (k : Nat) (y : UX), v19 = .int .i64 (k : Nat) ∧ k ≤ n ∧ run ustep (flatL us) (x, []) = run ustep (many (n - k) c g ++ flatL (us.drop (i + 1))) (y, []) ∧ Turn w wr F (all [two a v2 y, box b O]) ∧ y.2.length + (many (n - k) c g ++ flatL (us.drop (i + 1))).length ≤ 100000
/-- a row was appended to. -/
theorem turn_row {w w1 : World} {F : Blks} {e : TypeId} {k : IntKind} {v v1 : Value} {xs ys : List Int} (h : (row e k v xs).on w F) (ho : Rw w1 e k v1 ys) (hg : w.grownBy w1 v.ownBlock)
    (hat : v1.ownBlock = v.ownBlock ∨ ∃ b, v1.ownBlock = some b ∧ w.heap.size ≤ b) : Turn w w1 F (row e k v1 ys) := by
  refine ⟨(grown_only hg).mono (fun b hb _ => h.2 b hb), ho, fun b hb => ?_⟩
  rcases hat with h3 | ⟨b', h3, h4⟩
  · exact .inl (h.2 b (h3.symm.trans hb))
  · have : b' = b := Option.some.inj (h3.symm.trans hb)
    exact .inr (by omega)
theorem many_len (m : Nat) (c : UInt8) (g : List U) (rest : List UInt8) : (once c g ++ (many m c g ++ rest)).length = (once c g).length + (many m c g ++ rest).length := List.length_append
theorem len_flat : ∀ (l : List U), goodL l → l.length ≤ (flatL l).length
  | [], _ => Nat.le_refl _
  | .mk c n g :: l, h => by
    unfold goodL good1 at h
    have h1 := len_flat l h.2
    show l.length + 1 ≤ (many n c g ++ flatL l).length
    rw [List.length_append, show n = (n - 1) + 1 by omega, many_succ, List.length_append]
    have h2 : 1 ≤ (once c g).length := by
      by_cases hc : c = 40
      · rw [hc, once_group]; simp
      · rw [once_letter hc]; simp
    omega
set_option maxRecDepth 100000 in
set_option maxHeartbeats 4000000 in
theorem unpack_calls (d : Nat) : ∀ (us : List U) (uv v : Value) (x : UX) (a : Nat) (F G : Blks) (w : World), deepL us < d → goodL us → fineL us → Units w G uv us → (∀ b, G b → b < w.heap.size ∧ ¬ F b) → (two a v x).on w F → x.2.length + (flatL us).length ≤ 100000 →
    Calls Try.prog 85 #[.pointer (some ⟨a, 0, none⟩), uv, v] w (UnPost us x a w F) := by
  induction d with
  | zero => intro us uv v x a F G w hd; omega
  | succ d ih =>
    intro us uv v x a F G w hd hg hf hU hG h hlen
    obtain ⟨ua, uc, rfl, huc, hrow⟩ := hU
    have hl : us.length ≤ 100000 := by have := len_flat us hg; omega
    have HROW := Lib.hid hrow
    have HG := Lib.hid hg
    have HF := Lib.hid hf
    have HD := Lib.hid hd
    have HGF := Lib.hid hG
    have H := Lib.hid h
    have HLEN := Lib.hid hlen
    have HIH := Lib.hid ih
    clear hrow hg hf hd hG h hlen ih
    go_enter Try.func85, Try.ntmps85
    go_wp2_with fail
    go_loopw [2, 13] (fun v2 v13 wr => Out us x a w F v2 v13 wr) (fun _ v13 _ => us.length - (intOf v13).toNat)
    case atStart => exact ⟨0, x, rfl, Nat.zero_le _, rfl, Turn.same H.out, HLEN.out⟩
    case round =>
      obtain ⟨i, y, rfl, hi, hrun, ht, hlen⟩ := hrel
      obtain ⟨wo, rfl⟩ : ∃ wo : World, wo = wr := ⟨_, rfl⟩
      have HRUN := Lib.hid hrun
      have HT := Lib.hid ht
      have HLN := Lib.hid hlen
      clear hrun ht hlen
      by_cases hlt : i < us.length
      · have hne : ¬ us = [] := by intro e; rw [e] at hlt; exact Nat.not_lt_zero _ hlt
        obtain ⟨b, rfl, hF, hr⟩ := HROW.out.resolve_left hne
        obtain ⟨u, hu⟩ : ∃ u, us[i]? = some u := ⟨us[i], List.getElem?_eq_getElem hlt⟩
        have hat := UnitAt.keep (w' := wo) (G := G) (fun b hb hl => HT.out.1.block b hl (HGF.out b hb).2) (fun b hb => hb) u b (0 + i) hF (RowAt.at_ us 0 i u hr hu)
        rw [Nat.zero_add] at hat
        have HDE := Lib.hid (deep_at us i u hu)
        have HGA := Lib.hid (good_at us i u HG.out hu)
        have HFA := Lib.hid (fine_at us i u HF.out hu)
        obtain ⟨uc1, un, ug⟩ := u
        have HFD := Lib.hid (flat_drop hu)
        unfold UnitAt at hat
        obtain ⟨c0, c1, ga, gc, c2, hgc, hgr⟩ := hat
        have hun : un ≤ 9 := by have h := HGA.out; unfold good1 at h; exact h.2.1
        have HLT := Lib.hid hlt
        have HGR := Lib.hid hgr
        have HGC := Lib.hid hgc
        clear hr hu hgr hgc hne hF
        have hmf : ∀ (fn : Fn) (first cap : Array Value) (w : World), (Instr.makeFunc fn first cap).run Try.prog w = .ok (.func fn first cap) w := fun _ _ _ _ => rfl
        go_wp2_with fail
        go_loopw [2, 19] (fun v2 v19 wr => Inn us x a w F i uc1 un ug wo.heap.size (.cells #[.int .u8 (uc1.toNat : Int), .int .i64 (un : Int), .slice ga ug.length gc] 108) v2 v19 wr) (fun _ v19 _ => un - (intOf v19).toNat)
        case atStart => exact ⟨0, y, rfl, Nat.zero_le _, by rw [HRUN.out, HFD.out]; rfl, (Turn.one HT.out).add (below_alloc (Below.refl _ _) _) ⟨heap_alloc_new wo _, Nat.le_refl _⟩, by rw [← flat1_many, Nat.sub_zero]; have h := HLN.out; rw [HFD.out] at h; exact h⟩
        case round =>
          obtain ⟨k, z, rfl, hk, hrun, ht, hlen⟩ := hrel
          have HRN := Lib.hid hrun
          have HT2 := Lib.hid ht
          have HLN2 := Lib.hid hlen
          have hblk := Turn.heap ht 1 (by simp) rfl
          have b0 : wr.cell? ⟨wo.heap.size, 0, none⟩ = some (.int .u8 (uc1.toNat : Int)) := cell_of hblk rfl
          have b2 : wr.cell? ⟨wo.heap.size, 2, none⟩ = some (.slice ga ug.length gc) := cell_of hblk rfl
          obtain ⟨F1, g1, hu1, k1⟩ := Turn.pick ht 0 (by simp)
          have G1 : Hid ((two a u2 z).on wr F1) := Lib.hid g1
          have HU1 := Lib.hid hu1
          have K1 := Lib.hid k1
          clear hrun ht hlen hblk g1 hu1 k1
          by_cases hkn : k < un
          · have HMS := Lib.hid (show many (un - k) uc1 ug = once uc1 ug ++ many (un - (k + 1)) uc1 ug by rw [show un - k = (un - (k + 1)) + 1 by omega, many_succ])
            have hw := HFA.out
            unfold fine1 at hw
            have HFG := Lib.hid hw.2
            by_cases h40 : uc1 = 40
            · have tt : ((uc1.toNat : Int) == 40) = true := by rw [h40]; rfl
              have HLC := Lib.hid h40
              clear h40 hw
              obtain ⟨F2, g2, _, _⟩ := Turn.pick (l := [rd 76 a z.1, row 3 .i64 u2 z.2]) (Turn.same G1.out) 0 (by simp)
              obtain ⟨rv, hI, _⟩ := g2
              have a1 : wr.cell? ⟨a, 1, none⟩ = some (.int .i64 z.1.pos) := cell_of hI.blk rfl
              have HON := Lib.hid (show (once uc1 ug).length = (flatL ug).length + 2 by rw [HLC.out, once_group]; simp)
              have HL0 := Lib.hid (show z.2.length + (flatL ug).length + 2 + (many (un - (k + 1)) uc1 ug ++ flatL (us.drop (i + 1))).length ≤ 100000 by have h := HLN2.out; rw [HMS.out, List.append_assoc, many_len, HON.out] at h; omega)
              have HREC := Lib.hid (HIH.out ug (.slice ga ug.length gc) u2 z a F1 G wr (by have h1 := HD.out; have h2 := HDE.out; simp only [U.group] at h2; omega) (by have h := HGA.out; unfold good1 at h; exact h.2.2) HFG.out (Units.keep (w := wo) (F := G) ⟨ga, gc, rfl, HGC.out, HGR.out⟩ (fun b hb _ => (HT2.out.1.block b (HGF.out b hb).1 (HGF.out b hb).2).trans (HT.out.1.block b (HGF.out b hb).1 (HGF.out b hb).2).symm) (fun b hb => hb)) (fun b hb => ⟨Nat.lt_of_lt_of_le (HGF.out b hb).1 HT2.out.1.size, fun h1 => by rcases HU1.out b h1 with h2 | h2; exact (HGF.out b hb).2 h2; have := (HGF.out b hb).1; omega⟩) G1.out (by have := HL0.out; omega))
              clear hI
              rcases ulevel ug z HFG.out with ⟨er, hlv⟩ | ⟨y1, hlv⟩
              · have h0 := hlv []
                have HNX := Lib.hid (show run ustep (flatL us) (x, []) = .error er by rw [HRN.out, HMS.out, List.append_assoc, HLC.out]; exact un_group_error HFG.out h0 _)
                have HREC2 := Lib.hid (HREC.out.mono (R' := fun e w' => e = died er ∧ Only wr w' F1) (fun e w' h => by rcases h with ⟨z1, h1, h2, h3⟩ | ⟨y, v, h1, _⟩; (rw [h0] at h1; cases h1; exact ⟨h2, h3⟩); (rw [h0] at h1; cases h1)))
                clear h0 hlv HREC
                go_wp2_with fail
                refine HREC2.out.mono ?_
                rintro e w2 ⟨rfl, ho⟩
                have HO := Lib.hid ho
                clear ho
                unfold died
                go_wp2_with fail
                exact ⟨rfl, .inl ⟨er, HNX.out, rfl, HT2.out.1.trans HO.out (fun b hb => HU1.out b hb)⟩⟩
              · have h0 := hlv []
                have hon := onw_run h0
                have hfr : z.1.pos ≤ y1.1.pos := hon.1
                have HY := Lib.hid hon.2.2
                have HREC2 := Lib.hid (HREC.out.mono (R' := fun e w' => ∃ v, e = .returned v ∧ Turn wr w' F1 (two a v y1)) (fun e w' h => by rcases h with ⟨z1, h1, _⟩ | ⟨y, v, h1, h2, h3⟩; (rw [h0] at h1; cases h1); (rw [h0] at h1; simp only [Except.ok.injEq, Prod.mk.injEq, and_true] at h1; subst h1; exact ⟨v, h2, h3⟩)))
                have H0 := Lib.hid h0
                clear h0 hlv hon HREC
                by_cases herr : (y1.1.checkS z.1.pos).err = 0
                · have t1 : ((y1.1.checkS z.1.pos).err != 0) = false := by simp [herr]
                  have HNX := Lib.hid (show run ustep (flatL us) (x, []) = run ustep (many (un - (k + 1)) uc1 ug ++ flatL (us.drop (i + 1))) (((y1.1.checkS z.1.pos, y1.2) : UX), []) by rw [HRN.out, HMS.out, List.append_assoc, HLC.out, un_group_ok HFG.out H0.out, ushut_ok herr])
                  have HL1 := Lib.hid (show y1.2.length + (many (un - (k + 1)) uc1 ug ++ flatL (us.drop (i + 1))).length ≤ 100000 by have := HL0.out; have := HY.out; simp only at this; omega)
                  have HERR := Lib.hid herr
                  clear herr
                  go_wp2_with fail
                  refine HREC2.out.mono ?_
                  rintro e w2 ⟨v2, rfl, ht2⟩
                  obtain ⟨F3, g3, _, k3⟩ := Turn.pick (l := [rd 76 a y1.1, row 3 .i64 v2 y1.2]) ht2 0 (by simp)
                  have HC := Lib.hid (check_calls a y1.1 z.1.pos g3 hfr)
                  have K3 := Lib.hid k3
                  clear g3 k3 ht2
                  go_wp2_with fail
                  refine HC.out.mono ?_
                  rintro e w3 ⟨rfl, ht3⟩
                  have T3 := Lib.hid (K3.out _ _ ht3)
                  have T4 : Hid (Turn w w3 F (all [two a v2 ((y1.1.checkS z.1.pos, y1.2) : UX), box wo.heap.size (.cells #[.int .u8 (uc1.toNat : Int), .int .i64 (un : Int), .slice ga ug.length gc] 108)])) := Lib.hid (K1.out _ _ T3.out)
                  obtain ⟨F4, g4, _, _⟩ := Turn.pick T3.out 0 (by simp)
                  have HE := Lib.hid (rerr_calls a (y1.1.checkS z.1.pos) g4)
                  clear g4 ht3
                  go_wp2_with fail
                  refine HE.out.mono ?_
                  rintro e w4 ⟨rfl, rfl⟩
                  go_wp2_with fail
                  exact ⟨⟨k + 1, _, by simp, by omega, HNX.out, T4.out, HL1.out⟩, by simp [intOf]; omega⟩
                · have t1 : ((y1.1.checkS z.1.pos).err != 0) = true := by simp [herr]
                  have HNX := Lib.hid (show run ustep (flatL us) (x, []) = .error (y1.1.checkS z.1.pos).err by rw [HRN.out, HMS.out, List.append_assoc, HLC.out, un_group_ok HFG.out H0.out, ushut_error herr])
                  have HERR := Lib.hid herr
                  clear herr
                  go_wp2_with fail
                  refine HREC2.out.mono ?_
                  rintro e w2 ⟨v2, rfl, ht2⟩
                  obtain ⟨F3, g3, _, k3⟩ := Turn.pick (l := [rd 76 a y1.1, row 3 .i64 v2 y1.2]) ht2 0 (by simp)
                  have HC := Lib.hid (check_calls a y1.1 z.1.pos g3 hfr)
                  have K3 := Lib.hid k3
                  clear g3 k3 ht2
                  go_wp2_with fail
                  refine HC.out.mono ?_
                  rintro e w3 ⟨rfl, ht3⟩
                  have T3 := Lib.hid (K3.out _ _ ht3)
                  have T4 : Hid (Turn w w3 F (all [two a v2 ((y1.1.checkS z.1.pos, y1.2) : UX), box wo.heap.size (.cells #[.int .u8 (uc1.toNat : Int), .int .i64 (un : Int), .slice ga ug.length gc] 108)])) := Lib.hid (K1.out _ _ T3.out)
                  obtain ⟨F4, g4, _, _⟩ := Turn.pick T3.out 0 (by simp)
                  have HE := Lib.hid (rerr_calls a (y1.1.checkS z.1.pos) g4)
                  clear g4 ht3
                  go_wp2_with fail
                  refine HE.out.mono ?_
                  rintro e w4 ⟨rfl, rfl⟩
                  go_wp2_with fail
                  refine HE.out.mono ?_
                  rintro e w4 ⟨rfl, rfl⟩
                  go_wp2_with fail
                  exact ⟨rfl, .inl ⟨_, HNX.out, rfl, T4.out.1⟩⟩
            · have HL2 := Lib.hid (show isLetter uc1 = true from hw.1.resolve_left h40)
              have t40 : ((uc1.toNat : Int) == 40) = false := by simp only [beq_eq_false_iff_ne, ne_eq]; intro e; exact h40 (UInt8.toNat_inj.1 (by show uc1.toNat = 40; omega))
              clear hw h40
              by_cases h98 : uc1 = 98
              · have tt : ((uc1.toNat : Int) == 98) = true := by rw [h98]; rfl
                have HLC := Lib.hid h98
                clear h98
                obtain ⟨F2, g2, _, k2⟩ := Turn.pick (l := [rd 76 a z.1, row 3 .i64 u2 z.2]) (Turn.same G1.out) 0 (by simp)
                have HC := Lib.hid (u8_calls a z.1 g2)
                have K2 := Lib.hid k2
                have hzl : z.2.length ≤ 100000 := by have := HLN2.out; omega
                have HPL := Lib.hid (show (z.2.length + 1) * 8 ≤ 140737488355328 by omega)
                have HL1 := Lib.hid (show (z.2.length + 1) + (many (un - (k + 1)) uc1 ug ++ flatL (us.drop (i + 1))).length ≤ 100000 by have h := HLN2.out; rw [HMS.out, List.append_assoc, many_len] at h; have e : (once uc1 ug).length = 1 := (by rw [HLC.out]; rfl); omega)
                clear g2 k2 hzl
                by_cases herr : (z.1.takeS 1).err = 0
                · have t1 : ((z.1.takeS 1).err != 0) = false := by simp [herr]
                  have HNX := Lib.hid (show run ustep (flatL us) (x, []) = run ustep (many (un - (k + 1)) uc1 ug ++ flatL (us.drop (i + 1))) (((z.1.takeS 1, z.2 ++ [wrap64 (z.1.takeV 1 : Nat)]) : UX), []) by rw [HRN.out, HMS.out, List.append_assoc, un_letter (by rw [HLC.out]; rfl), ulet_ok (c := uc1) (by rw [HLC.out]; exact herr), HLC.out]; rfl)
                  have HERR := Lib.hid herr
                  clear herr
                  go_wp2_with fail
                  refine HC.out.mono ?_
                  rintro e w2 ⟨rfl, ht2⟩
                  obtain ⟨F3, g3, _, k3⟩ := Turn.pick (K2.out _ _ ht2) 1 (by simp)
                  have G3 : Hid ((row 3 .i64 u2 z.2).on w2 F3) := Lib.hid g3
                  have K3 := Lib.hid k3
                  clear ht2 g3 k3
                  go_wp2_with (first | ((with_reducible refine gate_builtin (b := .append) (xs := #[.tmp 52, .tmp 55]) rfl ?_); refine push_list rfl (.tmp 52) (.tmp 55) 58 3 .i64 8 rfl Try.underlying58 info3 (by decide) u2 z.2 (wrap64 (z.1.takeV 1 : Nat)) rfl rfl G3.out.1 HPL.out ?_; intro v1 w3 ho1 hg1 hat1; have T3 := Lib.hid (K3.out _ _ (turn_row G3.out ho1 hg1 hat1)); clear ho1 hg1 hat1))
                  have T4 : Hid (Turn w w3 F (all [two a v1 ((z.1.takeS 1, z.2 ++ [wrap64 (z.1.takeV 1 : Nat)]) : UX), box wo.heap.size (.cells #[.int .u8 (uc1.toNat : Int), .int .i64 (un : Int), .slice ga ug.length gc] 108)])) := Lib.hid (K1.out _ _ T3.out)
                  obtain ⟨F4, g4, _, _⟩ := Turn.pick T3.out 0 (by simp)
                  have HE := Lib.hid (rerr_calls a (z.1.takeS 1) g4)
                  clear g4
                  refine HE.out.mono ?_
                  rintro e w4 ⟨rfl, rfl⟩
                  go_wp2_with fail
                  exact ⟨⟨k + 1, _, by simp, by omega, HNX.out, T4.out, by have := HL1.out; simp only [List.length_append, List.length_singleton] at this ⊢; exact this⟩, by simp [intOf]; omega⟩
                · have t1 : ((z.1.takeS 1).err != 0) = true := by simp [herr]
                  have HNX := Lib.hid (show run ustep (flatL us) (x, []) = .error (z.1.takeS 1).err by rw [HRN.out, HMS.out, List.append_assoc, un_letter (by rw [HLC.out]; rfl), ulet_error (c := uc1) (by rw [HLC.out]; exact herr), HLC.out]; rfl)
                  have HERR := Lib.hid herr
                  clear herr
                  go_wp2_with fail
                  refine HC.out.mono ?_
                  rintro e w2 ⟨rfl, ht2⟩
                  obtain ⟨F3, g3, _, k3⟩ := Turn.pick (K2.out _ _ ht2) 1 (by simp)
                  have G3 : Hid ((row 3 .i64 u2 z.2).on w2 F3) := Lib.hid g3
                  have K3 := Lib.hid k3
                  clear ht2 g3 k3
                  go_wp2_with (first | ((with_reducible refine gate_builtin (b := .append) (xs := #[.tmp 52, .tmp 55]) rfl ?_); refine push_list rfl (.tmp 52) (.tmp 55) 58 3 .i64 8 rfl Try.underlying58 info3 (by decide) u2 z.2 (wrap64 (z.1.takeV 1 : Nat)) rfl rfl G3.out.1 HPL.out ?_; intro v1 w3 ho1 hg1 hat1; have T3 := Lib.hid (K3.out _ _ (turn_row G3.out ho1 hg1 hat1)); clear ho1 hg1 hat1))
                  have T4 : Hid (Turn w w3 F (all [two a v1 ((z.1.takeS 1, z.2 ++ [wrap64 (z.1.takeV 1 : Nat)]) : UX), box wo.heap.size (.cells #[.int .u8 (uc1.toNat : Int), .int .i64 (un : Int), .slice ga ug.length gc] 108)])) := Lib.hid (K1.out _ _ T3.out)
                  obtain ⟨F4, g4, _, _⟩ := Turn.pick T3.out 0 (by simp)
                  have HE := Lib.hid (rerr_calls a (z.1.takeS 1) g4)
                  clear g4
                  refine HE.out.mono ?_
                  rintro e w4 ⟨rfl, rfl⟩
                  go_wp2_with fail
                  refine HE.out.mono ?_
                  rintro e w4 ⟨rfl, rfl⟩
                  go_wp2_with fail
                  exact ⟨rfl, .inl ⟨_, HNX.out, rfl, T4.out.1⟩⟩
              have t98 : ((uc1.toNat : Int) == 98) = false := by simp only [beq_eq_false_iff_ne, ne_eq]; intro e; exact h98 (UInt8.toNat_inj.1 (by show uc1.toNat = 98; omega))
              by_cases h104 : uc1 = 104
              · have tt : ((uc1.toNat : Int) == 104) = true := by rw [h104]; rfl
                have HLC := Lib.hid h104
                clear h104
                obtain ⟨F2, g2, _, k2⟩ := Turn.pick (l := [rd 76 a z.1, row 3 .i64 u2 z.2]) (Turn.same G1.out) 0 (by simp)
                have HC := Lib.hid (u16_calls a z.1 g2)
                have K2 := Lib.hid k2
                have hzl : z.2.length ≤ 100000 := by have := HLN2.out; omega
                have HPL := Lib.hid (show (z.2.length + 1) * 8 ≤ 140737488355328 by omega)
                have HL1 := Lib.hid (show (z.2.length + 1) + (many (un - (k + 1)) uc1 ug ++ flatL (us.drop (i + 1))).length ≤ 100000 by have h := HLN2.out; rw [HMS.out, List.append_assoc, many_len] at h; have e : (once uc1 ug).length = 1 := (by rw [HLC.out]; rfl); omega)
                clear g2 k2 hzl
                by_cases herr : (z.1.takeS 2).err = 0
                · have t1 : ((z.1.takeS 2).err != 0) = false := by simp [herr]
                  have HNX := Lib.hid (show run ustep (flatL us) (x, []) = run ustep (many (un - (k + 1)) uc1 ug ++ flatL (us.drop (i + 1))) (((z.1.takeS 2, z.2 ++ [wrap64 (z.1.takeV 2 : Nat)]) : UX), []) by rw [HRN.out, HMS.out, List.append_assoc, un_letter (by rw [HLC.out]; rfl), ulet_ok (c := uc1) (by rw [HLC.out]; exact herr), HLC.out]; rfl)
                  have HERR := Lib.hid herr
                  clear herr
                  go_wp2_with fail
                  refine HC.out.mono ?_
                  rintro e w2 ⟨rfl, ht2⟩
                  obtain ⟨F3, g3, _, k3⟩ := Turn.pick (K2.out _ _ ht2) 1 (by simp)
                  have G3 : Hid ((row 3 .i64 u2 z.2).on w2 F3) := Lib.hid g3
                  have K3 := Lib.hid k3
                  clear ht2 g3 k3
                  go_wp2_with (first | ((with_reducible refine gate_builtin (b := .append) (xs := #[.tmp 52, .tmp 55]) rfl ?_); refine push_list rfl (.tmp 52) (.tmp 55) 58 3 .i64 8 rfl Try.underlying58 info3 (by decide) u2 z.2 (wrap64 (z.1.takeV 2 : Nat)) rfl rfl G3.out.1 HPL.out ?_; intro v1 w3 ho1 hg1 hat1; have T3 := Lib.hid (K3.out _ _ (turn_row G3.out ho1 hg1 hat1)); clear ho1 hg1 hat1))
                  have T4 : Hid (Turn w w3 F (all [two a v1 ((z.1.takeS 2, z.2 ++ [wrap64 (z.1.takeV 2 : Nat)]) : UX), box wo.heap.size (.cells #[.int .u8 (uc1.toNat : Int), .int .i64 (un : Int), .slice ga ug.length gc] 108)])) := Lib.hid (K1.out _ _ T3.out)
                  obtain ⟨F4, g4, _, _⟩ := Turn.pick T3.out 0 (by simp)
                  have HE := Lib.hid (rerr_calls a (z.1.takeS 2) g4)
                  clear g4
                  refine HE.out.mono ?_
                  rintro e w4 ⟨rfl, rfl⟩
                  go_wp2_with fail
                  exact ⟨⟨k + 1, _, by simp, by omega, HNX.out, T4.out, by have := HL1.out; simp only [List.length_append, List.length_singleton] at this ⊢; exact this⟩, by simp [intOf]; omega⟩
                · have t1 : ((z.1.takeS 2).err != 0) = true := by simp [herr]
                  have HNX := Lib.hid (show run ustep (flatL us) (x, []) = .error (z.1.takeS 2).err by rw [HRN.out, HMS.out, List.append_assoc, un_letter (by rw [HLC.out]; rfl), ulet_error (c := uc1) (by rw [HLC.out]; exact herr), HLC.out]; rfl)
                  have HERR := Lib.hid herr
                  clear herr
                  go_wp2_with fail
                  refine HC.out.mono ?_
                  rintro e w2 ⟨rfl, ht2⟩
                  obtain ⟨F3, g3, _, k3⟩ := Turn.pick (K2.out _ _ ht2) 1 (by simp)
                  have G3 : Hid ((row 3 .i64 u2 z.2).on w2 F3) := Lib.hid g3
                  have K3 := Lib.hid k3
                  clear ht2 g3 k3
                  go_wp2_with (first | ((with_reducible refine gate_builtin (b := .append) (xs := #[.tmp 52, .tmp 55]) rfl ?_); refine push_list rfl (.tmp 52) (.tmp 55) 58 3 .i64 8 rfl Try.underlying58 info3 (by decide) u2 z.2 (wrap64 (z.1.takeV 2 : Nat)) rfl rfl G3.out.1 HPL.out ?_; intro v1 w3 ho1 hg1 hat1; have T3 := Lib.hid (K3.out _ _ (turn_row G3.out ho1 hg1 hat1)); clear ho1 hg1 hat1))
                  have T4 : Hid (Turn w w3 F (all [two a v1 ((z.1.takeS 2, z.2 ++ [wrap64 (z.1.takeV 2 : Nat)]) : UX), box wo.heap.size (.cells #[.int .u8 (uc1.toNat : Int), .int .i64 (un : Int), .slice ga ug.length gc] 108)])) := Lib.hid (K1.out _ _ T3.out)
                  obtain ⟨F4, g4, _, _⟩ := Turn.pick T3.out 0 (by simp)
                  have HE := Lib.hid (rerr_calls a (z.1.takeS 2) g4)
                  clear g4
                  refine HE.out.mono ?_
                  rintro e w4 ⟨rfl, rfl⟩
                  go_wp2_with fail
                  refine HE.out.mono ?_
                  rintro e w4 ⟨rfl, rfl⟩
                  go_wp2_with fail
                  exact ⟨rfl, .inl ⟨_, HNX.out, rfl, T4.out.1⟩⟩
              have t104 : ((uc1.toNat : Int) == 104) = false := by simp only [beq_eq_false_iff_ne, ne_eq]; intro e; exact h104 (UInt8.toNat_inj.1 (by show uc1.toNat = 104; omega))
              by_cases h119 : uc1 = 119
              · have tt : ((uc1.toNat : Int) == 119) = true := by rw [h119]; rfl
                have HLC := Lib.hid h119
                clear h119
                obtain ⟨F2, g2, _, k2⟩ := Turn.pick (l := [rd 76 a z.1, row 3 .i64 u2 z.2]) (Turn.same G1.out) 0 (by simp)
                have HC := Lib.hid (word_calls a z.1 g2)
                have K2 := Lib.hid k2
                have hzl : z.2.length ≤ 100000 := by have := HLN2.out; omega
                have HPL := Lib.hid (show (z.2.length + 1) * 8 ≤ 140737488355328 by omega)
                have HL1 := Lib.hid (show (z.2.length + 1) + (many (un - (k + 1)) uc1 ug ++ flatL (us.drop (i + 1))).length ≤ 100000 by have h := HLN2.out; rw [HMS.out, List.append_assoc, many_len] at h; have e : (once uc1 ug).length = 1 := (by rw [HLC.out]; rfl); omega)
                clear g2 k2 hzl
                by_cases herr : (z.1.takeS 4).err = 0
                · have t1 : ((z.1.takeS 4).err != 0) = false := by simp [herr]
                  have HNX := Lib.hid (show run ustep (flatL us) (x, []) = run ustep (many (un - (k + 1)) uc1 ug ++ flatL (us.drop (i + 1))) (((z.1.takeS 4, z.2 ++ [wrap64 (z.1.takeV 4 : Nat)]) : UX), []) by rw [HRN.out, HMS.out, List.append_assoc, un_letter (by rw [HLC.out]; rfl), ulet_ok (c := uc1) (by rw [HLC.out]; exact herr), HLC.out]; rfl)
                  have HERR := Lib.hid herr
                  clear herr
                  go_wp2_with fail
                  refine HC.out.mono ?_
                  rintro e w2 ⟨rfl, ht2⟩
                  obtain ⟨F3, g3, _, k3⟩ := Turn.pick (K2.out _ _ ht2) 1 (by simp)
                  have G3 : Hid ((row 3 .i64 u2 z.2).on w2 F3) := Lib.hid g3
                  have K3 := Lib.hid k3
                  clear ht2 g3 k3
                  go_wp2_with (first | ((with_reducible refine gate_builtin (b := .append) (xs := #[.tmp 52, .tmp 55]) rfl ?_); refine push_list rfl (.tmp 52) (.tmp 55) 58 3 .i64 8 rfl Try.underlying58 info3 (by decide) u2 z.2 (wrap64 (z.1.takeV 4 : Nat)) rfl rfl G3.out.1 HPL.out ?_; intro v1 w3 ho1 hg1 hat1; have T3 := Lib.hid (K3.out _ _ (turn_row G3.out ho1 hg1 hat1)); clear ho1 hg1 hat1))
                  have T4 : Hid (Turn w w3 F (all [two a v1 ((z.1.takeS 4, z.2 ++ [wrap64 (z.1.takeV 4 : Nat)]) : UX), box wo.heap.size (.cells #[.int .u8 (uc1.toNat : Int), .int .i64 (un : Int), .slice ga ug.length gc] 108)])) := Lib.hid (K1.out _ _ T3.out)
                  obtain ⟨F4, g4, _, _⟩ := Turn.pick T3.out 0 (by simp)
                  have HE := Lib.hid (rerr_calls a (z.1.takeS 4) g4)
                  clear g4
                  refine HE.out.mono ?_
                  rintro e w4 ⟨rfl, rfl⟩
                  go_wp2_with fail
                  exact ⟨⟨k + 1, _, by simp, by omega, HNX.out, T4.out, by have := HL1.out; simp only [List.length_append, List.length_singleton] at this ⊢; exact this⟩, by simp [intOf]; omega⟩
                · have t1 : ((z.1.takeS 4).err != 0) = true := by simp [herr]
                  have HNX := Lib.hid (show run ustep (flatL us) (x, []) = .error (z.1.takeS 4).err by rw [HRN.out, HMS.out, List.append_assoc, un_letter (by rw [HLC.out]; rfl), ulet_error (c := uc1) (by rw [HLC.out]; exact herr), HLC.out]; rfl)
                  have HERR := Lib.hid herr
                  clear herr
                  go_wp2_with fail
                  refine HC.out.mono ?_
                  rintro e w2 ⟨rfl, ht2⟩
                  obtain ⟨F3, g3, _, k3⟩ := Turn.pick (K2.out _ _ ht2) 1 (by simp)
                  have G3 : Hid ((row 3 .i64 u2 z.2).on w2 F3) := Lib.hid g3
                  have K3 := Lib.hid k3
                  clear ht2 g3 k3
                  go_wp2_with (first | ((with_reducible refine gate_builtin (b := .append) (xs := #[.tmp 52, .tmp 55]) rfl ?_); refine push_list rfl (.tmp 52) (.tmp 55) 58 3 .i64 8 rfl Try.underlying58 info3 (by decide) u2 z.2 (wrap64 (z.1.takeV 4 : Nat)) rfl rfl G3.out.1 HPL.out ?_; intro v1 w3 ho1 hg1 hat1; have T3 := Lib.hid (K3.out _ _ (turn_row G3.out ho1 hg1 hat1)); clear ho1 hg1 hat1))
                  have T4 : Hid (Turn w w3 F (all [two a v1 ((z.1.takeS 4, z.2 ++ [wrap64 (z.1.takeV 4 : Nat)]) : UX), box wo.heap.size (.cells #[.int .u8 (uc1.toNat : Int), .int .i64 (un : Int), .slice ga ug.length gc] 108)])) := Lib.hid (K1.out _ _ T3.out)
                  obtain ⟨F4, g4, _, _⟩ := Turn.pick T3.out 0 (by simp)
                  have HE := Lib.hid (rerr_calls a (z.1.takeS 4) g4)
                  clear g4
                  refine HE.out.mono ?_
                  rintro e w4 ⟨rfl, rfl⟩
                  go_wp2_with fail
                  refine HE.out.mono ?_
                  rintro e w4 ⟨rfl, rfl⟩
                  go_wp2_with fail
                  exact ⟨rfl, .inl ⟨_, HNX.out, rfl, T4.out.1⟩⟩
              have t119 : ((uc1.toNat : Int) == 119) = false := by simp only [beq_eq_false_iff_ne, ne_eq]; intro e; exact h119 (UInt8.toNat_inj.1 (by show uc1.toNat = 119; omega))
              by_cases h108 : uc1 = 108
              · have tt : ((uc1.toNat : Int) == 108) = true := by rw [h108]; rfl
                have HLC := Lib.hid h108
                clear h108
                obtain ⟨F2, g2, _, k2⟩ := Turn.pick (l := [rd 76 a z.1, row 3 .i64 u2 z.2]) (Turn.same G1.out) 0 (by simp)
                have HC := Lib.hid (u64_calls a z.1 g2)
                have K2 := Lib.hid k2
                have hzl : z.2.length ≤ 100000 := by have := HLN2.out; omega
                have HPL := Lib.hid (show (z.2.length + 1) * 8 ≤ 140737488355328 by omega)
                have HL1 := Lib.hid (show (z.2.length + 1) + (many (un - (k + 1)) uc1 ug ++ flatL (us.drop (i + 1))).length ≤ 100000 by have h := HLN2.out; rw [HMS.out, List.append_assoc, many_len] at h; have e : (once uc1 ug).length = 1 := (by rw [HLC.out]; rfl); omega)
                clear g2 k2 hzl
                by_cases herr : (z.1.takeS 8).err = 0
                · have t1 : ((z.1.takeS 8).err != 0) = false := by simp [herr]
                  have HNX := Lib.hid (show run ustep (flatL us) (x, []) = run ustep (many (un - (k + 1)) uc1 ug ++ flatL (us.drop (i + 1))) (((z.1.takeS 8, z.2 ++ [wrap64 (z.1.takeV 8 : Nat)]) : UX), []) by rw [HRN.out, HMS.out, List.append_assoc, un_letter (by rw [HLC.out]; rfl), ulet_ok (c := uc1) (by rw [HLC.out]; exact herr), HLC.out]; rfl)
                  have HERR := Lib.hid herr
                  clear herr
                  go_wp2_with fail
                  refine HC.out.mono ?_
                  rintro e w2 ⟨rfl, ht2⟩
                  obtain ⟨F3, g3, _, k3⟩ := Turn.pick (K2.out _ _ ht2) 1 (by simp)
                  have G3 : Hid ((row 3 .i64 u2 z.2).on w2 F3) := Lib.hid g3
                  have K3 := Lib.hid k3
                  clear ht2 g3 k3
                  go_wp2_with (first | ((with_reducible refine gate_builtin (b := .append) (xs := #[.tmp 52, .tmp 55]) rfl ?_); refine push_list rfl (.tmp 52) (.tmp 55) 58 3 .i64 8 rfl Try.underlying58 info3 (by decide) u2 z.2 (wrap64 (z.1.takeV 8 : Nat)) rfl rfl G3.out.1 HPL.out ?_; intro v1 w3 ho1 hg1 hat1; have T3 := Lib.hid (K3.out _ _ (turn_row G3.out ho1 hg1 hat1)); clear ho1 hg1 hat1))
                  have T4 : Hid (Turn w w3 F (all [two a v1 ((z.1.takeS 8, z.2 ++ [wrap64 (z.1.takeV 8 : Nat)]) : UX), box wo.heap.size (.cells #[.int .u8 (uc1.toNat : Int), .int .i64 (un : Int), .slice ga ug.length gc] 108)])) := Lib.hid (K1.out _ _ T3.out)
                  obtain ⟨F4, g4, _, _⟩ := Turn.pick T3.out 0 (by simp)
                  have HE := Lib.hid (rerr_calls a (z.1.takeS 8) g4)
                  clear g4
                  refine HE.out.mono ?_
                  rintro e w4 ⟨rfl, rfl⟩
                  go_wp2_with fail
                  exact ⟨⟨k + 1, _, by simp, by omega, HNX.out, T4.out, by have := HL1.out; simp only [List.length_append, List.length_singleton] at this ⊢; exact this⟩, by simp [intOf]; omega⟩
                · have t1 : ((z.1.takeS 8).err != 0) = true := by simp [herr]
                  have HNX := Lib.hid (show run ustep (flatL us) (x, []) = .error (z.1.takeS 8).err by rw [HRN.out, HMS.out, List.append_assoc, un_letter (by rw [HLC.out]; rfl), ulet_error (c := uc1) (by rw [HLC.out]; exact herr), HLC.out]; rfl)
                  have HERR := Lib.hid herr
                  clear herr
                  go_wp2_with fail
                  refine HC.out.mono ?_
                  rintro e w2 ⟨rfl, ht2⟩
                  obtain ⟨F3, g3, _, k3⟩ := Turn.pick (K2.out _ _ ht2) 1 (by simp)
                  have G3 : Hid ((row 3 .i64 u2 z.2).on w2 F3) := Lib.hid g3
                  have K3 := Lib.hid k3
                  clear ht2 g3 k3
                  go_wp2_with (first | ((with_reducible refine gate_builtin (b := .append) (xs := #[.tmp 52, .tmp 55]) rfl ?_); refine push_list rfl (.tmp 52) (.tmp 55) 58 3 .i64 8 rfl Try.underlying58 info3 (by decide) u2 z.2 (wrap64 (z.1.takeV 8 : Nat)) rfl rfl G3.out.1 HPL.out ?_; intro v1 w3 ho1 hg1 hat1; have T3 := Lib.hid (K3.out _ _ (turn_row G3.out ho1 hg1 hat1)); clear ho1 hg1 hat1))
                  have T4 : Hid (Turn w w3 F (all [two a v1 ((z.1.takeS 8, z.2 ++ [wrap64 (z.1.takeV 8 : Nat)]) : UX), box wo.heap.size (.cells #[.int .u8 (uc1.toNat : Int), .int .i64 (un : Int), .slice ga ug.length gc] 108)])) := Lib.hid (K1.out _ _ T3.out)
                  obtain ⟨F4, g4, _, _⟩ := Turn.pick T3.out 0 (by simp)
                  have HE := Lib.hid (rerr_calls a (z.1.takeS 8) g4)
                  clear g4
                  refine HE.out.mono ?_
                  rintro e w4 ⟨rfl, rfl⟩
                  go_wp2_with fail
                  refine HE.out.mono ?_
                  rintro e w4 ⟨rfl, rfl⟩
                  go_wp2_with fail
                  exact ⟨rfl, .inl ⟨_, HNX.out, rfl, T4.out.1⟩⟩
              have t108 : ((uc1.toNat : Int) == 108) = false := by simp only [beq_eq_false_iff_ne, ne_eq]; intro e; exact h108 (UInt8.toNat_inj.1 (by show uc1.toNat = 108; omega))
              have h := HL2.out
              unfold isLetter at h
              simp [h98, h104, h119, h108] at h
          · have HNX := Lib.hid (show run ustep (flatL us) (x, []) = run ustep (flatL (us.drop (i + 1))) (z, []) by have h := HRN.out; rw [show un - k = 0 by omega, many_zero] at h; exact h)
            have HL1 := Lib.hid (show z.2.length + (flatL (us.drop (i + 1))).length ≤ 100000 by have h := HLN2.out; rw [show un - k = 0 by omega, many_zero] at h; exact h)
            go_wp2_with fail
            exact ⟨⟨i + 1, z, by simp, by have := HLT.out; omega, HNX.out, Turn.first HT2.out, HL1.out⟩, by have := HLT.out; simp [intOf]; omega⟩
      · go_wp2_with fail
        go_ret
        exact .inr ⟨y, _, by rw [HRUN.out, flat_end hlt]; rfl, rfl, HT.out⟩
end Go.Proofs.Ytdmliaodacaefaa.Shape
/- The deferred closures of Pack and Unpack, in both modes. -/
namespace Go.Proofs.Ytdmliaodacaefaa.Pk
open Go.RowKit Go.Proofs.Ytdmliaodacaefaa.Bridge
set_option linter.unusedVariables false
set_option linter.unusedSimpArgs false
theorem catch_panicking (a b : Nat) (x y : Value) (z : Int) (older : List PanicEntry) (w : World) (hp : w.cell? ⟨a, 0, none⟩ = some x) (fp : w.frozen? ⟨a, 0, none⟩ = false) (hq : w.cell? ⟨b, 0, none⟩ = some y) (fq : w.frozen? ⟨b, 0, none⟩ = false) (hne : ¬ a = b) :
    CallsD Try.prog 83 #[.pointer (some ⟨a, 0, none⟩), .pointer (some ⟨b, 0, none⟩)] (.panicking ({ v := .iface 44 (.int .i64 z), recovered := false } :: older)) w fun e u' w' =>
      e = .returned (.tuple #[]) ∧ u' = .panicking ({ v := .iface 44 (.int .i64 z), recovered := true } :: older) ∧ w' = ((w.drew.setCell ⟨a, 0, none⟩ (.slice none 0 0)).setCell ⟨b, 0, none⟩ (.int .i64 z)) := by
  refine callsD_of_wpS Try.func83 rfl fun c₀ cs hu => ?_
  apply wpS_seq
  apply wpS_region
  simp [wpOpsS, go_sem, recoverD, hu, Try.ntmps83, Exit.thenS]
  apply wpS_seq
  apply wpS_region
  simp [wpOpsS, go_sem, Exit.thenS]
  refine wpS_cond (t := true) (by simp [Act.eval, Array.replicate]) ?_
  simp only [if_true]
  refine wpS_of_wp ?_
  have hta : ∀ (wx : World), (Instr.typeAssert (.iface 44 (.int .i64 z)) 20 44 false).run Try.prog wx = .ok (.int .i64 z) wx := fun _ => by kernel_rfl
  go_region
  all_goals simp [bodyPostS, results, Try.results83]
theorem catch_idle (a b : Nat) (w : World) :
    CallsD Try.prog 83 #[.pointer (some ⟨a, 0, none⟩), .pointer (some ⟨b, 0, none⟩)] .returning w fun e u' w' => e = .returned (.tuple #[]) ∧ u' = .returning ∧ w' = w := by
  refine callsD_of_wpS Try.func83 rfl fun c₀ cs hu => ?_
  apply wpS_seq
  apply wpS_region
  simp [wpOpsS, go_sem, recoverD, hu, Try.ntmps83, Exit.thenS]
  apply wpS_seq
  apply wpS_region
  simp [wpOpsS, go_sem, Exit.thenS]
  refine wpS_cond (t := false) (by simp [Act.eval, Array.replicate]) ?_
  simp only [Bool.false_eq_true, if_false]
  refine wpS_of_wp (wp_skip ?_)
  cases c₀
  simp_all [bodyPostS, results, Try.results83]
theorem pcatch_panicking (a b : Nat) (x y : Value) (z : Int) (older : List PanicEntry) (w : World) (hp : w.cell? ⟨a, 0, none⟩ = some x) (fp : w.frozen? ⟨a, 0, none⟩ = false) (hq : w.cell? ⟨b, 0, none⟩ = some y) (fq : w.frozen? ⟨b, 0, none⟩ = false) (hne : ¬ a = b) :
    CallsD Try.prog 90 #[.pointer (some ⟨a, 0, none⟩), .pointer (some ⟨b, 0, none⟩)] (.panicking ({ v := .iface 44 (.int .i64 z), recovered := false } :: older)) w fun e u' w' =>
      e = .returned (.tuple #[]) ∧ u' = .panicking ({ v := .iface 44 (.int .i64 z), recovered := true } :: older) ∧ w' = ((w.drew.setCell ⟨a, 0, none⟩ (.slice none 0 0)).setCell ⟨b, 0, none⟩ (.int .i64 z)) := by
  refine callsD_of_wpS Try.func90 rfl fun c₀ cs hu => ?_
  apply wpS_seq
  apply wpS_region
  simp [wpOpsS, go_sem, recoverD, hu, Try.ntmps90, Exit.thenS]
  apply wpS_seq
  apply wpS_region
  simp [wpOpsS, go_sem, Exit.thenS]
  refine wpS_cond (t := true) (by simp [Act.eval, Array.replicate]) ?_
  simp only [if_true]
  refine wpS_of_wp ?_
  have hta : ∀ (wx : World), (Instr.typeAssert (.iface 44 (.int .i64 z)) 20 44 false).run Try.prog wx = .ok (.int .i64 z) wx := fun _ => by kernel_rfl
  go_region
  all_goals simp [bodyPostS, results, Try.results90]
theorem pcatch_idle (a b : Nat) (w : World) :
    CallsD Try.prog 90 #[.pointer (some ⟨a, 0, none⟩), .pointer (some ⟨b, 0, none⟩)] .returning w fun e u' w' => e = .returned (.tuple #[]) ∧ u' = .returning ∧ w' = w := by
  refine callsD_of_wpS Try.func90 rfl fun c₀ cs hu => ?_
  apply wpS_seq
  apply wpS_region
  simp [wpOpsS, go_sem, recoverD, hu, Try.ntmps90, Exit.thenS]
  apply wpS_seq
  apply wpS_region
  simp [wpOpsS, go_sem, Exit.thenS]
  refine wpS_cond (t := false) (by simp [Act.eval, Array.replicate]) ?_
  simp only [Bool.false_eq_true, if_false]
  refine wpS_of_wp (wp_skip ?_)
  cases c₀
  simp_all [bodyPostS, results, Try.results90]
end Go.Proofs.Ytdmliaodacaefaa.Pk
/- Unpack, the whole function: the numbers, or none and the error. By walks. -/
namespace Go.Proofs.Ytdmliaodacaefaa.Shape
open Go.RowKit Go.Proofs.YtdmliaodacaefaaW.PrintWords Go.Proofs.YtdmliaodacaefaaW.PrintLast Go.Proofs.YtdmliaodacaefaaW.PrintMore Go.Proofs.Ytdmliaodacaefaa.Mem Go.Proofs.Ytdmliaodacaefaa.Sep Go.Proofs.Ytdmliaodacaefaa.Bridge Go.Proofs.Ytdmliaodacaefaa.Wr Go.Proofs.Ytdmliaodacaefaa.Rd Go.Proofs.Ytdmliaodacaefaa.Pk
set_option linter.unusedVariables false
set_option linter.unusedSimpArgs false
/-- what Unpack tells. -/
def unpackS (t l : List UInt8) : List Int × Int :=
  match whole t with
  | none => ([], 24)
  | some us => match run ustep (flatL us) ((RS.new l, []), []) with
    | .error z => ([], z)
    | .ok y => if y.1.1.endE = 0 then (y.1.2, 0) else ([], y.1.1.endE)
/-- numbers and an error, in new memory. -/
def Gave (w : World) (o : List Int × Int) (e : Ending) (w' : World) : Prop :=
  ∃ v, e = .returned (.tuple #[v, .int .i64 o.2]) ∧ (row 3 .i64 v o.1).on w' (fun b => w.heap.size ≤ b) ∧ Below w.heap.size w w'
theorem gave_nil (w w' : World) (z : Int) (hb : Below w.heap.size w w') : Gave w ([], z) (.returned (.tuple #[.slice none 0 0, .int .i64 z])) w' :=
  ⟨_, rfl, ⟨Rw.nil _ _ _, fun b hb => by simp [Value.ownBlock] at hb⟩, hb⟩
/-- the two results' cells. -/
def w0 (w : World) : World := (w.alloc (.cells #[.slice none 0 0] 58)).alloc (.cells #[.int .i64 0] 44)
theorem w0_size (w : World) : (w0 w).heap.size = w.heap.size + 2 := by unfold w0; simp
theorem w0_below (w : World) : Below w.heap.size w (w0 w) := below_alloc (below_alloc (Below.refl _ _) _) _
theorem w0_a (w : World) : (w0 w).heap[w.heap.size]? = some (.cells #[.slice none 0 0] 58 (0, 0)) := by
  unfold w0
  rw [heap_alloc_old _ _ (by simp)]
  exact heap_alloc_new w _
theorem w0_b (w : World) : (w0 w).heap[w.heap.size + 1]? = some (.cells #[.int .i64 0] 44 (0, 0)) := by
  unfold w0
  have h := heap_alloc_new (w.alloc (.cells #[.slice none 0 0] 58)) (.cells #[.int .i64 0] 44)
  rwa [alloc_size] at h
theorem two_new {w w1 : World} {a : Nat} {s : RS} (h : (rd 76 a s).on w1 (fun b => w.heap.size ≤ b)) : (two a (.slice none 0 0) (s, [])).on w1 (fun b => w.heap.size ≤ b) := by
  refine ⟨fun i b => i = 0 ∧ w.heap.size ≤ b, fun i hi => ?_, fun i j b hne hi hj => hne (hi.1.trans hj.1.symm), fun i b hb => hb.2⟩
  have e : i = 0 ∨ i = 1 := by simp at hi; omega
  rcases e with e | e <;> subst e
  · exact (rd 76 a s).up h (fun b hb => ⟨rfl, hb⟩)
  · exact ⟨Rw.nil _ _ _, fun b hb => by simp [Value.ownBlock] at hb⟩
set_option maxRecDepth 100000 in
set_option maxHeartbeats 4000000 in
theorem unpack_none (s : ByteArray) (hs : s.size ≤ 140737488351232) (dv : Value) (w : World) (hw : whole s.data.toList = none) : Calls Try.prog 41 #[.string s, dv] w (Gave w ([], 24)) := by
  have HREC := Lib.hid ((read_calls s hs (w0 w)).mono (R' := fun e w' => e = bad ∧ Below (w0 w).heap.size (w0 w) w') (fun e w' h => by rcases h.2 with h2 | ⟨us, v, h2, _⟩; exact ⟨h2.2, h.1⟩; rw [hw] at h2; cases h2))
  have hmf : ∀ (fn : Fn) (first cap : Array Value) (w : World), (Instr.makeFunc fn first cap).run Try.prog w = .ok (.func fn first cap) w := fun _ _ _ _ => rfl
  clear hw
  go_enter_defers Try.func41, Try.ntmps41
  go_wp2_with fail
  refine HREC.out.mono ?_
  rintro e w2 ⟨rfl, hb2⟩
  have HB2 := Lib.hid hb2
  clear hb2
  unfold bad
  go_wp2_with fail
  have ha := (HB2.out.block w.heap.size (by rw [w0_size]; omega)).trans (w0_a w)
  have hb := (HB2.out.block (w.heap.size + 1) (by rw [w0_size]; omega)).trans (w0_b w)
  have x0 : w2.cell? ⟨w.heap.size, 0, none⟩ = some (.slice none 0 0) := cell_of ha rfl
  have x1 : w2.cell? ⟨w.heap.size + 1, 0, none⟩ = some (.int .i64 0) := cell_of hb rfl
  refine leaves_cons (f := 83) (args := #[.pointer (some ⟨w.heap.size, 0, none⟩), .pointer (some ⟨w.heap.size + 1, 0, none⟩)]) (by simp) (by simp [go_sem]) ?_
  refine (catch_panicking w.heap.size (w.heap.size + 1) (.slice none 0 0) (.int .i64 0) 24 [] w2 x0 (frozen_of ha 0) x1 (frozen_of hb 0) (by omega)).mono ?_
  rintro e u' w'' ⟨rfl, rfl, rfl⟩
  simp [Leaves, settle, results, Try.results41, go_sem, x0, x1]
  exact gave_nil w _ 24 (((((w0_below w).trans (HB2.out.mono (by rw [w0_size]; omega))).setCell (Nat.le_refl _) _).setCell (Nat.le_succ _) _).drew)
set_option maxRecDepth 100000 in
set_option maxHeartbeats 4000000 in
theorem unpack_some (s : ByteArray) (hs : s.size ≤ 140737488351232) (A : Option Addr) (c : Nat) (l : List UInt8) (w : World) (hr : Kd.C (Kd.int .u8) w A (bl l).length (bl l)) (hc : (bl l).length ≤ c) (hl : l.length ≤ 140737488351232) (us : List U) (hw : whole s.data.toList = some us) :
    Calls Try.prog 41 #[.string s, .slice A (bl l).length c] w (Gave w (unpackS s.data.toList l)) := by
  have hgood := whole_good hw
  have HGOOD := Lib.hid hgood
  have HW := Lib.hid hw
  have HREC := Lib.hid ((read_calls s hs (w0 w)).mono (R' := fun e w' => ∃ a c n, e = .returned (.tuple #[.slice a us.length c, .int .i64 n]) ∧ Units w' (fun b => (w0 w).heap.size ≤ b) (.slice a us.length c) us ∧ Below (w0 w).heap.size (w0 w) w') (fun e w' h => by rcases h.2 with h2 | ⟨us1, v, h2, h3, h4⟩; (rw [hw] at h2; cases h2.1); (rw [hw] at h2; simp only [Option.some.injEq] at h2; subst h2; obtain ⟨a, c, e1, h5⟩ := h4; subst e1; exact ⟨a, c, _, h3, ⟨a, c, rfl, h5⟩, h.1⟩)))
  have HNR := Lib.hid (fun (W : World) (hb : Below w.heap.size w W) => newp_calls A c l W (Kd.C_below hr hb) hc hl)
  have hmf : ∀ (fn : Fn) (first cap : Array Value) (w : World), (Instr.makeFunc fn first cap).run Try.prog w = .ok (.func fn first cap) w := fun _ _ _ _ => rfl
  clear hw hgood hr hc hl
  cases hrun : run ustep (flatL us) ((RS.new l, []), []) with
  | error z =>
    have HRES := Lib.hid (show unpackS s.data.toList l = ([], z) by unfold unpackS; rw [HW.out]; simp only [hrun])
    have HRUN := Lib.hid hrun
    clear hrun
    go_enter_defers Try.func41, Try.ntmps41
    go_wp2_with fail
    refine HREC.out.mono ?_
    rintro e w2 ⟨ua, uc, un, rfl, hU, hb2⟩
    have HB2 := Lib.hid hb2
    have HU := Lib.hid hU
    have HBW := Lib.hid ((w0_below w).trans (hb2.mono (by rw [w0_size]; omega)))
    clear hb2 hU
    go_wp2_with fail
    refine (HNR.out w2 HBW.out).mono ?_
    rintro e w3 ⟨a, rfl, ha, hb3⟩
    have HB3 := Lib.hid hb3
    have HA := Lib.hid ha
    have HUN := Lib.hid ((unpack_calls 6 us (.slice ua us.length uc) (.slice none 0 0) (RS.new l, []) a (fun b => w2.heap.size ≤ b) (fun b => (w0 w).heap.size ≤ b ∧ b < w2.heap.size) w3 (by have := HGOOD.out.2.2.1; omega) HGOOD.out.1 HGOOD.out.2.1 ((HU.out.bound).keep (fun b hb hl => hb3.block b hb.2) (fun b hb => hb)) (fun b hb => ⟨Nat.lt_of_lt_of_le hb.2 hb3.size, fun h => by omega⟩) (two_new ha) (by have := flat_lenL us; have := HGOOD.out.2.2.2.1; simp; omega)).mono (R' := fun e w' => e = died z ∧ Only w3 w' (fun b => w2.heap.size ≤ b)) (fun e w' h => by rcases h with ⟨z1, h1, h2, h3⟩ | ⟨y, v, h1, _⟩; (rw [HRUN.out] at h1; cases h1; exact ⟨h2, h3⟩); (rw [HRUN.out] at h1; cases h1)))
    clear hb3 ha
    go_wp2_with fail
    refine HUN.out.mono ?_
    rintro e w4 ⟨rfl, ho⟩
    have HB4 := Lib.hid (ho.below (B := w2.heap.size) HB3.out (fun b hb => hb) HB3.out.size)
    clear ho
    unfold died
    go_wp2_with fail
    have hsz := HB2.out.size
    have hz := w0_size w
    have ha := (HB4.out.block w.heap.size (by omega)).trans ((HB2.out.block w.heap.size (by omega)).trans (w0_a w))
    have hb := (HB4.out.block (w.heap.size + 1) (by omega)).trans ((HB2.out.block (w.heap.size + 1) (by omega)).trans (w0_b w))
    have x0 : w4.cell? ⟨w.heap.size, 0, none⟩ = some (.slice none 0 0) := cell_of ha rfl
    have x1 : w4.cell? ⟨w.heap.size + 1, 0, none⟩ = some (.int .i64 0) := cell_of hb rfl
    refine leaves_cons (f := 83) (args := #[.pointer (some ⟨w.heap.size, 0, none⟩), .pointer (some ⟨w.heap.size + 1, 0, none⟩)]) (by simp) (by simp [go_sem]) ?_
    refine (catch_panicking w.heap.size (w.heap.size + 1) (.slice none 0 0) (.int .i64 0) z [] w4 x0 (frozen_of ha 0) x1 (frozen_of hb 0) (by omega)).mono ?_
    rintro e u' w'' ⟨rfl, rfl, rfl⟩
    simp [Leaves, settle, results, Try.results41, go_sem, x0, x1]
    rw [HRES.out]
    exact gave_nil w _ z ((((HBW.out.trans (HB4.out.mono HBW.out.size)).setCell (Nat.le_refl _) _).setCell (Nat.le_succ _) _).drew)
  | ok y2 =>
    obtain ⟨y, st⟩ := y2
    have hst : st = [] := by
      rcases ulevel us (RS.new l, []) HGOOD.out.2.1 with ⟨e, h⟩ | ⟨y1, h⟩
      · rw [h []] at hrun; cases hrun
      · rw [h []] at hrun
        simp only [Except.ok.injEq, Prod.mk.injEq] at hrun
        exact hrun.2.symm
    subst hst
    by_cases hend : y.1.endE = 0
    · have HRES := Lib.hid (show unpackS s.data.toList l = (y.2, 0) by unfold unpackS; rw [HW.out]; simp only [hrun]; rw [if_pos hend])
      have HRUN := Lib.hid hrun
      have tend : (y.1.endE != 0) = false := by simp [hend]
      clear hrun hend
      go_enter_defers Try.func41, Try.ntmps41
      go_wp2_with fail
      refine HREC.out.mono ?_
      rintro e w2 ⟨ua, uc, un, rfl, hU, hb2⟩
      have HB2 := Lib.hid hb2
      have HU := Lib.hid hU
      have HBW := Lib.hid ((w0_below w).trans (hb2.mono (by rw [w0_size]; omega)))
      clear hb2 hU
      go_wp2_with fail
      refine (HNR.out w2 HBW.out).mono ?_
      rintro e w3 ⟨a, rfl, ha, hb3⟩
      have HB3 := Lib.hid hb3
      have HA := Lib.hid ha
      have HUN := Lib.hid ((unpack_calls 6 us (.slice ua us.length uc) (.slice none 0 0) (RS.new l, []) a (fun b => w2.heap.size ≤ b) (fun b => (w0 w).heap.size ≤ b ∧ b < w2.heap.size) w3 (by have := HGOOD.out.2.2.1; omega) HGOOD.out.1 HGOOD.out.2.1 ((HU.out.bound).keep (fun b hb hl => hb3.block b hb.2) (fun b hb => hb)) (fun b hb => ⟨Nat.lt_of_lt_of_le hb.2 hb3.size, fun h => by omega⟩) (two_new ha) (by have := flat_lenL us; have := HGOOD.out.2.2.2.1; simp; omega)).mono (R' := fun e w' => ∃ A n c, e = .returned (.slice A n c) ∧ Turn w3 w' (fun b => w2.heap.size ≤ b) (two a (.slice A n c) y)) (fun e w' h => by rcases h with ⟨z1, h1, _⟩ | ⟨y1, v, h1, h2, h3⟩; (rw [HRUN.out] at h1; cases h1); (rw [HRUN.out] at h1; simp only [Except.ok.injEq, Prod.mk.injEq, and_true] at h1; subst h1; obtain ⟨F1, g1, _⟩ := All.at_ (show All [rd 76 a y.1, row 3 .i64 v y.2] w' _ from h3.2) 1 (by simp); obtain ⟨A, c, e1, _⟩ := g1.1.reads; subst e1; exact ⟨A, _, c, h2, h3⟩)))
      clear hb3 ha
      go_wp2_with fail
      refine HUN.out.mono ?_
      rintro e w4 ⟨vA, vn, vc, rfl, ht4⟩
      have HT4 := Lib.hid ht4
      have hsz := HB2.out.size
      have hz := w0_size w
      have hon := ht4.1
      have hs3 := HB3.out.size
      have HB4 := Lib.hid (hon.below (B := w2.heap.size) HB3.out (fun b hb => hb) HB3.out.size)
      have ha := (HB4.out.block w.heap.size (by omega)).trans ((HB2.out.block w.heap.size (by omega)).trans (w0_a w))
      have hb := (HB4.out.block (w.heap.size + 1) (by omega)).trans ((HB2.out.block (w.heap.size + 1) (by omega)).trans (w0_b w))
      have x0 : w4.cell? ⟨w.heap.size, 0, none⟩ = some (.slice none 0 0) := cell_of ha rfl
      have x1 : w4.cell? ⟨w.heap.size + 1, 0, none⟩ = some (.int .i64 0) := cell_of hb rfl
      have f0 := frozen_of ha 0
      have f1 := frozen_of hb 0
      have HSET := Lib.hid (show ∀ b, b ≠ w.heap.size → (w4.setCell ⟨w.heap.size, 0, none⟩ (.slice vA vn vc)).heap[b]? = w4.heap[b]? from fun b hne => Below.heap_setCell w4 _ _ b hne)
      have HWZ := Lib.hid (show w.heap.size + 2 ≤ w2.heap.size by omega)
      have HT5 := Lib.hid ((two a (.slice vA vn vc) y).keep ht4.2 (w' := w4.setCell ⟨w.heap.size, 0, none⟩ (.slice vA vn vc)) (fun b hb2 _ => HSET.out b (by intro e; subst e; rcases hb2 with h | h <;> omega)))
      obtain ⟨F5, g5, hu5⟩ := All.at_ (show All [rd 76 a y.1, row 3 .i64 (.slice vA vn vc) y.2] _ _ from HT5.out) 0 (by simp)
      have HEND := Lib.hid (end_calls a y.1 g5)
      clear ha hb hsz hz hon hs3 ht4 g5 hu5
      go_wp2_with fail
      refine HEND.out.mono ?_
      rintro e w5 ⟨rfl, k5, hd5⟩
      subst hd5
      go_wp2_with fail
      refine leaves_cons (f := 83) (args := #[.pointer (some ⟨w.heap.size, 0, none⟩), .pointer (some ⟨w.heap.size + 1, 0, none⟩)]) (by simp) (by simp [go_sem]) ?_
      refine (catch_idle w.heap.size (w.heap.size + 1) _).mono ?_
      rintro e u' w'' ⟨rfl, rfl, rfl⟩
      simp [Leaves, settle, results, Try.results41, go_sem, x0, x1]
      rw [HRES.out]
      obtain ⟨F6, g6, hu6⟩ := All.at_ (show All [rd 76 a y.1, row 3 .i64 (.slice vA vn vc) y.2] _ _ from HT5.out) 1 (by simp)
      have g6' : (row 3 .i64 (.slice vA vn vc) y.2).on (w4.setCell ⟨w.heap.size, 0, none⟩ (.slice vA vn vc)) F6 := g6
      have hz3 := HB3.out.size
      have hwz := HWZ.out
      have hlow : ∀ b, F6 b → w.heap.size + 2 ≤ b := fun b hb => by rcases hu6 b hb with h | h <;> omega
      refine ⟨_, rfl, (row 3 .i64 (.slice vA vn vc) y.2).up ((row 3 .i64 (.slice vA vn vc) y.2).keep g6' (fun b hb _ => ?_)) (fun b hb => by have := hlow b hb; omega), ?_⟩
      · have := hlow b hb
        rw [Below.heap_setCell _ _ _ b (by show b ≠ w.heap.size + 1; omega), Below.heap_setCell _ _ _ b (by show b ≠ w.heap.size; omega)]
        rfl
      · exact (((pw_below_drewN ((HBW.out.trans (HB4.out.mono HBW.out.size)).setCell (Nat.le_refl _) _) k5).setCell (Nat.le_refl _) _).setCell (Nat.le_succ _) _)
    · have HRES := Lib.hid (show unpackS s.data.toList l = ([], y.1.endE) by unfold unpackS; rw [HW.out]; simp only [hrun]; rw [if_neg hend])
      have HRUN := Lib.hid hrun
      have tend : (y.1.endE != 0) = true := by simp [hend]
      clear hrun hend
      go_enter_defers Try.func41, Try.ntmps41
      go_wp2_with fail
      refine HREC.out.mono ?_
      rintro e w2 ⟨ua, uc, un, rfl, hU, hb2⟩
      have HB2 := Lib.hid hb2
      have HU := Lib.hid hU
      have HBW := Lib.hid ((w0_below w).trans (hb2.mono (by rw [w0_size]; omega)))
      clear hb2 hU
      go_wp2_with fail
      refine (HNR.out w2 HBW.out).mono ?_
      rintro e w3 ⟨a, rfl, ha, hb3⟩
      have HB3 := Lib.hid hb3
      have HA := Lib.hid ha
      have HUN := Lib.hid ((unpack_calls 6 us (.slice ua us.length uc) (.slice none 0 0) (RS.new l, []) a (fun b => w2.heap.size ≤ b) (fun b => (w0 w).heap.size ≤ b ∧ b < w2.heap.size) w3 (by have := HGOOD.out.2.2.1; omega) HGOOD.out.1 HGOOD.out.2.1 ((HU.out.bound).keep (fun b hb hl => hb3.block b hb.2) (fun b hb => hb)) (fun b hb => ⟨Nat.lt_of_lt_of_le hb.2 hb3.size, fun h => by omega⟩) (two_new ha) (by have := flat_lenL us; have := HGOOD.out.2.2.2.1; simp; omega)).mono (R' := fun e w' => ∃ A n c, e = .returned (.slice A n c) ∧ Turn w3 w' (fun b => w2.heap.size ≤ b) (two a (.slice A n c) y)) (fun e w' h => by rcases h with ⟨z1, h1, _⟩ | ⟨y1, v, h1, h2, h3⟩; (rw [HRUN.out] at h1; cases h1); (rw [HRUN.out] at h1; simp only [Except.ok.injEq, Prod.mk.injEq, and_true] at h1; subst h1; obtain ⟨F1, g1, _⟩ := All.at_ (show All [rd 76 a y.1, row 3 .i64 v y.2] w' _ from h3.2) 1 (by simp); obtain ⟨A, c, e1, _⟩ := g1.1.reads; subst e1; exact ⟨A, _, c, h2, h3⟩)))
      clear hb3 ha
      go_wp2_with fail
      refine HUN.out.mono ?_
      rintro e w4 ⟨vA, vn, vc, rfl, ht4⟩
      have HT4 := Lib.hid ht4
      have hsz := HB2.out.size
      have hz := w0_size w
      have hon := ht4.1
      have hs3 := HB3.out.size
      have HB4 := Lib.hid (hon.below (B := w2.heap.size) HB3.out (fun b hb => hb) HB3.out.size)
      have ha := (HB4.out.block w.heap.size (by omega)).trans ((HB2.out.block w.heap.size (by omega)).trans (w0_a w))
      have hb := (HB4.out.block (w.heap.size + 1) (by omega)).trans ((HB2.out.block (w.heap.size + 1) (by omega)).trans (w0_b w))
      have x0 : w4.cell? ⟨w.heap.size, 0, none⟩ = some (.slice none 0 0) := cell_of ha rfl
      have x1 : w4.cell? ⟨w.heap.size + 1, 0, none⟩ = some (.int .i64 0) := cell_of hb rfl
      have f0 := frozen_of ha 0
      have f1 := frozen_of hb 0
      have HSET := Lib.hid (show ∀ b, b ≠ w.heap.size → (w4.setCell ⟨w.heap.size, 0, none⟩ (.slice vA vn vc)).heap[b]? = w4.heap[b]? from fun b hne => Below.heap_setCell w4 _ _ b hne)
      have HWZ := Lib.hid (show w.heap.size + 2 ≤ w2.heap.size by omega)
      have HT5 := Lib.hid ((two a (.slice vA vn vc) y).keep ht4.2 (w' := w4.setCell ⟨w.heap.size, 0, none⟩ (.slice vA vn vc)) (fun b hb2 _ => HSET.out b (by intro e; subst e; rcases hb2 with h | h <;> omega)))
      obtain ⟨F5, g5, hu5⟩ := All.at_ (show All [rd 76 a y.1, row 3 .i64 (.slice vA vn vc) y.2] _ _ from HT5.out) 0 (by simp)
      have HEND := Lib.hid (end_calls a y.1 g5)
      clear ha hb hsz hz hon hs3 ht4 g5 hu5
      go_wp2_with fail
      refine HEND.out.mono ?_
      rintro e w5 ⟨rfl, k5, hd5⟩
      subst hd5
      go_wp2_with fail
      refine leaves_cons (f := 83) (args := #[.pointer (some ⟨w.heap.size, 0, none⟩), .pointer (some ⟨w.heap.size + 1, 0, none⟩)]) (by simp) (by simp [go_sem]) ?_
      refine (catch_panicking w.heap.size (w.heap.size + 1) (.slice vA vn vc) (.int .i64 0) y.1.endE [] _ (by simp [go_sem, x0]) (by simp [go_sem, f0]) (by simp [go_sem, x1]) (by simp [go_sem, f1]) (by omega)).mono ?_
      rintro e u' w'' ⟨rfl, rfl, rfl⟩
      simp [Leaves, settle, results, Try.results41, go_sem, x0, x1]
      rw [HRES.out]
      exact gave_nil w _ _ (((pw_below_drewN ((HBW.out.trans (HB4.out.mono HBW.out.size)).setCell (Nat.le_refl _) _) (k5 + 1)).setCell (Nat.le_refl _) _).setCell (Nat.le_succ _) _)
/-- every Unpack. -/
theorem unpackP_calls (s : ByteArray) (hs : s.size ≤ 140737488351232) (A : Option Addr) (c : Nat) (l : List UInt8) (w : World) (hr : Kd.C (Kd.int .u8) w A (bl l).length (bl l)) (hc : (bl l).length ≤ c) (hl : l.length ≤ 140737488351232) :
    Calls Try.prog 41 #[.string s, .slice A (bl l).length c] w (Gave w (unpackS s.data.toList l)) := by
  cases hw : whole s.data.toList with
  | none =>
    have e : unpackS s.data.toList l = ([], 24) := by unfold unpackS; rw [hw]
    rw [e]
    exact unpack_none s hs _ w hw
  | some us => exact unpack_some s hs A c l w hr hc hl us hw
end Go.Proofs.Ytdmliaodacaefaa.Shape
