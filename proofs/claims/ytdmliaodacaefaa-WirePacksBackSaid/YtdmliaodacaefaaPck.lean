/- Function pack: the numbers of a shape, written one by one; or the first error, as a panic. By a walk, by induction on the depth. -/
import Derived.Test.YtdmliaodacaefaaUnp
import Derived.Test.YtdmliaodacaefaaWro
namespace Go.Proofs.Ytdmliaodacaefaa.Shape
open Go.RowKit Go.Proofs.YtdmliaodacaefaaW.PrintWords Go.Proofs.YtdmliaodacaefaaW.PrintLast Go.Proofs.YtdmliaodacaefaaW.PrintMore Go.Proofs.Ytdmliaodacaefaa.Mem Go.Proofs.Ytdmliaodacaefaa.Sep Go.Proofs.Ytdmliaodacaefaa.Bridge Go.Proofs.Ytdmliaodacaefaa.Wr
set_option linter.unusedVariables false
set_option linter.unusedSimpArgs false
/-- numbers that are read, in blocks of G. -/
def Vals (w : World) (G : Blks) (v : Value) (xs : List Int) : Prop :=
  ∃ A c, v = .slice A xs.length c ∧ xs.length ≤ c ∧ Kd.C (Kd.int .i64) w A xs.length xs ∧ (0 < xs.length → ∀ a, A = some a → G a.block)
theorem Vals.keep {w w' : World} {F G : Blks} {v : Value} {xs : List Int} (h : Vals w G v xs) (ho : Only w w' F) (hd : ∀ b, G b → ¬ F b) : Vals w' G v xs := by
  obtain ⟨A, c, e, hc, hr, hb⟩ := h
  exact ⟨A, c, e, hc, C_only hr ho (fun h0 a ea => hd _ (hb h0 a ea)), hb⟩
theorem Vals.move {w w' : World} {G : Blks} {v : Value} {xs : List Int} (h : Vals w G v xs) (hk : ∀ b, G b → w'.heap[b]? = w.heap[b]?) : Vals w' G v xs := by
  obtain ⟨A, c, e, hc, hr, hb⟩ := h
  obtain ⟨r1, r2, r3⟩ := Kd.reads_of_C (enc := Value.int .i64) (d := (0 : Int)) (h1 := fun _ => rfl) hr
  refine ⟨A, c, e, hc, Kd.C_of_reads (d := (0 : Int)) (h1 := fun _ => rfl) ⟨r1, r2, fun hn => ?_⟩, hb⟩
  obtain ⟨ad, e1, hcell⟩ := r3 hn
  refine ⟨ad, e1, fun j hj => ?_⟩
  rw [World.cell?_of_block (w := w) (hk _ (by rw [show (ad.add j).block = ad.block by unfold Addr.add; split <;> rfl]; exact hb hn ad e1))]
  exact hcell j hj
theorem add_one (b o j : Nat) : (⟨b, o, none⟩ : Addr).add j = ⟨b, o + j, none⟩ := by unfold Addr.add; split <;> simp_all
theorem add_zero (a : Addr) : a.add 0 = a := by unfold Addr.add; split <;> simp_all
theorem add_block (a : Addr) (j : Nat) : (a.add j).block = a.block := by unfold Addr.add; split <;> rfl
theorem cut58 (A : Option Addr) (n c : Nat) (w : World) : (Instr.slice 58 (.slice A (n + 1) c) (some (.int .i64 1)) none none).run Try.prog w = .ok (.slice (if c = 1 then A else A.map (·.add 1)) n (c - 1)) w := by
  obtain ⟨i, h1, h2⟩ := i3
  have h := cut_from (P := Try.prog) 58 3 .i64 Try.underlying58 h1 1 h2 A (n + 1) c (1 : Int) (by omega) (by omega) w
  simpa using h
theorem Vals.head {w : World} {G : Blks} {A : Option Addr} {c : Nat} {v : Int} {vs : List Int} (h : Vals w G (.slice A (vs.length + 1) c) (v :: vs)) : vs.length + 1 ≤ c ∧ ∃ ad, A = some ad ∧ w.cell? ad = some (.int .i64 v) := by
  obtain ⟨A1, c1, e, hc, hr, hb⟩ := h
  injection e with e1 e2 e3
  subst e1 e3
  obtain ⟨_, _, h3⟩ := Kd.reads_of_C (enc := Value.int .i64) (d := (0 : Int)) (h1 := fun _ => rfl) hr
  obtain ⟨ad, ea, hcell⟩ := h3 (by simp)
  have h0 := hcell 0 (by simp)
  rw [add_zero] at h0
  exact ⟨by simpa using hc, ad, ea, h0⟩
theorem Vals.tail {w : World} {G : Blks} {A : Option Addr} {c : Nat} {v : Int} {vs : List Int} (h : Vals w G (.slice A (vs.length + 1) c) (v :: vs)) : Vals w G (.slice (if c = 1 then A else A.map (·.add 1)) vs.length (c - 1)) vs := by
  obtain ⟨A1, c1, e, hc, hr, hb⟩ := h
  injection e with e1 e2 e3
  subst e1 e3
  have hd := C_drop hr 1 (by simp) hc
  refine ⟨_, _, rfl, by simp at hc; omega, hd, fun h0 a ea => ?_⟩
  split at ea
  · exact hb (by simp) a ea
  · cases A with
    | none => cases ea
    | some a0 =>
      injection ea with ea
      subst ea
      show G ((a0.add 1).block)
      rw [add_block]
      exact hb (by simp) a0 rfl
def Fit (xs : List Int) : Prop := ∀ x ∈ xs, -9223372036854775808 ≤ x ∧ x ≤ 9223372036854775807
/-- what pack comes to. -/
def PkPost (us : List U) (x : PX) (a : Nat) (w : World) (F G : Blks) (e : Ending) (w' : World) : Prop :=
  (∃ z, run pstep (flatL us) x = .error z ∧ e = died z ∧ Only w w' F) ∨
  ∃ y v, run pstep (flatL us) x = .ok y ∧ e = .returned v ∧ Turn w w' F (st objW a y.1) ∧ Vals w G v y.2 ∧ Fit y.2
def POut (us : List U) (x : PX) (a : Nat) (w : World) (F G : Blks) (v2 v12 : Value) (wr : World) : Prop :=
  ∃ (i : Nat) (y : PX), v12 = .int .i64 (i : Nat) ∧ i ≤ us.length ∧ run pstep (flatL us) x = run pstep (flatL (us.drop i)) y ∧ Turn w wr F (st objW a y.1) ∧ Vals w G v2 y.2 ∧ Fit y.2 ∧ ltrs (flatL (us.drop i)) ≤ y.2.length
def PInn (us : List U) (x : PX) (a : Nat) (w : World) (F G : Blks) (i : Nat) (c : UInt8) (n : Nat) (g : List U) (b : Nat) (O : Obj) (v2 v18 : Value) (wr : World) : Prop :=
  ∃ (k : Nat) (y : PX), v18 = .int .i64 (k : Nat) ∧ k ≤ n ∧ run pstep (flatL us) x = run pstep (many (n - k) c g ++ flatL (us.drop (i + 1))) y ∧ Turn w wr F (all [st objW a y.1, box b O]) ∧ Vals w G v2 y.2 ∧ Fit y.2 ∧ ltrs (many (n - k) c g ++ flatL (us.drop (i + 1))) ≤ y.2.length
theorem pk_letter {c : UInt8} (hc : isLetter c = true) (g : List U) (rest : List UInt8) (s : WS) (v : Int) (vs : List Int) :
    run pstep (once c g ++ rest) (s, v :: vs) = if (putc c s v).err = 0 then run pstep rest (putc c s v, vs) else .error (putc c s v).err := by
  have h40 : ¬ c = 40 := by intro e; subst e; revert hc; decide
  have h41 : ¬ c = 41 := by intro e; subst e; revert hc; decide
  rw [once_letter h40]
  have hs : pstep c (s, v :: vs) = if (putc c s v).err = 0 then .ok (putc c s v, vs) else .error (putc c s v).err := by
    unfold pstep; rw [if_neg h40, if_neg h41]; rfl
  by_cases he : (putc c s v).err = 0
  · rw [if_pos he] at hs ⊢
    exact run_cons_ok pstep hs
  · rw [if_neg he] at hs ⊢
    exact run_cons_error pstep hs
theorem pk_group (g : List U) (rest : List UInt8) (x : PX) :
    run pstep (once 40 g ++ rest) x = match run pstep (flatL g) (x.1.open_, x.2) with | .error e => .error e | .ok y => run pstep rest (y.1.seal, y.2) := by
  rw [once_group]
  show run pstep (40 :: (flatL g ++ [41] ++ rest)) x = _
  rw [run_cons_ok pstep (show pstep 40 x = .ok (x.1.open_, x.2) from rfl), List.append_assoc]
  cases h : run pstep (flatL g) (x.1.open_, x.2) with
  | error e => exact run_append_error pstep h
  | ok y =>
    rw [run_append_ok pstep h]
    exact run_cons_ok pstep (show pstep 41 y = .ok (y.1.seal, y.2) from rfl)
theorem Fit.tail {v : Int} {vs : List Int} (h : Fit (v :: vs)) : Fit vs := fun x hx => h x (List.mem_cons_of_mem _ hx)
theorem flat_at : ∀ (l : List U) (i : Nat) (u : U), l[i]? = some u → (flat1 u).length ≤ (flatL l).length
  | [], i, u, e => by simp at e
  | x :: l, 0, u, e => by
    have e2 : x = u := by simpa using e
    subst e2
    show _ ≤ (flat1 x ++ flatL l).length
    rw [List.length_append]; omega
  | x :: l, i + 1, u, e => by
    have h := flat_at l i u (by simpa using e)
    show _ ≤ (flat1 x ++ flatL l).length
    rw [List.length_append]; omega
theorem flat_group {c : UInt8} {n : Nat} {g : List U} (hn : 1 ≤ n) (hc : c = 40) : (flatL g).length ≤ (flat1 (.mk c n g)).length := by
  rw [flat1_many, hc, show n = (n - 1) + 1 by omega, many_succ, List.length_append, once_group]
  simp; omega
set_option maxRecDepth 100000 in
set_option maxHeartbeats 4000000 in
theorem pack_calls (d : Nat) : ∀ (us : List U) (uv v : Value) (x : PX) (a : Nat) (F G : Blks) (w : World), deepL us < d → goodL us → fineL us → Units w G uv us → (∀ b, G b → b < w.heap.size ∧ ¬ F b) → (st objW a x.1).on w F → Vals w G v x.2 → Fit x.2 → ltrs (flatL us) ≤ x.2.length → (flatL us).length ≤ 100000 →
    Calls Try.prog 91 #[.pointer (some ⟨a, 0, none⟩), uv, v] w (PkPost us x a w F G) := by
  induction d with
  | zero => intro us uv v x a F G w hd; omega
  | succ d ih =>
    intro us uv v x a F G w hd hg hf hU hG h hv hfit hlt hlen
    obtain ⟨ua, uc, rfl, huc, hrow⟩ := hU
    have hl : us.length ≤ 100000 := by have := len_flat us hg; omega
    have HROW := Lib.hid hrow
    have HG := Lib.hid hg
    have HF := Lib.hid hf
    have HD := Lib.hid hd
    have HGF := Lib.hid hG
    have H := Lib.hid h
    have HV := Lib.hid hv
    have HFIT := Lib.hid hfit
    have HLT0 := Lib.hid hlt
    have HLEN := Lib.hid hlen
    have HIH := Lib.hid ih
    clear hrow hg hf hd hG h hlen ih hv hfit hlt
    go_enter Try.func91, Try.ntmps91
    go_wp2_with fail
    go_loopw [2, 12] (fun v2 v12 wr => POut us x a w F G v2 v12 wr) (fun _ v12 _ => us.length - (intOf v12).toNat)
    case atStart => exact ⟨0, x, rfl, Nat.zero_le _, rfl, Turn.same H.out, HV.out, HFIT.out, HLT0.out⟩
    case round =>
      obtain ⟨i, y, rfl, hi, hrun, ht, hvo, hfo, hlo⟩ := hrel
      obtain ⟨wo, rfl⟩ : ∃ wo : World, wo = wr := ⟨_, rfl⟩
      have HRUN := Lib.hid hrun
      have HT := Lib.hid ht
      have HVO := Lib.hid hvo
      have HFO := Lib.hid hfo
      have HLO := Lib.hid hlo
      clear hrun ht hvo hfo hlo
      by_cases hlt : i < us.length
      · have hne : ¬ us = [] := by intro e; rw [e] at hlt; exact Nat.not_lt_zero _ hlt
        obtain ⟨b, rfl, hF, hr⟩ := HROW.out.resolve_left hne
        obtain ⟨u, hu⟩ : ∃ u, us[i]? = some u := ⟨us[i], List.getElem?_eq_getElem hlt⟩
        have hat := UnitAt.keep (w' := wo) (G := G) (fun b hb hl => HT.out.1.block b hl (HGF.out b hb).2) (fun b hb => hb) u b (0 + i) hF (RowAt.at_ us 0 i u hr hu)
        rw [Nat.zero_add] at hat
        have HDE := Lib.hid (deep_at us i u hu)
        have HGA := Lib.hid (good_at us i u HG.out hu)
        have HFA := Lib.hid (fine_at us i u HF.out hu)
        have HFLU := Lib.hid (flat_at us i u hu)
        obtain ⟨uc1, un, ug⟩ := u
        have HFD := Lib.hid (flat_drop hu)
        unfold UnitAt at hat
        obtain ⟨c0, c1, ga, gc, c2, hgc, hgr⟩ := hat
        have hun : un ≤ 9 := by have h := HGA.out; unfold good1 at h; exact h.2.1
        have HLT := Lib.hid hlt
        have HGR := Lib.hid hgr
        have HGC := Lib.hid hgc
        clear hr hu hgr hgc hne hF
        have hmf : ∀ (fn : Fn) (first cap : Array Value) (w : World), (Instr.makeFunc fn first cap).run Try.prog w = .ok (.func fn first cap) w := fun _ _ _ _ => rfl
        go_wp2_with fail
        go_loopw [2, 18] (fun v2 v18 wr => PInn us x a w F G i uc1 un ug wo.heap.size (.cells #[.int .u8 (uc1.toNat : Int), .int .i64 (un : Int), .slice ga ug.length gc] 108) v2 v18 wr) (fun _ v18 _ => un - (intOf v18).toNat)
        case atStart => exact ⟨0, y, rfl, Nat.zero_le _, by rw [HRUN.out, HFD.out]; rfl, (Turn.one HT.out).add (below_alloc (Below.refl _ _) _) ⟨heap_alloc_new wo _, Nat.le_refl _⟩, HVO.out, HFO.out, by rw [Nat.sub_zero]; have h := HLO.out; rw [HFD.out] at h; exact h⟩
        case round =>
          obtain ⟨k, z, rfl, hk, hrun, ht, hvz, hfz, hlz⟩ := hrel
          have HRN := Lib.hid hrun
          have HT2 := Lib.hid ht
          have HVZ := Lib.hid hvz
          have HFZ := Lib.hid hfz
          have HLZ := Lib.hid hlz
          have hblk := Turn.heap ht 1 (by simp) rfl
          have b0 : wr.cell? ⟨wo.heap.size, 0, none⟩ = some (.int .u8 (uc1.toNat : Int)) := cell_of hblk rfl
          have b2 : wr.cell? ⟨wo.heap.size, 2, none⟩ = some (.slice ga ug.length gc) := cell_of hblk rfl
          obtain ⟨F1, g1, hu1, k1⟩ := Turn.pick ht 0 (by simp)
          have G1 : Hid ((st objW a z.1).on wr F1) := Lib.hid g1
          have HU1 := Lib.hid hu1
          have K1 := Lib.hid k1
          clear hrun ht hvz hfz hlz hblk g1 hu1 k1
          by_cases hkn : k < un
          · have HMS := Lib.hid (show many (un - k) uc1 ug = once uc1 ug ++ many (un - (k + 1)) uc1 ug by rw [show un - k = (un - (k + 1)) + 1 by omega, many_succ])
            have hw := HFA.out
            unfold fine1 at hw
            have HFG := Lib.hid hw.2
            by_cases h40 : uc1 = 40
            · have tt : ((uc1.toNat : Int) == 40) = true := by rw [h40]; rfl
              have HLC := Lib.hid h40
              have HON := Lib.hid (show ltrs (once uc1 ug) = ltrs (flatL ug) by rw [h40, once_group, ltrs_cons, if_pos (.inl rfl), ltrs_append, ltrs_cons, if_pos (.inr rfl)]; show 0 + (ltrs (flatL ug) + (0 + 0)) = _; omega)
              have HL0 := Lib.hid (show ltrs (flatL ug) + ltrs (many (un - (k + 1)) uc1 ug ++ flatL (us.drop (i + 1))) ≤ z.2.length by have h := HLZ.out; rw [HMS.out, List.append_assoc, ltrs_append, HON.out] at h; exact h)
              have HLF := Lib.hid (show (flatL ug).length ≤ 100000 from Nat.le_trans (flat_group (by have h := HGA.out; unfold good1 at h; exact h.1) h40) (Nat.le_trans HFLU.out HLEN.out))
              have HOP := Lib.hid (open_calls a z.1 G1.out)
              clear h40 hw
              cases hr1 : run pstep (flatL ug) (z.1.open_, z.2) with
              | error er =>
                have HNX := Lib.hid (show run pstep (flatL us) x = .error er by rw [HRN.out, HMS.out, List.append_assoc, HLC.out, pk_group, hr1])
                have HR1 := Lib.hid hr1
                clear hr1
                go_wp2_with fail
                refine HOP.out.mono ?_
                rintro e w2 ⟨rfl, ht2⟩
                have T2 : Hid (Turn w w2 F (all [st objW a z.1.open_, box wo.heap.size (.cells #[.int .u8 (uc1.toNat : Int), .int .i64 (un : Int), .slice ga ug.length gc] 108)])) := Lib.hid (K1.out _ _ ht2)
                have hblk2 := Turn.heap T2.out 1 (by simp) rfl
                have d2 : w2.cell? ⟨wo.heap.size, 2, none⟩ = some (.slice ga ug.length gc) := cell_of hblk2 rfl
                obtain ⟨F2, g2, hu2, k2⟩ := Turn.pick T2.out 0 (by simp)
                have hsame : ∀ b, G b → w2.heap[b]? = w.heap[b]? := fun b hb => T2.out.1.block b (HGF.out b hb).1 (HGF.out b hb).2
                have hrec := HIH.out ug (.slice ga ug.length gc) u2 (z.1.open_, z.2) a F2 G w2 (by have h1 := HD.out; have h2 := HDE.out; simp only [U.group] at h2; omega) (by have h := HGA.out; unfold good1 at h; exact h.2.2) HFG.out (Units.keep (w := wo) (F := G) ⟨ga, gc, rfl, HGC.out, HGR.out⟩ (fun b hb _ => (hsame b hb).trans (HT.out.1.block b (HGF.out b hb).1 (HGF.out b hb).2).symm) (fun b hb => hb)) (fun b hb => ⟨Nat.lt_of_lt_of_le (HGF.out b hb).1 T2.out.1.size, fun h1 => by rcases hu2 b h1 with h2 | h2; exact (HGF.out b hb).2 h2; have := (HGF.out b hb).1; omega⟩) g2 (HVZ.out.move hsame) HFZ.out (by have := HL0.out; show ltrs (flatL ug) ≤ z.2.length; omega) HLF.out
                have HREC2 := Lib.hid (hrec.mono (R' := fun e w' => e = died er ∧ Only w2 w' F2) (fun e w' h => by rcases h with ⟨z1, h1, h2, h3⟩ | ⟨y, v, h1, _⟩; (rw [HR1.out] at h1; cases h1; exact ⟨h2, h3⟩); (rw [HR1.out] at h1; cases h1)))
                have HU2 := Lib.hid hu2
                have HSAME := Lib.hid hsame
                clear hblk2 g2 hu2 k2 hsame hrec ht2
                go_wp2_with fail
                refine HREC2.out.mono ?_
                rintro e w3 ⟨rfl, ho⟩
                have HO := Lib.hid ho
                clear ho
                unfold died
                go_wp2_with fail
                exact ⟨rfl, .inl ⟨er, HNX.out, rfl, T2.out.1.trans HO.out (fun b hb => HU2.out b hb)⟩⟩
              | ok y1 =>
                have HNX := Lib.hid (show run pstep (flatL us) x = run pstep (many (un - (k + 1)) uc1 ug ++ flatL (us.drop (i + 1))) (y1.1.seal, y1.2) by rw [HRN.out, HMS.out, List.append_assoc, HLC.out, pk_group, hr1])
                have HPL := Lib.hid (plen_run hr1)
                have HR1 := Lib.hid hr1
                clear hr1
                go_wp2_with fail
                refine HOP.out.mono ?_
                rintro e w2 ⟨rfl, ht2⟩
                have T2 : Hid (Turn w w2 F (all [st objW a z.1.open_, box wo.heap.size (.cells #[.int .u8 (uc1.toNat : Int), .int .i64 (un : Int), .slice ga ug.length gc] 108)])) := Lib.hid (K1.out _ _ ht2)
                have hblk2 := Turn.heap T2.out 1 (by simp) rfl
                have d2 : w2.cell? ⟨wo.heap.size, 2, none⟩ = some (.slice ga ug.length gc) := cell_of hblk2 rfl
                obtain ⟨F2, g2, hu2, k2⟩ := Turn.pick T2.out 0 (by simp)
                have hsame : ∀ b, G b → w2.heap[b]? = w.heap[b]? := fun b hb => T2.out.1.block b (HGF.out b hb).1 (HGF.out b hb).2
                have hrec := HIH.out ug (.slice ga ug.length gc) u2 (z.1.open_, z.2) a F2 G w2 (by have h1 := HD.out; have h2 := HDE.out; simp only [U.group] at h2; omega) (by have h := HGA.out; unfold good1 at h; exact h.2.2) HFG.out (Units.keep (w := wo) (F := G) ⟨ga, gc, rfl, HGC.out, HGR.out⟩ (fun b hb _ => (hsame b hb).trans (HT.out.1.block b (HGF.out b hb).1 (HGF.out b hb).2).symm) (fun b hb => hb)) (fun b hb => ⟨Nat.lt_of_lt_of_le (HGF.out b hb).1 T2.out.1.size, fun h1 => by rcases hu2 b h1 with h2 | h2; exact (HGF.out b hb).2 h2; have := (HGF.out b hb).1; omega⟩) g2 (HVZ.out.move hsame) HFZ.out (by have := HL0.out; show ltrs (flatL ug) ≤ z.2.length; omega) HLF.out
                have HREC2 := Lib.hid (hrec.mono (R' := fun e w' => ∃ v, e = .returned v ∧ Turn w2 w' F2 (st objW a y1.1) ∧ Vals w2 G v y1.2 ∧ Fit y1.2) (fun e w' h => by rcases h with ⟨z1, h1, _⟩ | ⟨y, v, h1, h2, h3⟩; (rw [HR1.out] at h1; cases h1); (rw [HR1.out] at h1; simp only [Except.ok.injEq] at h1; subst h1; exact ⟨v, h2, h3⟩)))
                have K2 := Lib.hid k2
                have HU2 := Lib.hid hu2
                have HSAME := Lib.hid hsame
                clear hblk2 g2 hu2 k2 hsame hrec ht2
                go_wp2_with fail
                refine HREC2.out.mono ?_
                rintro e w3 ⟨v3, rfl, ht3, hv3, hf3⟩
                have T3 : Hid (Turn w w3 F (all [st objW a y1.1, box wo.heap.size (.cells #[.int .u8 (uc1.toNat : Int), .int .i64 (un : Int), .slice ga ug.length gc] 108)])) := Lib.hid (K2.out _ _ ht3)
                obtain ⟨F3, g3, _, k3⟩ := Turn.pick T3.out 0 (by simp)
                have HSE := Lib.hid (seal_calls a y1.1 g3)
                have K3 := Lib.hid k3
                have HV3 := Lib.hid (hv3.move (fun b hb => (HSAME.out b hb).symm))
                have HF3 := Lib.hid hf3
                clear g3 k3 ht3 hv3 hf3
                go_wp2_with fail
                refine HSE.out.mono ?_
                rintro e w4 ⟨rfl, ht4⟩
                have T4 : Hid (Turn w w4 F (all [st objW a y1.1.seal, box wo.heap.size (.cells #[.int .u8 (uc1.toNat : Int), .int .i64 (un : Int), .slice ga ug.length gc] 108)])) := Lib.hid (K3.out _ _ ht4)
                clear ht4
                go_wp2_with fail
                exact ⟨⟨k + 1, (y1.1.seal, y1.2), by simp, by omega, HNX.out, T4.out, HV3.out, HF3.out, by have := HL0.out; have := HPL.out; simp only at *; omega⟩, by simp [intOf]; omega⟩
            · have HL2 := Lib.hid (show isLetter uc1 = true from hw.1.resolve_left h40)
              have t40 : ((uc1.toNat : Int) == 40) = false := by simp only [beq_eq_false_iff_ne, ne_eq]; intro e; exact h40 (UInt8.toNat_inj.1 (by show uc1.toNat = 40; omega))
              have HON := Lib.hid (show ltrs (once uc1 ug) = 1 by rw [once_letter h40, ltrs_cons, if_neg (by rintro (h | h); exact h40 h; (have h2 := HL2.out; rw [h] at h2; revert h2; decide))]; rfl)
              obtain ⟨zs, zv⟩ := z
              cases zv with
              | nil => exact absurd HLZ.out (by rw [HMS.out, ltrs_append, ltrs_append, HON.out]; show ¬ _ ≤ 0; omega)
              | cons v0 vs =>
                obtain ⟨A, c, rfl, hcv, hrest⟩ := HVZ.out
                have HVZ2 : Hid (Vals w G (.slice A (vs.length + 1) c) (v0 :: vs)) := Lib.hid ⟨A, c, rfl, hcv, hrest⟩
                obtain ⟨hcc, ad, rfl, hcell⟩ := HVZ2.out.head
                have HVT := Lib.hid HVZ2.out.tail
                have hcw := Vals.keep HVZ2.out HT2.out.1 (fun b hb => (HGF.out b hb).2)
                obtain ⟨_, ad2, e2, hcr⟩ := hcw.head
                injection e2 with e2
                subst e2
                have hct := fun wx => cut58 (some ad) vs.length c wx
                obtain ⟨A1, hA1⟩ : ∃ A1, A1 = (if c = 1 then some ad else (some ad).map (·.add 1)) := ⟨_, rfl⟩
                rw [← hA1] at hct HVT
                have hv0 := HFZ.out v0 (by simp)
                have HLS := Lib.hid (show ltrs (many (un - (k + 1)) uc1 ug ++ flatL (us.drop (i + 1))) ≤ vs.length by have h := HLZ.out; rw [HMS.out, List.append_assoc, ltrs_append, HON.out] at h; simp only [List.length_cons] at h; omega)
                clear hw h40 hcv hrest hcell hcw hA1 HVZ
                by_cases h98 : uc1 = 98
                · have tt : ((uc1.toNat : Int) == 98) = true := by rw [h98]; rfl
                  have HLC := Lib.hid h98
                  have HC := Lib.hid (wu8_calls a zs v0 G1.out hv0)
                  clear h98 hv0
                  have HPC := Lib.hid (show putc uc1 zs v0 = zs.num v0 255 1 by rw [HLC.out]; rfl)
                  by_cases herr : (zs.num v0 255 1).err = 0
                  · have t1 : ((zs.num v0 255 1).err != 0) = false := by simp [herr]
                    have HNX := Lib.hid (show run pstep (flatL us) x = run pstep (many (un - (k + 1)) uc1 ug ++ flatL (us.drop (i + 1))) (zs.num v0 255 1, vs) by rw [HRN.out, HMS.out, List.append_assoc, pk_letter HL2.out, HPC.out, if_pos herr])
                    clear herr
                    go_wp2_with fail
                    refine HC.out.mono ?_
                    rintro e w2 ⟨rfl, ht2⟩
                    have T4 : Hid (Turn w w2 F (all [st objW a (zs.num v0 255 1), box wo.heap.size (.cells #[.int .u8 (uc1.toNat : Int), .int .i64 (un : Int), .slice ga ug.length gc] 108)])) := Lib.hid (K1.out _ _ ht2)
                    have HE := Lib.hid (werr_calls a (zs.num v0 255 1) ht2.2)
                    clear ht2
                    go_wp2_with fail
                    refine HE.out.mono ?_
                    rintro e w4 ⟨rfl, rfl⟩
                    go_wp2_with fail
                    exact ⟨⟨k + 1, (zs.num v0 255 1, vs), by simp, by omega, HNX.out, T4.out, HVT.out, HFZ.out.tail, HLS.out⟩, by simp [intOf]; omega⟩
                  · have t1 : ((zs.num v0 255 1).err != 0) = true := by simp [herr]
                    have HNX := Lib.hid (show run pstep (flatL us) x = .error (zs.num v0 255 1).err by rw [HRN.out, HMS.out, List.append_assoc, pk_letter HL2.out, HPC.out, if_neg herr])
                    clear herr
                    go_wp2_with fail
                    refine HC.out.mono ?_
                    rintro e w2 ⟨rfl, ht2⟩
                    have T4 : Hid (Turn w w2 F (all [st objW a (zs.num v0 255 1), box wo.heap.size (.cells #[.int .u8 (uc1.toNat : Int), .int .i64 (un : Int), .slice ga ug.length gc] 108)])) := Lib.hid (K1.out _ _ ht2)
                    have HE := Lib.hid (werr_calls a (zs.num v0 255 1) ht2.2)
                    clear ht2
                    go_wp2_with fail
                    refine HE.out.mono ?_
                    rintro e w4 ⟨rfl, rfl⟩
                    go_wp2_with fail
                    refine HE.out.mono ?_
                    rintro e w4 ⟨rfl, rfl⟩
                    go_wp2_with fail
                    exact ⟨rfl, .inl ⟨_, HNX.out, rfl, T4.out.1⟩⟩
                have t98 : ((uc1.toNat : Int) == 98) = false := by simp only [beq_eq_false_iff_ne, ne_eq]; intro e; exact h98 (UInt8.toNat_inj.1 (by show uc1.toNat = 98; omega))
                by_cases h104 : uc1 = 104
                · have tt : ((uc1.toNat : Int) == 104) = true := by rw [h104]; rfl
                  have HLC := Lib.hid h104
                  have HC := Lib.hid (wu16_calls a zs v0 G1.out hv0)
                  clear h104 hv0
                  have HPC := Lib.hid (show putc uc1 zs v0 = zs.num v0 65535 2 by rw [HLC.out]; rfl)
                  by_cases herr : (zs.num v0 65535 2).err = 0
                  · have t1 : ((zs.num v0 65535 2).err != 0) = false := by simp [herr]
                    have HNX := Lib.hid (show run pstep (flatL us) x = run pstep (many (un - (k + 1)) uc1 ug ++ flatL (us.drop (i + 1))) (zs.num v0 65535 2, vs) by rw [HRN.out, HMS.out, List.append_assoc, pk_letter HL2.out, HPC.out, if_pos herr])
                    clear herr
                    go_wp2_with fail
                    refine HC.out.mono ?_
                    rintro e w2 ⟨rfl, ht2⟩
                    have T4 : Hid (Turn w w2 F (all [st objW a (zs.num v0 65535 2), box wo.heap.size (.cells #[.int .u8 (uc1.toNat : Int), .int .i64 (un : Int), .slice ga ug.length gc] 108)])) := Lib.hid (K1.out _ _ ht2)
                    have HE := Lib.hid (werr_calls a (zs.num v0 65535 2) ht2.2)
                    clear ht2
                    go_wp2_with fail
                    refine HE.out.mono ?_
                    rintro e w4 ⟨rfl, rfl⟩
                    go_wp2_with fail
                    exact ⟨⟨k + 1, (zs.num v0 65535 2, vs), by simp, by omega, HNX.out, T4.out, HVT.out, HFZ.out.tail, HLS.out⟩, by simp [intOf]; omega⟩
                  · have t1 : ((zs.num v0 65535 2).err != 0) = true := by simp [herr]
                    have HNX := Lib.hid (show run pstep (flatL us) x = .error (zs.num v0 65535 2).err by rw [HRN.out, HMS.out, List.append_assoc, pk_letter HL2.out, HPC.out, if_neg herr])
                    clear herr
                    go_wp2_with fail
                    refine HC.out.mono ?_
                    rintro e w2 ⟨rfl, ht2⟩
                    have T4 : Hid (Turn w w2 F (all [st objW a (zs.num v0 65535 2), box wo.heap.size (.cells #[.int .u8 (uc1.toNat : Int), .int .i64 (un : Int), .slice ga ug.length gc] 108)])) := Lib.hid (K1.out _ _ ht2)
                    have HE := Lib.hid (werr_calls a (zs.num v0 65535 2) ht2.2)
                    clear ht2
                    go_wp2_with fail
                    refine HE.out.mono ?_
                    rintro e w4 ⟨rfl, rfl⟩
                    go_wp2_with fail
                    refine HE.out.mono ?_
                    rintro e w4 ⟨rfl, rfl⟩
                    go_wp2_with fail
                    exact ⟨rfl, .inl ⟨_, HNX.out, rfl, T4.out.1⟩⟩
                have t104 : ((uc1.toNat : Int) == 104) = false := by simp only [beq_eq_false_iff_ne, ne_eq]; intro e; exact h104 (UInt8.toNat_inj.1 (by show uc1.toNat = 104; omega))
                by_cases h119 : uc1 = 119
                · have tt : ((uc1.toNat : Int) == 119) = true := by rw [h119]; rfl
                  have HLC := Lib.hid h119
                  have HC := Lib.hid (wword_calls a zs v0 G1.out hv0)
                  clear h119 hv0
                  have HPC := Lib.hid (show putc uc1 zs v0 = zs.num v0 4294967295 4 by rw [HLC.out]; rfl)
                  by_cases herr : (zs.num v0 4294967295 4).err = 0
                  · have t1 : ((zs.num v0 4294967295 4).err != 0) = false := by simp [herr]
                    have HNX := Lib.hid (show run pstep (flatL us) x = run pstep (many (un - (k + 1)) uc1 ug ++ flatL (us.drop (i + 1))) (zs.num v0 4294967295 4, vs) by rw [HRN.out, HMS.out, List.append_assoc, pk_letter HL2.out, HPC.out, if_pos herr])
                    clear herr
                    go_wp2_with fail
                    refine HC.out.mono ?_
                    rintro e w2 ⟨rfl, ht2⟩
                    have T4 : Hid (Turn w w2 F (all [st objW a (zs.num v0 4294967295 4), box wo.heap.size (.cells #[.int .u8 (uc1.toNat : Int), .int .i64 (un : Int), .slice ga ug.length gc] 108)])) := Lib.hid (K1.out _ _ ht2)
                    have HE := Lib.hid (werr_calls a (zs.num v0 4294967295 4) ht2.2)
                    clear ht2
                    go_wp2_with fail
                    refine HE.out.mono ?_
                    rintro e w4 ⟨rfl, rfl⟩
                    go_wp2_with fail
                    exact ⟨⟨k + 1, (zs.num v0 4294967295 4, vs), by simp, by omega, HNX.out, T4.out, HVT.out, HFZ.out.tail, HLS.out⟩, by simp [intOf]; omega⟩
                  · have t1 : ((zs.num v0 4294967295 4).err != 0) = true := by simp [herr]
                    have HNX := Lib.hid (show run pstep (flatL us) x = .error (zs.num v0 4294967295 4).err by rw [HRN.out, HMS.out, List.append_assoc, pk_letter HL2.out, HPC.out, if_neg herr])
                    clear herr
                    go_wp2_with fail
                    refine HC.out.mono ?_
                    rintro e w2 ⟨rfl, ht2⟩
                    have T4 : Hid (Turn w w2 F (all [st objW a (zs.num v0 4294967295 4), box wo.heap.size (.cells #[.int .u8 (uc1.toNat : Int), .int .i64 (un : Int), .slice ga ug.length gc] 108)])) := Lib.hid (K1.out _ _ ht2)
                    have HE := Lib.hid (werr_calls a (zs.num v0 4294967295 4) ht2.2)
                    clear ht2
                    go_wp2_with fail
                    refine HE.out.mono ?_
                    rintro e w4 ⟨rfl, rfl⟩
                    go_wp2_with fail
                    refine HE.out.mono ?_
                    rintro e w4 ⟨rfl, rfl⟩
                    go_wp2_with fail
                    exact ⟨rfl, .inl ⟨_, HNX.out, rfl, T4.out.1⟩⟩
                have t119 : ((uc1.toNat : Int) == 119) = false := by simp only [beq_eq_false_iff_ne, ne_eq]; intro e; exact h119 (UInt8.toNat_inj.1 (by show uc1.toNat = 119; omega))
                by_cases h108 : uc1 = 108
                · have tt : ((uc1.toNat : Int) == 108) = true := by rw [h108]; rfl
                  have HLC := Lib.hid h108
                  have HC := Lib.hid (wu64_calls a zs v0 G1.out hv0)
                  clear h108 hv0
                  have HPC := Lib.hid (show putc uc1 zs v0 = zs.put (little 8 (v0 % 18446744073709551616).toNat) by rw [HLC.out]; rfl)
                  by_cases herr : (zs.put (little 8 (v0 % 18446744073709551616).toNat)).err = 0
                  · have t1 : ((zs.put (little 8 (v0 % 18446744073709551616).toNat)).err != 0) = false := by simp [herr]
                    have HNX := Lib.hid (show run pstep (flatL us) x = run pstep (many (un - (k + 1)) uc1 ug ++ flatL (us.drop (i + 1))) (zs.put (little 8 (v0 % 18446744073709551616).toNat), vs) by rw [HRN.out, HMS.out, List.append_assoc, pk_letter HL2.out, HPC.out, if_pos herr])
                    clear herr
                    go_wp2_with fail
                    refine HC.out.mono ?_
                    rintro e w2 ⟨rfl, ht2⟩
                    have T4 : Hid (Turn w w2 F (all [st objW a (zs.put (little 8 (v0 % 18446744073709551616).toNat)), box wo.heap.size (.cells #[.int .u8 (uc1.toNat : Int), .int .i64 (un : Int), .slice ga ug.length gc] 108)])) := Lib.hid (K1.out _ _ ht2)
                    have HE := Lib.hid (werr_calls a (zs.put (little 8 (v0 % 18446744073709551616).toNat)) ht2.2)
                    clear ht2
                    go_wp2_with fail
                    refine HE.out.mono ?_
                    rintro e w4 ⟨rfl, rfl⟩
                    go_wp2_with fail
                    exact ⟨⟨k + 1, (zs.put (little 8 (v0 % 18446744073709551616).toNat), vs), by simp, by omega, HNX.out, T4.out, HVT.out, HFZ.out.tail, HLS.out⟩, by simp [intOf]; omega⟩
                  · have t1 : ((zs.put (little 8 (v0 % 18446744073709551616).toNat)).err != 0) = true := by simp [herr]
                    have HNX := Lib.hid (show run pstep (flatL us) x = .error (zs.put (little 8 (v0 % 18446744073709551616).toNat)).err by rw [HRN.out, HMS.out, List.append_assoc, pk_letter HL2.out, HPC.out, if_neg herr])
                    clear herr
                    go_wp2_with fail
                    refine HC.out.mono ?_
                    rintro e w2 ⟨rfl, ht2⟩
                    have T4 : Hid (Turn w w2 F (all [st objW a (zs.put (little 8 (v0 % 18446744073709551616).toNat)), box wo.heap.size (.cells #[.int .u8 (uc1.toNat : Int), .int .i64 (un : Int), .slice ga ug.length gc] 108)])) := Lib.hid (K1.out _ _ ht2)
                    have HE := Lib.hid (werr_calls a (zs.put (little 8 (v0 % 18446744073709551616).toNat)) ht2.2)
                    clear ht2
                    go_wp2_with fail
                    refine HE.out.mono ?_
                    rintro e w4 ⟨rfl, rfl⟩
                    go_wp2_with fail
                    refine HE.out.mono ?_
                    rintro e w4 ⟨rfl, rfl⟩
                    go_wp2_with fail
                    exact ⟨rfl, .inl ⟨_, HNX.out, rfl, T4.out.1⟩⟩
                have t108 : ((uc1.toNat : Int) == 108) = false := by simp only [beq_eq_false_iff_ne, ne_eq]; intro e; exact h108 (UInt8.toNat_inj.1 (by show uc1.toNat = 108; omega))
                have h := HL2.out
                unfold isLetter at h
                simp [h98, h104, h119, h108] at h
          · have HNX := Lib.hid (show run pstep (flatL us) x = run pstep (flatL (us.drop (i + 1))) z by have h := HRN.out; rw [show un - k = 0 by omega, many_zero] at h; exact h)
            have HL1 := Lib.hid (show ltrs (flatL (us.drop (i + 1))) ≤ z.2.length by have h := HLZ.out; rw [show un - k = 0 by omega, many_zero] at h; exact h)
            go_wp2_with fail
            exact ⟨⟨i + 1, z, by simp, by have := HLT.out; omega, HNX.out, Turn.first HT2.out, HVZ.out, HFZ.out, HL1.out⟩, by have := HLT.out; simp [intOf]; omega⟩
      · go_wp2_with fail
        go_ret
        exact .inr ⟨y, _, by rw [HRUN.out, flat_end hlt]; rfl, rfl, HT.out, HVO.out, HFO.out⟩
end Go.Proofs.Ytdmliaodacaefaa.Shape
/- Pack, the whole function: the bytes, or none and the error. By walks. -/
namespace Go.Proofs.Ytdmliaodacaefaa.Shape
open Go.RowKit Go.Proofs.YtdmliaodacaefaaW.PrintWords Go.Proofs.YtdmliaodacaefaaW.PrintLast Go.Proofs.YtdmliaodacaefaaW.PrintMore Go.Proofs.Ytdmliaodacaefaa.Mem Go.Proofs.Ytdmliaodacaefaa.Sep Go.Proofs.Ytdmliaodacaefaa.Bridge Go.Proofs.Ytdmliaodacaefaa.Wr Go.Proofs.Ytdmliaodacaefaa.Pk
set_option linter.unusedVariables false
set_option linter.unusedSimpArgs false
/-- what Pack tells. -/
def packS (t : List UInt8) (vals : List Int) : List UInt8 × Int :=
  match whole t with
  | none => ([], 24)
  | some us => if (countL us).2 = vals.length then
      match run pstep (flatL us) (WS.new 1048576, vals) with
      | .error z => ([], z)
      | .ok y => y.1.told
    else ([], 25)
theorem told_nil (w w' : World) (z : Int) (hb : Below w.heap.size w w') : Wr.Told w w' (.returned (.tuple #[.slice none 0 0, .int .i64 z])) ([], z) :=
  ⟨_, rfl, Rw.nil _ _ _, fun b h => by simp [Value.ownBlock] at h, hb⟩
/-- the two results' cells. -/
def p0 (w : World) : World := (w.alloc (.cells #[.slice none 0 0] 27)).alloc (.cells #[.int .i64 0] 44)
theorem p0_size (w : World) : (p0 w).heap.size = w.heap.size + 2 := by unfold p0; simp
theorem p0_below (w : World) : Below w.heap.size w (p0 w) := below_alloc (below_alloc (Below.refl _ _) _) _
theorem p0_a (w : World) : (p0 w).heap[w.heap.size]? = some (.cells #[.slice none 0 0] 27 (0, 0)) := by
  unfold p0
  rw [heap_alloc_old _ _ (by simp)]
  exact heap_alloc_new w _
theorem p0_b (w : World) : (p0 w).heap[w.heap.size + 1]? = some (.cells #[.int .i64 0] 44 (0, 0)) := by
  unfold p0
  have h := heap_alloc_new (w.alloc (.cells #[.slice none 0 0] 27)) (.cells #[.int .i64 0] 44)
  rwa [alloc_size] at h
set_option maxRecDepth 100000 in
set_option maxHeartbeats 4000000 in
theorem pack_none (s : ByteArray) (hs : s.size ≤ 140737488351232) (dv : Value) (w : World) (hw : whole s.data.toList = none) : Calls Try.prog 44 #[.string s, dv] w (fun e w' => Wr.Told w w' e ([], 24)) := by
  have HREC := Lib.hid ((read_calls s hs (p0 w)).mono (R' := fun e w' => e = bad ∧ Below (p0 w).heap.size (p0 w) w') (fun e w' h => by rcases h.2 with h2 | ⟨us, v, h2, _⟩; exact ⟨h2.2, h.1⟩; rw [hw] at h2; cases h2))
  have hmf : ∀ (fn : Fn) (first cap : Array Value) (w : World), (Instr.makeFunc fn first cap).run Try.prog w = .ok (.func fn first cap) w := fun _ _ _ _ => rfl
  clear hw
  go_enter_defers Try.func44, Try.ntmps44
  go_wp2_with fail
  refine HREC.out.mono ?_
  rintro e w2 ⟨rfl, hb2⟩
  have HB2 := Lib.hid hb2
  clear hb2
  unfold bad
  go_wp2_with fail
  have ha := (HB2.out.block w.heap.size (by rw [p0_size]; omega)).trans (p0_a w)
  have hb := (HB2.out.block (w.heap.size + 1) (by rw [p0_size]; omega)).trans (p0_b w)
  have x0 : w2.cell? ⟨w.heap.size, 0, none⟩ = some (.slice none 0 0) := cell_of ha rfl
  have x1 : w2.cell? ⟨w.heap.size + 1, 0, none⟩ = some (.int .i64 0) := cell_of hb rfl
  refine leaves_cons (f := 90) (args := #[.pointer (some ⟨w.heap.size, 0, none⟩), .pointer (some ⟨w.heap.size + 1, 0, none⟩)]) (by simp) (by simp [go_sem]) ?_
  refine (pcatch_panicking w.heap.size (w.heap.size + 1) (.slice none 0 0) (.int .i64 0) 24 [] w2 x0 (frozen_of ha 0) x1 (frozen_of hb 0) (by omega)).mono ?_
  rintro e u' w'' ⟨rfl, rfl, rfl⟩
  simp [Leaves, settle, results, Try.results44, go_sem, x0, x1]
  exact told_nil w _ 24 (((((p0_below w).trans (HB2.out.mono (by rw [p0_size]; omega))).setCell (Nat.le_refl _) _).setCell (Nat.le_succ _) _).drew)
set_option maxRecDepth 100000 in
set_option maxHeartbeats 4000000 in
theorem pack_count (s : ByteArray) (hs : s.size ≤ 140737488351232) (A : Option Addr) (c : Nat) (xs : List Int) (w : World) (hr : Kd.C (Kd.int .i64) w A xs.length xs) (hc : xs.length ≤ c) (hl : xs.length ≤ 140737488351232) (hf : Fit xs) (us : List U) (hw : whole s.data.toList = some us) (hne : ¬ (countL us).2 = xs.length) :
    Calls Try.prog 44 #[.string s, .slice A xs.length c] w (fun e w' => Wr.Told w w' e ([], 25)) := by
  have hgood := whole_good hw
  have HGOOD := Lib.hid hgood
  have HW := Lib.hid hw
  have HREC := Lib.hid ((read_calls s hs (p0 w)).mono (R' := fun e w' => ∃ a c, e = .returned (.tuple #[.slice a us.length c, .int .i64 ((countL us).2 : Nat)]) ∧ Units w' (fun b => (p0 w).heap.size ≤ b) (.slice a us.length c) us ∧ Below (p0 w).heap.size (p0 w) w') (fun e w' h => by rcases h.2 with h2 | ⟨us1, v, h2, h3, h4⟩; (rw [hw] at h2; cases h2.1); (rw [hw] at h2; simp only [Option.some.injEq] at h2; subst h2; obtain ⟨a, c, e1, h5⟩ := h4; subst e1; exact ⟨a, c, h3, ⟨a, c, rfl, h5⟩, h.1⟩)))
  have hmf : ∀ (fn : Fn) (first cap : Array Value) (w : World), (Instr.makeFunc fn first cap).run Try.prog w = .ok (.func fn first cap) w := fun _ _ _ _ => rfl
  have hn1 : (countL us).2 ≤ 256 := Nat.le_trans (letters_leL us) hgood.2.2.2.1
  have t1 : (((countL us).2 : Int) != (xs.length : Int)) = true := by simp only [bne_iff_ne, ne_eq]; omega
  clear hw hgood hr hne
  go_enter_defers Try.func44, Try.ntmps44
  go_wp2_with fail
  refine HREC.out.mono ?_
  rintro e w2 ⟨ua, uc, rfl, hU, hb2⟩
  have HB2 := Lib.hid hb2
  have HBW := Lib.hid ((p0_below w).trans (hb2.mono (by rw [p0_size]; omega)))
  clear hb2 hU
  go_wp2_with fail
  have hsz := HB2.out.size
  have hz := p0_size w
  have ha := (HB2.out.block w.heap.size (by omega)).trans (p0_a w)
  have hb := (HB2.out.block (w.heap.size + 1) (by omega)).trans (p0_b w)
  have x0 : w2.cell? ⟨w.heap.size, 0, none⟩ = some (.slice none 0 0) := cell_of ha rfl
  have x1 : w2.cell? ⟨w.heap.size + 1, 0, none⟩ = some (.int .i64 0) := cell_of hb rfl
  refine leaves_cons (f := 90) (args := #[.pointer (some ⟨w.heap.size, 0, none⟩), .pointer (some ⟨w.heap.size + 1, 0, none⟩)]) (by simp) (by simp [go_sem]) ?_
  refine (pcatch_panicking w.heap.size (w.heap.size + 1) (.slice none 0 0) (.int .i64 0) 25 [] w2 x0 (frozen_of ha 0) x1 (frozen_of hb 0) (by omega)).mono ?_
  rintro e u' w'' ⟨rfl, rfl, rfl⟩
  simp [Leaves, settle, results, Try.results44, go_sem, x0, x1]
  exact told_nil w _ 25 (((HBW.out.setCell (Nat.le_refl _) _).setCell (Nat.le_succ _) _).drew)
set_option maxRecDepth 100000 in
set_option maxHeartbeats 4000000 in
theorem pack_some (s : ByteArray) (hs : s.size ≤ 140737488351232) (A : Option Addr) (c : Nat) (xs : List Int) (w : World) (hr : Kd.C (Kd.int .i64) w A xs.length xs) (hc : xs.length ≤ c) (hl : xs.length ≤ 140737488351232) (hf : Fit xs) (us : List U) (hw : whole s.data.toList = some us) (heq : (countL us).2 = xs.length) :
    Calls Try.prog 44 #[.string s, .slice A xs.length c] w (fun e w' => Wr.Told w w' e (packS s.data.toList xs)) := by
  have hgood := whole_good hw
  have HGOOD := Lib.hid hgood
  have HW := Lib.hid hw
  have HREC := Lib.hid ((read_calls s hs (p0 w)).mono (R' := fun e w' => ∃ a c, e = .returned (.tuple #[.slice a us.length c, .int .i64 ((countL us).2 : Nat)]) ∧ Units w' (fun b => (p0 w).heap.size ≤ b) (.slice a us.length c) us ∧ Below (p0 w).heap.size (p0 w) w') (fun e w' h => by rcases h.2 with h2 | ⟨us1, v, h2, h3, h4⟩; (rw [hw] at h2; cases h2.1); (rw [hw] at h2; simp only [Option.some.injEq] at h2; subst h2; obtain ⟨a, c, e1, h5⟩ := h4; subst e1; exact ⟨a, c, h3, ⟨a, c, rfl, h5⟩, h.1⟩)))
  have hmf : ∀ (fn : Fn) (first cap : Array Value) (w : World), (Instr.makeFunc fn first cap).run Try.prog w = .ok (.func fn first cap) w := fun _ _ _ _ => rfl
  have hn1 : (countL us).2 ≤ 256 := Nat.le_trans (letters_leL us) hgood.2.2.2.1
  rw [heq] at HREC hn1
  have t1 : ((xs.length : Int) != (xs.length : Int)) = false := by simp
  have HEQ := Lib.hid heq
  have HV := Lib.hid (fun (W : World) (G : Blks) (hb : Below w.heap.size w W) (hG : ∀ b, b < w.heap.size → G b) => (show Vals W G (.slice A xs.length c) xs from ⟨A, c, rfl, hc, Kd.C_below hr hb, fun h0 a ea => by
    obtain ⟨_, _, h3⟩ := Kd.reads_of_C (enc := Value.int .i64) (d := (0 : Int)) (h1 := fun _ => rfl) hr
    obtain ⟨ad, e1, hcell⟩ := h3 h0
    rw [ea] at e1
    injection e1 with e1
    subst e1
    have := World.block_lt_of_cell? w _ (hcell 0 h0)
    rw [add_block] at this
    exact hG _ this⟩))
  have HFIT := Lib.hid hf
  have HLT := Lib.hid (show ltrs (flatL us) ≤ xs.length by have h := count_flatL us hgood.2.1; rw [← heq, h]; exact Nat.le_refl _)
  clear hw hgood hr heq hf
  cases hrun : run pstep (flatL us) (WS.new 1048576, xs) with
  | error z =>
    have HRES := Lib.hid (show packS s.data.toList xs = ([], z) by unfold packS; rw [HW.out]; simp only [HEQ.out, if_true, hrun])
    have HRUN := Lib.hid hrun
    clear hrun
    go_enter_defers Try.func44, Try.ntmps44
    go_wp2_with fail
    refine HREC.out.mono ?_
    rintro e w2 ⟨ua, uc, rfl, hU, hb2⟩
    have HB2 := Lib.hid hb2
    have HU := Lib.hid hU
    have HBW := Lib.hid ((p0_below w).trans (hb2.mono (by rw [p0_size]; omega)))
    clear hb2 hU
    go_wp2_with fail
    refine (neww_calls w2 1048576).mono ?_
    rintro e w3 ⟨rfl, ha, hb3⟩
    have HB3 := Lib.hid hb3
    have HPK := Lib.hid ((pack_calls 6 us (.slice ua us.length uc) (.slice A xs.length c) (WS.new 1048576, xs) w2.heap.size (fun b => w2.heap.size ≤ b) (fun b => b < w2.heap.size) w3 (by have := HGOOD.out.2.2.1; omega) HGOOD.out.1 HGOOD.out.2.1 ((HU.out.bound).keep (fun b hb hl => hb3.block b hb.2) (fun b hb => hb.2)) (fun b hb => ⟨Nat.lt_of_lt_of_le hb hb3.size, fun h => by omega⟩) ha (HV.out w3 _ (HBW.out.trans (hb3.mono HBW.out.size)) (fun b hb => Nat.lt_of_lt_of_le hb HBW.out.size)) HFIT.out HLT.out (by have := flat_lenL us; have := HGOOD.out.2.2.2.1; omega)).mono (R' := fun e w' => e = died z ∧ Only w3 w' (fun b => w2.heap.size ≤ b)) (fun e w' h => by rcases h with ⟨z1, h1, h2, h3⟩ | ⟨y, v, h1, _⟩; (rw [HRUN.out] at h1; cases h1; exact ⟨h2, h3⟩); (rw [HRUN.out] at h1; cases h1)))
    clear hb3 ha
    go_wp2_with fail
    refine HPK.out.mono ?_
    rintro e w4 ⟨rfl, ho⟩
    have HB4 := Lib.hid (ho.below (B := w2.heap.size) HB3.out (fun b hb => hb) HB3.out.size)
    clear ho
    unfold died
    go_wp2_with fail
    have hsz := HB2.out.size
    have hz := p0_size w
    have ha := (HB4.out.block w.heap.size (by omega)).trans ((HB2.out.block w.heap.size (by omega)).trans (p0_a w))
    have hb := (HB4.out.block (w.heap.size + 1) (by omega)).trans ((HB2.out.block (w.heap.size + 1) (by omega)).trans (p0_b w))
    have x0 : w4.cell? ⟨w.heap.size, 0, none⟩ = some (.slice none 0 0) := cell_of ha rfl
    have x1 : w4.cell? ⟨w.heap.size + 1, 0, none⟩ = some (.int .i64 0) := cell_of hb rfl
    refine leaves_cons (f := 90) (args := #[.pointer (some ⟨w.heap.size, 0, none⟩), .pointer (some ⟨w.heap.size + 1, 0, none⟩)]) (by simp) (by simp [go_sem]) ?_
    refine (pcatch_panicking w.heap.size (w.heap.size + 1) (.slice none 0 0) (.int .i64 0) z [] w4 x0 (frozen_of ha 0) x1 (frozen_of hb 0) (by omega)).mono ?_
    rintro e u' w'' ⟨rfl, rfl, rfl⟩
    simp [Leaves, settle, results, Try.results44, go_sem, x0, x1]
    rw [HRES.out]
    exact told_nil w _ z ((((HBW.out.trans (HB4.out.mono HBW.out.size)).setCell (Nat.le_refl _) _).setCell (Nat.le_succ _) _).drew)
  | ok y =>
    have HRES := Lib.hid (show packS s.data.toList xs = y.1.told by unfold packS; rw [HW.out]; simp only [HEQ.out, if_true, hrun])
    have HRUN := Lib.hid hrun
    clear hrun
    go_enter_defers Try.func44, Try.ntmps44
    go_wp2_with fail
    refine HREC.out.mono ?_
    rintro e w2 ⟨ua, uc, rfl, hU, hb2⟩
    have HB2 := Lib.hid hb2
    have HU := Lib.hid hU
    have HBW := Lib.hid ((p0_below w).trans (hb2.mono (by rw [p0_size]; omega)))
    clear hb2 hU
    go_wp2_with fail
    refine (neww_calls w2 1048576).mono ?_
    rintro e w3 ⟨rfl, ha, hb3⟩
    have HB3 := Lib.hid hb3
    have HPK := Lib.hid ((pack_calls 6 us (.slice ua us.length uc) (.slice A xs.length c) (WS.new 1048576, xs) w2.heap.size (fun b => w2.heap.size ≤ b) (fun b => b < w2.heap.size) w3 (by have := HGOOD.out.2.2.1; omega) HGOOD.out.1 HGOOD.out.2.1 ((HU.out.bound).keep (fun b hb hl => hb3.block b hb.2) (fun b hb => hb.2)) (fun b hb => ⟨Nat.lt_of_lt_of_le hb hb3.size, fun h => by omega⟩) ha (HV.out w3 _ (HBW.out.trans (hb3.mono HBW.out.size)) (fun b hb => Nat.lt_of_lt_of_le hb HBW.out.size)) HFIT.out HLT.out (by have := flat_lenL us; have := HGOOD.out.2.2.2.1; omega)).mono (R' := fun e w' => ∃ v, e = .returned v ∧ Turn w3 w' (fun b => w2.heap.size ≤ b) (st objW w2.heap.size y.1)) (fun e w' h => by rcases h with ⟨z1, h1, _⟩ | ⟨y1, v, h1, h2, h3, _⟩; (rw [HRUN.out] at h1; cases h1); (rw [HRUN.out] at h1; simp only [Except.ok.injEq] at h1; subst h1; exact ⟨v, h2, h3⟩)))
    clear hb3 ha
    go_wp2_with fail
    refine HPK.out.mono ?_
    rintro e w4 ⟨v4, rfl, ht4⟩
    have HB4 := Lib.hid (ht4.1.below (B := w2.heap.size) HB3.out (fun b hb => hb) HB3.out.size)
    have HOUT := Lib.hid (out_calls w2.heap.size y.1 ht4.2)
    clear ht4
    go_wp2_with fail
    refine HOUT.out.mono ?_
    rintro e w5 ⟨v5, rfl, hn5⟩
    have HN5 := Lib.hid hn5
    obtain ⟨A5, c5, e5, _⟩ := hn5.1.reads
    subst e5
    have HB5 := Lib.hid hn5.2.2
    have hsz := HB2.out.size
    have hz := p0_size w
    have hs4 := HB4.out.size
    have ha := (HB5.out.block w.heap.size (by omega)).trans ((HB4.out.block w.heap.size (by omega)).trans ((HB2.out.block w.heap.size (by omega)).trans (p0_a w)))
    have hb := (HB5.out.block (w.heap.size + 1) (by omega)).trans ((HB4.out.block (w.heap.size + 1) (by omega)).trans ((HB2.out.block (w.heap.size + 1) (by omega)).trans (p0_b w)))
    have x0 : w5.cell? ⟨w.heap.size, 0, none⟩ = some (.slice none 0 0) := cell_of ha rfl
    have x1 : w5.cell? ⟨w.heap.size + 1, 0, none⟩ = some (.int .i64 0) := cell_of hb rfl
    have f0 := frozen_of ha 0
    have f1 := frozen_of hb 0
    clear ha hb hsz hz hs4 hn5
    go_wp2_with fail
    refine leaves_cons (f := 90) (args := #[.pointer (some ⟨w.heap.size, 0, none⟩), .pointer (some ⟨w.heap.size + 1, 0, none⟩)]) (by simp) (by simp [go_sem]) ?_
    refine (pcatch_idle w.heap.size (w.heap.size + 1) _).mono ?_
    rintro e u' w'' ⟨rfl, rfl, rfl⟩
    simp [Leaves, settle, results, Try.results44, go_sem, x0, x1]
    rw [HRES.out]
    have hz3 := HB3.out.size
    have hz4 := HB4.out.size
    have hz2 := HB2.out.size
    have hzp := p0_size w
    have hlow : ∀ b, (Value.slice A5 (bl y.1.told.1).length c5).ownBlock = some b → w.heap.size + 2 ≤ b := fun b hb => by have := HN5.out.2.1 b hb; omega
    refine ⟨_, rfl, HN5.out.1.step (fun b hb _ => ?_), fun b hb => by have := hlow b hb; omega, ?_⟩
    · have := hlow b hb
      rw [Below.heap_setCell _ _ _ b (by show b ≠ w.heap.size + 1; omega), Below.heap_setCell _ _ _ b (by show b ≠ w.heap.size; omega)]
    · exact ((HBW.out.trans ((HB4.out.mono HBW.out.size).trans (HB5.out.mono (by have := HBW.out.size; omega)))).setCell (Nat.le_refl _) _).setCell (Nat.le_succ _) _
/-- every Pack. -/
theorem packP_calls (s : ByteArray) (hs : s.size ≤ 140737488351232) (A : Option Addr) (c : Nat) (xs : List Int) (w : World) (hr : Kd.C (Kd.int .i64) w A xs.length xs) (hc : xs.length ≤ c) (hl : xs.length ≤ 140737488351232) (hf : Fit xs) :
    Calls Try.prog 44 #[.string s, .slice A xs.length c] w (fun e w' => Wr.Told w w' e (packS s.data.toList xs)) := by
  cases hw : whole s.data.toList with
  | none =>
    have e : packS s.data.toList xs = ([], 24) := by unfold packS; rw [hw]
    rw [e]
    exact pack_none s hs _ w hw
  | some us =>
    by_cases hne : (countL us).2 = xs.length
    · exact pack_some s hs A c xs w hr hc hl hf us hw hne
    · have e : packS s.data.toList xs = ([], 25) := by unfold packS; rw [hw]; simp only [hne, if_false]
      rw [e]
      exact pack_count s hs A c xs w hr hc hl hf us hw hne
end Go.Proofs.Ytdmliaodacaefaa.Shape
