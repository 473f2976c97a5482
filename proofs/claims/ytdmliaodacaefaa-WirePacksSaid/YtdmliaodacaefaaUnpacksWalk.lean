/- WireUnpacks walked. -/
import Derived.Test.YtdmliaodacaefaaRefs
import Derived.Test.YtdmliaodacaefaaOps
import Derived.Test.YtdmliaodacaefaaPck
import Derived.SizedLaws
import Derived.ProofKit
import Derived.ChangeOld
namespace Go.Proofs.Ytdmliaodacaefaa.Shape
open Go.RowKit Go.Proofs.YtdmliaodacaefaaW.PrintWords Go.Proofs.YtdmliaodacaefaaW.PrintLast Go.Proofs.YtdmliaodacaefaaW.PrintMore Go.Proofs.Ytdmliaodacaefaa.PWire Go.Proofs.Ytdmliaodacaefaa.Mem Go.Proofs.Ytdmliaodacaefaa.Sep Go.Proofs.Ytdmliaodacaefaa.Bridge Go.Proofs.Ytdmliaodacaefaa.Wr Go.Proofs.Ytdmliaodacaefaa.Ops
set_option linter.unusedVariables false
set_option linter.unusedSimpArgs false
theorem ints_tail (l : List Int) (hl : l.length ≤ maxLen) (n : Nat) : ∀ i, i + n = l.length → Ev (fun k => amberlaw02_sameInts.l0 k l l (i : Int)) true := by
  have hl' : l.length ≤ 9223372036854775807 := hl
  induction n with
  | zero =>
    intro i hi
    exact Ev.step (f := fun _ => some _) (fun k => by simp only [amberlaw02_sameInts.l0]; rw [if_neg (by omega)]) (Ev.now _)
  | succ n ih =>
    intro i hi
    refine Ev.step (fun k => ?_) (ih (i + 1) (by omega))
    simp only [amberlaw02_sameInts.l0]
    rw [if_pos (by omega), if_pos (by omega), if_pos (by omega), if_pos True.intro, wrapS i (by omega)]
theorem ints_ev (l : List Int) (hl : l.length ≤ maxLen) : Ev (fun k => amberlaw02_sameInts.f k l l) true := by
  unfold amberlaw02_sameInts.f
  simp only [if_true]
  exact ints_tail l hl l.length 0 (by omega)
theorem ints_calls {w : World} {A A' : Option Addr} {c c' : Nat} {l : List Int} (hr : Kd.C (Kd.int .i64) w A l.length l) (hc : l.length ≤ c) (hr' : Kd.C (Kd.int .i64) w A' l.length l) (hc' : l.length ≤ c') :
    Calls Try.prog 43 #[.slice A l.length c, .slice A' l.length c'] w fun e w' => e = .returned (.bool true) ∧ Drawn0 w w' := by
  obtain ⟨k, hk⟩ := Ev.rounds (ints_ev l (Kd.C_max hr))
  exact amberlaw02_sameInts.calls k A c l A' c' l true w hr hc hr' hc' hk
theorem unpackR_calls (s : ByteArray) (A : Option Addr) (c : Nat) (l : List UInt8) (w : World) (hr : Kd.C (Kd.int .u8) w A (bl l).length (bl l)) (hc : (bl l).length ≤ c) (hl : l.length ≤ 140737488351232) :
    Calls Try.prog 42 #[.string s, .slice A (bl l).length c] w (Gave w (unpackS s.data.toList l)) := by
  obtain ⟨k, hk⟩ := Ev.rounds (unpack_ev s l hl)
  refine (amberref02_Unpack.calls k s A c (bl l) _ _ w hr hc hk).mono ?_
  rintro e w' ⟨v, he, hR, hb⟩
  exact ⟨v, he, ⟨Rw.of hR, fun b hb2 => (Kd.R_bound hR).1 b hb2 |>.2.1⟩, hb⟩
theorem packR_calls (s : ByteArray) (A : Option Addr) (c : Nat) (xs : List Int) (w : World) (hr : Kd.C (Kd.int .i64) w A xs.length xs) (hc : xs.length ≤ c) :
    Calls Try.prog 45 #[.string s, .slice A xs.length c] w (fun e w' => Wr.Told w w' e (packS s.data.toList xs)) := by
  obtain ⟨k, hk⟩ := Ev.rounds (pack_ev s xs)
  refine (amberref02_Pack.calls k s A c xs _ _ w hr hc hk).mono ?_
  rintro e w' ⟨v, he, hR, hb⟩
  exact ⟨v, he, Rw.of hR, fun b hb2 => (Kd.R_bound hR).1 b hb2 |>.2.1, hb⟩
theorem unpack_empty (t l : List UInt8) (h : ¬ (unpackS t l).2 = 0) : (unpackS t l).1 = [] := by
  unfold unpackS at h ⊢
  cases hw : whole t with
  | none => rfl
  | some us =>
    rw [hw] at h
    simp only at h ⊢
    cases hr : run ustep (flatL us) ((Rd.RS.new l, []), []) with
    | error z => rfl
    | ok y =>
      rw [hr] at h
      simp only at h ⊢
      split
      · rename_i he; rw [if_pos he] at h; exact absurd rfl h
      · rfl
theorem pack_empty (t : List UInt8) (vs : List Int) (h : ¬ (packS t vs).2 = 0) : (packS t vs).1 = [] := by
  unfold packS at h ⊢
  cases hw : whole t with
  | none => rfl
  | some us =>
    rw [hw] at h
    simp only at h ⊢
    split
    · rename_i hc
      rw [if_pos hc] at h
      cases hr : run pstep (flatL us) (WS.new 1048576, vs) with
      | error z => rfl
      | ok y =>
        rw [hr] at h
        simp only at h ⊢
        unfold WS.told at h ⊢
        split
        · rename_i he
          rw [if_pos he] at h
          split
          · rename_i ho; rw [if_pos ho] at h; exact absurd rfl h
          · rfl
        · rfl
    · rfl
set_option maxRecDepth 100000 in
set_option maxHeartbeats 4000000 in
theorem unpacks_walk (s : ByteArray) (hs : s.size ≤ 140737488351232) (A : Option Addr) (c : Nat) (l : List UInt8) (w : World) (hsl : Sl.ok w ⟨A, c, l⟩) :
    Calls Try.prog 8 #[.string s, .slice A (bl l).length c] w fun e w' => e = .returned (.bool true) ∧ Below w.heap.size w w' := by
  have HR := Lib.hid hsl.read
  have hc : (bl l).length ≤ c := hsl.cap
  have HL := Lib.hid hsl.len
  have HD := Lib.hid (dup_calls A c l w hsl.read hsl.cap hsl.len)
  clear hsl
  obtain ⟨z, hz⟩ : ∃ z, z = (unpackS s.data.toList l).2 := ⟨_, rfl⟩
  obtain ⟨xs, hx⟩ : ∃ xs, xs = (unpackS s.data.toList l).1 := ⟨_, rfl⟩
  have hem := unpack_empty s.data.toList l
  have HU := Lib.hid (show unpackS s.data.toList l = (xs, z) by rw [hz, hx])
  rw [← hz, ← hx] at hem
  have HEM := Lib.hid hem
  clear hz hx hem
  by_cases hz0 : z = 0
  all_goals
    have tz : (z == z) = true := by simp
    have HZ0 := Lib.hid hz0
    first
      | (have tz0 : (z == 0) = true := by simp [hz0])
      | ((have tz0 : (z == 0) = false := (by simp [hz0])); (have tl : ((xs.length : Int) == 0) = true := (by rw [HEM.out hz0]; rfl)))
    clear hz0
    go_enter Try.func8, Try.ntmps8
    go_wp2_with fail
    refine HD.out.mono ?_
    rintro e w1 ⟨v1, rfl, hn1⟩
    obtain ⟨A1, c1, e1, hc1, hr1⟩ := hn1.1.reads
    subst e1
    have HN1 := Lib.hid hn1
    have HP := Lib.hid (unpackP_calls s hs A1 c1 l w1 hr1 hc1 HL.out)
    have hb1 : (bl l).length ≤ c1 := hc1
    clear hn1 hr1 hc1
    go_wp2_with fail
    refine HP.out.mono ?_
    rw [HU.out]
    rintro e w2 ⟨v2, rfl, hn2, hb2⟩
    obtain ⟨A2, c2, e2, hc2, hr2⟩ := hn2.1.reads
    subst e2
    have HN2 := Lib.hid hn2
    have HB2 := Lib.hid hb2
    have HBB := Lib.hid (HN1.out.2.2.trans (hb2.mono HN1.out.2.2.size))
    have HQ := Lib.hid (unpackR_calls s A c l w2 (Kd.C_below HR.out HBB.out) hc HL.out)
    clear hn2 hb2 hr2
    go_wp2_with fail
    refine HQ.out.mono ?_
    rw [HU.out]
    rintro e w3 ⟨v3, rfl, hn3, hb3⟩
    obtain ⟨A3, c3, e3, hc3, hr3⟩ := hn3.1.reads
    subst e3
    have HB3 := Lib.hid hb3
    have hx2 : Rw w3 3 .i64 (.slice A2 xs.length c2) xs := HN2.out.1.step (fun b hb hl => hb3.block b hl)
    obtain ⟨A2', c2', e2, _, hr2⟩ := hx2.reads
    injection e2 with e2 _ e3
    subst e2 e3
    have hd1 : Rw w3 5 .u8 (.slice A1 (bl l).length c1) (bl l) := HN1.out.1.step (fun b hb hl => (hb3.block b (Nat.lt_of_lt_of_le hl HB2.out.size)).trans (HB2.out.block b hl))
    obtain ⟨A1', c1', e1, _, hr1⟩ := hd1.reads
    injection e1 with e1 _ e3
    subst e1 e3
    have HI := Lib.hid (ints_calls hr2 hc2 hr3 hc3)
    have HS := Lib.hid (fun nq => same_calls A1 c1 (w3.drewN nq) A c (bl l) (bl l) (Kd.C_drewN hr1 nq) hb1 (Kd.C_drewN (Kd.C_below HR.out (HBB.out.trans (hb3.mono HBB.out.size))) nq) hc rfl)
    clear hr1 hr2 hr3 hx2 hd1 hb3 hn3
    go_wp2_with fail
    refine HI.out.mono ?_
    rintro e w4 ⟨rfl, ⟨k4, rfl⟩⟩
    go_wp2_with fail
    refine (HS.out k4).mono ?_
    rintro e w5 ⟨rfl, ⟨k5, rfl⟩⟩
    go_wp2_with fail
    go_ret
    exact ⟨rfl, pw_below_drewN (HBB.out.trans (HB3.out.mono HBB.out.size)) _⟩
end Go.Proofs.Ytdmliaodacaefaa.Shape
/- A []int that came in. -/
namespace Go.Proofs.Ytdmliaodacaefaa.Ops
open Go.ChangeShapes Go.WideShapes Go.RowKit Go.Proofs.YtdmliaodacaefaaW.PrintWords Go.Proofs.Ytdmliaodacaefaa.Bridge
open Go.RowKit Go.Proofs.YtdmliaodacaefaaW.PrintWords Go.Proofs.YtdmliaodacaefaaW.PrintLast Go.Proofs.YtdmliaodacaefaaW.PrintMore Go.Proofs.Ytdmliaodacaefaa.Mem Go.Proofs.Ytdmliaodacaefaa.Sep Go.Proofs.Ytdmliaodacaefaa.Bridge Go.Proofs.Ytdmliaodacaefaa.Shape
set_option linter.unusedVariables false
set_option linter.unusedSimpArgs false
structure Ns where
  A : Option Addr
  c : Nat
  l : List Int
def Ns.val (s : Ns) : Value := .slice s.A s.l.length s.c
structure Ns.ok (W : World) (s : Ns) : Prop where
  read : Kd.C (Kd.int .i64) W s.A s.l.length s.l
  cap : s.l.length ≤ s.c
  len : s.l.length * 8 ≤ 140737488351232
  fit : Fit s.l
theorem bytes3 : Try.prog.bytesOf 3 = 8 := by kernel_rfl
theorem fit_of {l : List Int} (h : ∀ x ∈ l, (Lit.int .i64 x).wf = true) : Fit l := by
  exact fun x hx => rng64 (h x hx)
theorem open_ints58 {H : Type} {enc : TypeId × Value → H} {W : World} {base : Nat} {spare : Nat → Bool} {held : Bool} {v : Value} {d : DataW H} {ps : List MemPlace} {m : Nat}
    (h : DataW.trod enc Try.prog W base spare held m 58 [v] = some (d, ps)) (hw : ∀ n ∈ d.weights Try.prog 58, n ≤ 140737488351232) : ∃ s : Ns, v = s.val ∧ s.ok W := by
  rcases open_ints Try.underlying58 Try.underlying3 (by kernel_rfl) h with ⟨hcs, _⟩ | ⟨x, l, c, zs, hcs, _, hl, hm, hz, hx, hcell, hwz⟩
  · have hv : v = .slice none 0 0 := by simpa using hcs
    subst hv
    exact ⟨⟨none, 0, []⟩, rfl, Kd.C_of_reads (d := (0 : Int)) (h1 := fun _ => rfl) (ReadsInt.nil W .i64), Nat.le_refl _, Nat.zero_le _, fun x hx => by cases hx⟩
  · have hv : v = .slice (some x) l c := by simpa using hcs
    subst hv
    obtain ⟨hx, _⟩ := Prod.mk.inj hx
    subst hx
    have hl2 : l ≤ zs.length := by
      rw [hz]
      split
      · exact hl
      · exact Nat.le_refl _
    have hlen : (zs.take l).length = l := by rw [List.length_take]; omega
    have hrd : ReadsInt W .i64 (some x) (zs.take l).length (zs.take l) := by
      refine ⟨rfl, by rw [hlen]; exact Nat.le_trans hl hm, fun _ => ⟨x, rfl, fun j hj => ?_⟩⟩
      rw [hcell j (by omega)]
      simp [List.getElem?_take, show j < l by omega]
    refine ⟨⟨some x, c, zs.take l⟩, by simp [Ns.val, hlen], Kd.C_of_reads (d := (0 : Int)) (h1 := fun _ => rfl) hrd, by show (zs.take l).length ≤ c; rw [hlen]; exact hl, ?_, fit_of (fun z hz => hwz z (List.mem_of_mem_take hz))⟩
    have h1 := hw (((lits (H := H) .i64 (zs.take l)).length + (lits (H := H) .i64 (zs.drop l)).length) * 8) (by
      unfold DataW.weights
      rw [Try.underlying58]
      refine List.mem_cons.2 (.inl ?_)
      show _ = ((lits (H := H) .i64 (zs.take l)).length + (lits (H := H) .i64 (zs.drop l)).length) * Try.prog.bytesOf 3
      rw [bytes3])
    have h2 : (lits (H := H) .i64 (zs.take l)).length = (zs.take l).length := by simp [lits]
    show (zs.take l).length * 8 ≤ _
    omega
theorem open_ns {H : Type} {enc : TypeId × Value → H} {W : World} {base : Nat} {spare : Nat → Bool} {held : Bool} {a : Option Addr} {len cap : Nat} {d : DataW H} {ps : List MemPlace}
    (h : DataW.Trod enc Try.prog W base spare held 58 (.slice a len cap) d ps) (hw : ∀ n ∈ d.weights Try.prog 58, n ≤ 140737488351232) : ∃ s : Ns, (a = s.A ∧ len = s.l.length ∧ cap = s.c) ∧ s.ok W := by
  obtain ⟨m, hf⟩ := h
  obtain ⟨s, hs, hok⟩ := open_ints58 (v := .slice a len cap) hf hw
  unfold Ns.val at hs
  injection hs with h1 h2 h3
  exact ⟨s, ⟨h1, h2, h3⟩, hok⟩
end Go.Proofs.Ytdmliaodacaefaa.Ops
/- WirePacks walked. -/
namespace Go.Proofs.Ytdmliaodacaefaa.Shape
open Go.RowKit Go.Proofs.YtdmliaodacaefaaW.PrintWords Go.Proofs.YtdmliaodacaefaaW.PrintLast Go.Proofs.YtdmliaodacaefaaW.PrintMore Go.Proofs.Ytdmliaodacaefaa.PWire Go.Proofs.Ytdmliaodacaefaa.Mem Go.Proofs.Ytdmliaodacaefaa.Sep Go.Proofs.Ytdmliaodacaefaa.Bridge Go.Proofs.Ytdmliaodacaefaa.Wr Go.Proofs.Ytdmliaodacaefaa.Ops
set_option linter.unusedVariables false
set_option linter.unusedSimpArgs false
set_option maxRecDepth 100000 in
set_option maxHeartbeats 4000000 in
theorem packs_walk (s : ByteArray) (hs : s.size ≤ 140737488351232) (A : Option Addr) (c : Nat) (l : List Int) (w : World) (hsl : Ns.ok w ⟨A, c, l⟩) :
    Calls Try.prog 9 #[.string s, .slice A l.length c] w fun e w' => e = .returned (.bool true) ∧ Below w.heap.size w w' := by
  have HR := Lib.hid hsl.read
  have hc : l.length ≤ c := hsl.cap
  have HL := Lib.hid hsl.len
  have HF := Lib.hid hsl.fit
  have hll : l.length ≤ 140737488351232 := by have h : l.length * 8 ≤ 140737488351232 := hsl.len; omega
  have HLL := Lib.hid hll
  have HLEN := Lib.hid (show (([] : List Int).length + l.length) * 8 ≤ 140737488355328 by have h : l.length * 8 ≤ 140737488351232 := hsl.len; simp; omega)
  clear hsl hll
  obtain ⟨z, hz⟩ : ∃ z, z = (packS s.data.toList l).2 := ⟨_, rfl⟩
  obtain ⟨xs, hx⟩ : ∃ xs, xs = (packS s.data.toList l).1 := ⟨_, rfl⟩
  have hem := pack_empty s.data.toList l
  have HU := Lib.hid (show packS s.data.toList l = (xs, z) by rw [hz, hx])
  rw [← hz, ← hx] at hem
  have HEM := Lib.hid hem
  clear hz hx hem
  by_cases hz0 : z = 0
  all_goals
    have tz : (z == z) = true := by simp
    have HZ0 := Lib.hid hz0
    first
      | (have tz0 : (z == 0) = true := by simp [hz0])
      | ((have tz0 : (z == 0) = false := (by simp [hz0])); (have tl : (((bl xs).length : Int) == 0) = true := (by rw [HEM.out hz0]; rfl)))
    clear hz0
    go_enter Try.func9, Try.ntmps9
    go_wp2_with (first | ((with_reducible refine gate_builtin (b := .append) (xs := #[.const (.slice none 0 0), .tmp 10]) rfl ?_); refine app_list rfl (.const (.slice none 0 0)) (.tmp 10) 58 3 .i64 8 rfl Try.underlying58 Wr.info3 (by decide) (.slice none 0 0) [] l A l.length c rfl rfl (Rw.nil _ _ _) HR.out HLEN.out ?_; intro v1 w1 ho1 hg1 hat1; (have ho2 : Rw w1 3 .i64 v1 l := ho1); obtain ⟨A1, c1, e1, hc1, hr1⟩ := ho2.reads; subst e1; have HO1 := Lib.hid ho2; have HR1 := Lib.hid hr1; have HG1 := Lib.hid hg1; clear ho1 ho2 hg1 hat1 hr1))
    have HB1 : Hid (Below w.heap.size w w1) := Lib.hid ((grown_only HG1.out).below (Below.refl _ _) (fun b hb => by simp [Value.ownBlock] at hb) (Nat.le_refl _))
    refine (packP_calls s hs A1 c1 l w1 HR1.out hc1 HLL.out HF.out).mono ?_
    rw [HU.out]
    rintro e w2 ⟨v2, rfl, hn2⟩
    obtain ⟨A2, c2, e2, hc2, hr2⟩ := hn2.1.reads
    subst e2
    have HN2 := Lib.hid hn2
    have HBB := Lib.hid (HB1.out.trans (hn2.2.2.mono HB1.out.size))
    have HQ := Lib.hid (packR_calls s A c l w2 (Kd.C_below HR.out HBB.out) hc)
    clear hn2 hr2
    go_wp2_with fail
    refine HQ.out.mono ?_
    rw [HU.out]
    rintro e w3 ⟨v3, rfl, hn3⟩
    obtain ⟨A3, c3, e3, hc3, hr3⟩ := hn3.1.reads
    subst e3
    have HB3 := Lib.hid hn3.2.2
    have hx2 : Rw w3 5 .u8 (.slice A2 (bl xs).length c2) (bl xs) := HN2.out.1.step (fun b hb hl => HB3.out.block b hl)
    obtain ⟨A2', c2', e2, _, hr2⟩ := hx2.reads
    injection e2 with e2 _ e3
    subst e2 e3
    have hd1 : Rw w3 3 .i64 (.slice A1 l.length c1) l := HO1.out.step (fun b hb hl => (HB3.out.block b (Nat.lt_of_lt_of_le hl HN2.out.2.2.size)).trans (HN2.out.2.2.block b hl))
    obtain ⟨A1', c1', e1, _, hr1⟩ := hd1.reads
    injection e1 with e1 _ e3
    subst e1 e3
    have HS := Lib.hid (same_calls A2 c2 w3 A3 c3 (bl xs) (bl xs) hr2 hc2 hr3 hc3 rfl)
    have HI := Lib.hid (fun nq => ints_calls (w := w3.drewN nq) (Kd.C_drewN hr1 nq) hc1 (Kd.C_drewN (Kd.C_below HR.out (HBB.out.trans (HB3.out.mono HBB.out.size))) nq) hc)
    clear hr1 hr2 hr3 hx2 hd1 hn3
    go_wp2_with fail
    refine HS.out.mono ?_
    rintro e w4 ⟨rfl, ⟨k4, rfl⟩⟩
    go_wp2_with fail
    refine (HI.out k4).mono ?_
    rintro e w5 ⟨rfl, ⟨k5, rfl⟩⟩
    go_wp2_with fail
    go_ret
    exact ⟨rfl, pw_below_drewN (HBB.out.trans (HB3.out.mono HBB.out.size)) _⟩
end Go.Proofs.Ytdmliaodacaefaa.Shape
