/- The program's writer, call by call, for every state. By walks. -/
import Derived.Test.YtdmliaodacaefaaWr
import Derived.BigQuiet
import Derived.Deep.QuietTactic
namespace Go.Proofs.Ytdmliaodacaefaa.Wr
open Go.RowKit Go.Proofs.YtdmliaodacaefaaW.PrintWords Go.Proofs.YtdmliaodacaefaaW.PrintLast Go.Proofs.YtdmliaodacaefaaW.PrintMore Go.Proofs.Ytdmliaodacaefaa.Mem Go.Proofs.Ytdmliaodacaefaa.Sep Go.Proofs.Ytdmliaodacaefaa.Bridge
set_option linter.unusedVariables false
set_option linter.unusedSimpArgs false
def WS.fail (s : WS) (e : Int) : WS := { s with err := e }
def WS.with_ (s : WS) (o : List UInt8) : WS := { s with out := o }
/-- bytes written, or the error that there is no room. -/
def WS.put (s : WS) (l : List UInt8) : WS := if s.err = 0 then (if s.out.length + l.length ≤ s.lim then s.with_ (s.out ++ l) else s.fail 2) else s
section
variable {m : ObjOf} {w w' : World} {a i : Nat} {vo vp : Value} {s : WS} {u : Value} {F : Blks}
theorem IsO.put_ (hb : (w.setCell ⟨a, i, none⟩ u).heap[a]? = some (m vo vp s)) (ho : Rw w 5 .u8 vo (bl s.out)) (hp : Rw w 3 .i64 vp (nl s.opn)) (n1 : vo.ownBlock ≠ some a) (n2 : vp.ownBlock ≠ some a) (n3 : ∀ b, vo.ownBlock = some b → vp.ownBlock ≠ some b) (ok : s.Ok) :
    IsO m (w.setCell ⟨a, i, none⟩ u) a vo vp s := by
  have hon : Only w (w.setCell ⟨a, i, none⟩ u) (fun b => b = a) := (Only.refl w (fun b => b = a)).setCell (p := ⟨a, i, none⟩) (.inl rfl) u
  exact ⟨hb, ho.only hon (fun b hb e => n1 (e ▸ hb)), hp.only hon (fun b hb e => n2 (e ▸ hb)), n1, n2, n3, ok⟩
/-- an error is laid. -/
theorem turn_err (h : IsO objW w a vo vp s) (hF : ∀ b, foot a vo vp b → F b) (e : Int) : Turn w (w.setCell ⟨a, 3, none⟩ (.int .i64 e)) F (st objW a (s.fail e)) :=
  ⟨(Only.refl w F).setCell (p := ⟨a, 3, none⟩) (.inl (hF a (.inl rfl))) _, vo, vp, IsO.put_ (heap_set h.blk _) h.out h.opn h.ne1 h.ne2 h.ne3 ⟨h.ok.len, h.ok.lim, h.ok.nest, h.ok.inn⟩, fun b hb => .inl (hF b hb)⟩
/-- bytes were appended and stored back. -/
theorem turn_out {v1 : Value} {w1 : World} {l : List UInt8} (h : IsO objW w a vo vp s) (hF : ∀ b, foot a vo vp b → F b) (ho : Rw w1 5 .u8 v1 (bl (s.out ++ l))) (hg : w.grownBy w1 vo.ownBlock)
    (hat : v1.ownBlock = vo.ownBlock ∨ ∃ b, v1.ownBlock = some b ∧ w.heap.size ≤ b) (hl : s.out.length + l.length ≤ s.lim) : Turn w (w1.setCell ⟨a, 0, none⟩ v1) F (st objW a (s.with_ (s.out ++ l))) := by
  have hon := grown_only hg
  have hblk : w1.heap[a]? = some (objW vo vp s) := (hon.block a (block_lt h.blk) h.ne1).trans h.blk
  have hne : v1.ownBlock ≠ some a := by
    intro e
    rcases hat with h3 | ⟨b, h3, h4⟩
    · exact h.ne1 (h3.symm.trans e)
    · have : b = a := Option.some.inj (h3.symm.trans e)
      have := block_lt h.blk
      omega
  have hp : Rw w1 3 .i64 vp (nl s.opn) := h.opn.only hon (fun b hb hv => h.ne3 b hv hb)
  refine ⟨(hon.mono (fun b hb _ => hF b (.inr (.inl hb)))).setCell (p := ⟨a, 0, none⟩) (.inl (hF a (.inl rfl))) _, v1, vp, IsO.put_ (heap_set hblk _) ho hp hne h.ne2 ?_ ⟨by simp [WS.with_]; omega, h.ok.lim, h.ok.nest, fun x hx => by have := h.ok.inn x hx; simp [WS.with_]; omega⟩, ?_⟩
  · intro b hb hb2
    rcases hat with h3 | ⟨b', h3, h4⟩
    · exact h.ne3 b (h3.symm.trans hb) hb2
    · have : b' = b := Option.some.inj (h3.symm.trans hb)
      have := h.opn.lt b hb2
      omega
  · rintro b (rfl | hb | hb)
    · exact .inl (hF b (.inl rfl))
    · rcases hat with h3 | ⟨b', h3, h4⟩
      · exact .inl (hF b (.inr (.inl (h3.symm.trans hb))))
      · have : b' = b := Option.some.inj (h3.symm.trans hb)
        exact .inr (by omega)
    · exact .inl (hF b (.inr (.inr hb)))
end
theorem wlen {w : World} {e : TypeId} {k : IntKind} {v : Value} {xs : List Int} (h : Rw w e k v xs) : ∃ A c, v = .slice A xs.length c ∧ xs.length ≤ c ∧ Kd.C (Kd.int k) w A xs.length xs := h.reads
def WS.room (s : WS) (n : Nat) : WS := if s.err = 0 ∧ s.lim < s.out.length + n then s.fail 2 else s
def WS.fits (s : WS) (n : Nat) : Bool := decide (s.err = 0 ∧ s.out.length + n ≤ s.lim)
theorem room_calls {w : World} {F : Blks} (a : Nat) (s : WS) (n : Nat) (h : (st objW a s).on w F) (hn : n ≤ 140737488355328) :
    Calls Try.prog 77 #[.pointer (some ⟨a, 0, none⟩), .int .i64 n] w fun e w' => e = .returned (.bool (s.fits n)) ∧ Turn w w' F (st objW a (s.room n)) := by
  have H := Lib.hid h
  obtain ⟨vo, vp, hI, hF⟩ := h
  obtain ⟨A, c, rfl, _, _⟩ := hI.out.reads
  have c0 : w.cell? ⟨a, 0, none⟩ = some (.slice A (bl s.out).length c) := cell_of hI.blk rfl
  have c1 : w.cell? ⟨a, 1, none⟩ = some (.int .i64 s.lim) := cell_of hI.blk rfl
  have c3 : w.cell? ⟨a, 3, none⟩ = some (.int .i64 s.err) := cell_of hI.blk rfl
  have f3 := frozen_of hI.blk 3
  have HI := Lib.hid hI
  have HF := Lib.hid hF
  have hlen : (bl s.out).length ≤ s.lim := by rw [bl_length]; exact hI.ok.len
  have hlim := hI.ok.lim
  clear hI hF
  by_cases he : s.err = 0
  · have t0 : (s.err != 0) = false := by simp [he]
    by_cases hr : s.out.length + n ≤ s.lim
    · have t1 : decide ((s.lim : Int) - ((bl s.out).length : Int) < (n : Int)) = false := by rw [decide_eq_false_iff_not, bl_length]; omega
      have HE := Lib.hid he
      have HR := Lib.hid hr
      clear he hr
      go_enter Try.func77, Try.ntmps77
      go_wp2_with fail
      go_quiet (fail)
      go_wp2_with fail
      go_ret
      have he := HE.out
      have hr := HR.out
      refine ⟨by simp [WS.fits, he, hr], ?_⟩
      have e : s.room n = s := by unfold WS.room; rw [if_neg (by omega)]
      rw [e]
      exact Turn.drewN H.out _
    · have t1 : (s.lim : Int) - ((bl s.out).length : Int) < (n : Int) := by rw [bl_length]; omega
      have HE := Lib.hid he
      have HR := Lib.hid hr
      clear he hr
      go_enter Try.func77, Try.ntmps77
      go_wp2_with fail
      go_quiet (fail)
      go_wp2_with fail
      go_ret
      have he := HE.out
      have hr := HR.out
      refine ⟨by simp [WS.fits, he, hr], ?_⟩
      have e : s.room n = s.fail 2 := by unfold WS.room; rw [if_pos (by omega)]
      rw [e]
      exact (Turn.drewN H.out _).trans (turn_err (HI.out.drewN _) (fun b hb => .inl (HF.out b hb)) 2)
  · have t0 : (s.err != 0) = true := by simpa using he
    have HE := Lib.hid he
    clear he
    go_enter Try.func77, Try.ntmps77
    go_wp2_with fail
    go_ret
    have he := HE.out
    refine ⟨by simp [WS.fits, he], ?_⟩
    have e : s.room n = s := by unfold WS.room; rw [if_neg (by omega)]
    rw [e]
    exact Turn.same H.out

theorem st_cells {w : World} {F : Blks} {a : Nat} {s : WS} (h : (st objW a s).on w F) : a < w.heap.size ∧ F a := by
  obtain ⟨vo, vp, hI, hF⟩ := h
  exact ⟨block_lt hI.blk, hF a (.inl rfl)⟩
theorem u8_of (x : Nat) : (x : Int) % 256 = ((UInt8.ofNat x).toNat : Int) := (byte_of x).symm
theorem put_calls {w : World} {F : Blks} (a : Nat) (s : WS) (v n : Nat) (h : (st objW a s).on w F) (hn : n ≤ 8) (hv : v < 18446744073709551616) :
    Calls Try.prog 99 #[.pointer (some ⟨a, 0, none⟩), .int .u64 v, .int .i64 n] w fun e w' => e = .returned (.tuple #[]) ∧ Turn w w' F (st objW a (s.put (little n v))) := by
  have H := Lib.hid h
  have HN := Lib.hid hn
  have HV := Lib.hid hv
  clear h hn hv
  cases hfit : s.fits n
  · go_enter Try.func99, Try.ntmps99
    go_wp2_with fail
    have hr := room_calls a s n H.out (by have := HN.out; omega)
    rw [hfit] at hr
    refine hr.mono ?_
    clear hr
    rintro e w1 ⟨rfl, ht⟩
    have HT := Lib.hid ht
    have HFIT := Lib.hid hfit
    clear ht hfit
    go_wp2_with fail
    refine bodyPost_ret (results_none rfl _ _ _) rfl ?_
    refine ⟨rfl, ?_⟩
    have hf := HFIT.out
    simp only [WS.fits, decide_eq_false_iff_not] at hf
    have e : s.put (little n v) = s.room n := by
      unfold WS.put WS.room
      rw [little_length]
      by_cases he : s.err = 0
      · rw [if_pos he, if_neg (by omega), if_pos (by omega)]
      · rw [if_neg he, if_neg (by omega)]
    rw [e]
    exact HT.out
  · have hfit' := hfit
    simp only [WS.fits, decide_eq_true_eq] at hfit'
    obtain ⟨he, hroom⟩ := hfit'
    have e1 : s.room n = s := by unfold WS.room; rw [if_neg (by omega)]
    have e2 : s.put (little n v) = s.with_ (s.out ++ little n v) := by unfold WS.put; rw [little_length, if_pos he, if_pos hroom]
    have E2 := Lib.hid e2
    have HROOM := Lib.hid hroom
    have hr := room_calls a s n H.out (by have := HN.out; omega)
    rw [hfit, e1] at hr
    clear e1 e2 he hroom hfit
    go_enter Try.func99, Try.ntmps99
    go_wp2_with fail
    refine hr.mono ?_
    clear hr
    rintro e w1 ⟨rfl, ht⟩
    have HT := Lib.hid ht
    clear ht
    go_wp2_with fail
    go_loopw [1, 11] (fun v1 v11 wr => ∃ (i x : Nat) (o : List UInt8), v1 = .int .u64 x ∧ v11 = .int .i64 i ∧ i ≤ n ∧ x < 18446744073709551616 ∧ o ++ little (n - i) x = s.out ++ little n v ∧ o.length = s.out.length + i ∧ Turn w wr F (st objW a (s.with_ o))) (fun _ v _ => n - (intOf v).toNat)
    case atStart => exact ⟨0, v, s.out, rfl, rfl, Nat.zero_le _, HV.out, rfl, rfl, HT.out⟩
    case round =>
      obtain ⟨i, x, o, rfl, rfl, hi, hx, ho, hol, ht⟩ := hrel
      have HT := Lib.hid ht
      have HO := Lib.hid ho
      have HOL := Lib.hid hol
      have HX := Lib.hid hx
      clear ht ho hol
      have hn8 : n ≤ 8 := HN.out
      by_cases hlt : i < n
      · obtain ⟨vo, vp, hI, hF⟩ := HT.out.2
        obtain ⟨A, c, rfl, _, _⟩ := hI.out.reads
        have c0 : wr.cell? ⟨a, 0, none⟩ = some (.slice A (bl o).length c) := cell_of hI.blk rfl
        have HI := Lib.hid hI
        have HF := Lib.hid hF
        have hx0 : (0 : Int) ≤ (x : Int) := by omega
        have hx1 : (x : Int) ≤ 18446744073709551615 := by omega
        have hlen : ((bl o).length + 1) * 1 ≤ 140737488355328 := by
          have h1 := HI.out.ok.len
          have h2 := HI.out.ok.lim
          simp only [WS.with_] at h1 h2
          rw [bl_length]
          omega
        have HLEN := Lib.hid hlen
        have HLT := Lib.hid hlt
        clear hI hF hlen
        go_wp2_with (first | ((with_reducible refine gate_builtin (b := .append) (xs := #[.tmp 17, .tmp 20]) rfl ?_); refine push_list rfl (.tmp 17) (.tmp 20) 27 5 .u8 1 rfl Try.underlying27 info5 (by decide) (.slice A (bl o).length c) (bl o) _ rfl rfl HI.out.out HLEN.out ?_; intro v1 w2 ho1 hg1 hat1; obtain ⟨A1, c1, e1, _, _⟩ := ho1.reads; obtain ⟨n1, hn1⟩ : ∃ n1 : Nat, n1 = (bl o ++ [((x : Int)) % 256]).length := ⟨_, rfl⟩; rw [← hn1] at e1; subst e1; clear hn1; (have hblk : w2.heap[a]? = some (objW (.slice A (bl o).length c) vp (s.with_ o)) := (hg1.block a (block_lt HI.out.blk) (fun e => HI.out.ne1 e.symm)).trans HI.out.blk); (have d0 : w2.cell? ⟨a, 0, none⟩ = some (.slice A (bl o).length c) := cell_of hblk rfl); have f0 := frozen_of hblk 0; have HO1 := Lib.hid ho1; have HG1 := Lib.hid hg1; have HAT1 := Lib.hid hat1; clear ho1 hg1 hat1 hblk))
        have hlt := HLT.out
        have hol := HOL.out
        have hroom := HROOM.out
        have hxx := HX.out
        have ho1 : Rw w2 5 .u8 (.slice A1 n1 c1) (bl ((s.with_ o).out ++ [UInt8.ofNat x])) := by
          rw [bl_append]
          have h1 := HO1.out
          rw [u8_of] at h1
          exact h1
        have ht2 := HT.out.trans (turn_out HI.out HF.out ho1 HG1.out HAT1.out (by simp [WS.with_]; omega))
        refine ⟨⟨i + 1, x / 256, o ++ [UInt8.ofNat x], by simp, by simp, by omega, by omega, ?_, by simp; omega, ht2⟩, by simp [intOf]; omega⟩
        have e0 := HO.out
        rw [show n - i = (n - (i + 1)) + 1 by omega] at e0
        rw [List.append_assoc]
        exact e0
      · have hin : i = n := by omega
        have HIN := Lib.hid hin
        clear hin
        go_wp2_with fail
        go_end0
        refine ⟨rfl, ?_⟩
        have e0 := HO.out
        rw [HIN.out, Nat.sub_self] at e0
        simp only [little, List.append_nil] at e0
        rw [E2.out, ← e0]
        exact HT.out

theorem C_turn {w w' : World} {F : Blks} {P : Asr} {A : Option Addr} {n : Nat} {xs : List Int} (h : Kd.C (Kd.int .u8) w A n xs) (ht : Turn w w' F P) (hA : 0 < n → ∀ x, A = some x → ¬ F x.block) : Kd.C (Kd.int .u8) w' A n xs := C_only h ht.1 hA
theorem block_calls {w : World} {F : Blks} (a : Nat) (s : WS) (A : Option Addr) (c : Nat) (l : List UInt8) (h : (st objW a s).on w F) (hr : Kd.C (Kd.int .u8) w A (bl l).length (bl l)) (hc : (bl l).length ≤ c) (hl : l.length ≤ 140737488351232) (hA : 0 < (bl l).length → ∀ x, A = some x → ¬ F x.block) :
    Calls Try.prog 23 #[.pointer (some ⟨a, 0, none⟩), .slice A (bl l).length c] w fun e w' => e = .returned (.tuple #[]) ∧ Turn w w' F (st objW a (s.put l)) := by
  have H := Lib.hid h
  have HR := Lib.hid hr
  have HA := Lib.hid hA
  have HL := Lib.hid hl
  have hrm := room_calls a s (bl l).length h (by rw [bl_length]; omega)
  have hll : (bl l).length = l.length := bl_length l
  clear h hr hA hl
  cases hfit : s.fits (bl l).length
  · rw [hfit] at hrm
    have HRM := Lib.hid hrm
    have HFIT := Lib.hid hfit
    have HLL := Lib.hid hll
    clear hrm hfit hll
    go_enter Try.func23, Try.ntmps23
    go_wp2_with fail
    refine HRM.out.mono ?_
    rintro e w1 ⟨rfl, ht⟩
    have HT := Lib.hid ht
    clear ht
    go_wp2_with fail
    go_end0
    refine ⟨rfl, ?_⟩
    have hf := HFIT.out
    have hll := HLL.out
    simp only [WS.fits, decide_eq_false_iff_not] at hf
    have e : s.put l = s.room (bl l).length := by
      unfold WS.put WS.room
      by_cases he : s.err = 0
      · rw [if_pos he, if_neg (by omega), if_pos (by omega)]
      · rw [if_neg he, if_neg (by omega)]
    rw [e]
    exact HT.out
  · have hfit' := hfit
    simp only [WS.fits, decide_eq_true_eq] at hfit'
    obtain ⟨he, hroom⟩ := hfit'
    have e1 : s.room (bl l).length = s := by unfold WS.room; rw [if_neg (by omega)]
    have E2 := Lib.hid (show s.put l = s.with_ (s.out ++ l) by unfold WS.put; rw [if_pos he, if_pos (by omega)])
    have HROOM := Lib.hid (show s.out.length + l.length ≤ s.lim by omega)
    rw [hfit, e1] at hrm
    have HRM := Lib.hid hrm
    have HLL := Lib.hid hll
    clear e1 he hroom hfit hrm hll
    go_enter Try.func23, Try.ntmps23
    go_wp2_with fail
    refine HRM.out.mono ?_
    rintro e w1 ⟨rfl, ht⟩
    have HT := Lib.hid ht
    have HC := Lib.hid (C_turn HR.out ht HA.out)
    clear ht
    obtain ⟨vo, vp, hI, hF⟩ := HT.out.2
    obtain ⟨A0, c0, rfl, _, _⟩ := hI.out.reads
    have d0 : w1.cell? ⟨a, 0, none⟩ = some (.slice A0 (bl s.out).length c0) := cell_of hI.blk rfl
    have HI := Lib.hid hI
    have HF := Lib.hid hF
    have HLEN := Lib.hid (show ((bl s.out).length + (bl l).length) * 1 ≤ 140737488355328 by
      have h1 := hI.ok.lim
      have h2 := HROOM.out
      rw [bl_length, bl_length]
      omega)
    clear hI hF
    go_wp2_with (first | ((with_reducible refine gate_builtin (b := .append) (xs := #[.tmp 12, .tmp 13]) rfl ?_); refine app_list rfl (.tmp 12) (.tmp 13) 27 5 .u8 1 rfl Try.underlying27 info5 (by decide) (.slice A0 (bl s.out).length c0) (bl s.out) (bl l) A (bl l).length c rfl rfl HI.out.out HC.out HLEN.out ?_; intro v1 w2 ho1 hg1 hat1; obtain ⟨A1, c1, e1, _, _⟩ := ho1.reads; obtain ⟨n1, hn1⟩ : ∃ n1 : Nat, n1 = (bl s.out ++ bl l).length := ⟨_, rfl⟩; rw [← hn1] at e1; subst e1; clear hn1; (have hblk : w2.heap[a]? = some (objW (.slice A0 (bl s.out).length c0) vp s) := (hg1.block a (block_lt HI.out.blk) (fun e => HI.out.ne1 e.symm)).trans HI.out.blk); (have d0 : w2.cell? ⟨a, 0, none⟩ = some (.slice A0 (bl s.out).length c0) := cell_of hblk rfl); have f0 := frozen_of hblk 0; have HO1 := Lib.hid ho1; have HG1 := Lib.hid hg1; have HAT1 := Lib.hid hat1; clear ho1 hg1 hat1 hblk))
    go_end0
    refine ⟨rfl, ?_⟩
    rw [E2.out]
    exact HT.out.trans (turn_out HI.out HF.out (by rw [bl_append]; exact HO1.out) HG1.out HAT1.out HROOM.out)
/-- a number that must fit. -/
def WS.num (s : WS) (v : Int) (most n : Nat) : WS := if s.err = 0 ∧ (v < 0 ∨ (most : Int) < v) then s.fail 1 else s.put (little n (v % 18446744073709551616).toNat)
theorem u64_of (v : Int) : IntKind.u64.wrap v = (((v % 18446744073709551616).toNat : Nat) : Int) := by
  have : IntKind.u64.wrap v = v % 18446744073709551616 := by simp [IntKind.wrap, IntKind.signed, IntKind.bits]
  rw [this]; omega
theorem within_calls {w : World} {F : Blks} (a : Nat) (s : WS) (v : Int) (most n : Nat) (h : (st objW a s).on w F) (hn : n ≤ 8) (hv : -9223372036854775808 ≤ v ∧ v ≤ 9223372036854775807) :
    Calls Try.prog 81 #[.pointer (some ⟨a, 0, none⟩), .int .i64 v, .int .i64 most, .int .i64 n] w fun e w' => e = .returned (.tuple #[]) ∧ Turn w w' F (st objW a (s.num v most n)) := by
  have H := Lib.hid h
  obtain ⟨vo, vp, hI, hF⟩ := h
  have c3 : w.cell? ⟨a, 3, none⟩ = some (.int .i64 s.err) := cell_of hI.blk rfl
  have f3 := frozen_of hI.blk 3
  have HI := Lib.hid hI
  have HF := Lib.hid hF
  have HV := Lib.hid hv
  clear hI hF hv
  by_cases hbad : s.err = 0 ∧ (v < 0 ∨ (most : Int) < v)
  · have E := Lib.hid (show s.num v most n = s.fail 1 by unfold WS.num; rw [if_pos hbad])
    obtain ⟨h0, h1⟩ := hbad
    have t0 : (s.err == 0) = true := by simp [h0]
    have H0 := Lib.hid h0
    clear h0
    by_cases hneg : v < 0
    · go_enter Try.func81, Try.ntmps81
      go_wp2_with fail
      refine bodyPost_ret (results_none rfl _ _ _) rfl ?_
      rw [E.out]
      exact ⟨rfl, turn_err HI.out HF.out 1⟩
    · have hbig : (most : Int) < v := by omega
      clear h1
      go_enter Try.func81, Try.ntmps81
      go_wp2_with fail
      refine bodyPost_ret (results_none rfl _ _ _) rfl ?_
      rw [E.out]
      exact ⟨rfl, turn_err HI.out HF.out 1⟩
  · have E := Lib.hid (show s.num v most n = s.put (little n (v % 18446744073709551616).toNat) by unfold WS.num; rw [if_neg hbad])
    have hp := put_calls a s (v % 18446744073709551616).toNat n H.out hn (by omega)
    rw [← u64_of] at hp
    have hfin : ∀ {e : Ending} {w' : World}, (e = .returned (.tuple #[]) ∧ Turn w w' F (st objW a (s.put (little n (v % 18446744073709551616).toNat)))) → e = .returned (.tuple #[]) ∧ Turn w w' F (st objW a (s.num v most n)) := by
      intro e w' h; rw [E.out]; exact h
    have HP := Lib.hid hp
    clear hp hn
    by_cases h0 : s.err = 0
    · have t0 : (s.err == 0) = true := by simp [h0]
      have t1 : ¬ v < 0 := by omega
      have t2 : ¬ (most : Int) < v := by omega
      clear h0 hbad
      go_enter Try.func81, Try.ntmps81
      go_wp2_with fail
      refine HP.out.mono ?_
      rintro e w1 ⟨rfl, ht⟩
      go_wp2_with fail
      go_end0
      exact hfin ⟨rfl, ht⟩
    · have t0 : (s.err == 0) = false := by simp [h0]
      clear h0 hbad
      go_enter Try.func81, Try.ntmps81
      go_wp2_with fail
      refine HP.out.mono ?_
      rintro e w1 ⟨rfl, ht⟩
      go_wp2_with fail
      go_end0
      exact hfin ⟨rfl, ht⟩
theorem wu8_calls {w : World} {F : Blks} (a : Nat) (s : WS) (v : Int) (h : (st objW a s).on w F) (hv : -9223372036854775808 ≤ v ∧ v ≤ 9223372036854775807) :
    Calls Try.prog 54 #[.pointer (some ⟨a, 0, none⟩), .int .i64 v] w fun e w' => e = .returned (.tuple #[]) ∧ Turn w w' F (st objW a (s.num v 255 1)) := by
  have HP := Lib.hid (within_calls a s v 255 1 h (by omega) hv)
  clear h hv
  go_enter Try.func54, Try.ntmps54
  go_wp2_with fail
  refine HP.out.mono ?_
  rintro e w1 ⟨rfl, ht⟩
  go_wp2_with fail
  go_end0
  exact ⟨rfl, ht⟩
theorem wu16_calls {w : World} {F : Blks} (a : Nat) (s : WS) (v : Int) (h : (st objW a s).on w F) (hv : -9223372036854775808 ≤ v ∧ v ≤ 9223372036854775807) :
    Calls Try.prog 36 #[.pointer (some ⟨a, 0, none⟩), .int .i64 v] w fun e w' => e = .returned (.tuple #[]) ∧ Turn w w' F (st objW a (s.num v 65535 2)) := by
  have HP := Lib.hid (within_calls a s v 65535 2 h (by omega) hv)
  clear h hv
  go_enter Try.func36, Try.ntmps36
  go_wp2_with fail
  refine HP.out.mono ?_
  rintro e w1 ⟨rfl, ht⟩
  go_wp2_with fail
  go_end0
  exact ⟨rfl, ht⟩
theorem wword_calls {w : World} {F : Blks} (a : Nat) (s : WS) (v : Int) (h : (st objW a s).on w F) (hv : -9223372036854775808 ≤ v ∧ v ≤ 9223372036854775807) :
    Calls Try.prog 107 #[.pointer (some ⟨a, 0, none⟩), .int .i64 v] w fun e w' => e = .returned (.tuple #[]) ∧ Turn w w' F (st objW a (s.num v 4294967295 4)) := by
  have HP := Lib.hid (within_calls a s v 4294967295 4 h (by omega) hv)
  clear h hv
  go_enter Try.func107, Try.ntmps107
  go_wp2_with fail
  refine HP.out.mono ?_
  rintro e w1 ⟨rfl, ht⟩
  go_wp2_with fail
  go_end0
  exact ⟨rfl, ht⟩
theorem wu32_calls {w : World} {F : Blks} (a : Nat) (s : WS) (v : Nat) (h : (st objW a s).on w F) (hv : v < 4294967296) :
    Calls Try.prog 57 #[.pointer (some ⟨a, 0, none⟩), .int .u32 v] w fun e w' => e = .returned (.tuple #[]) ∧ Turn w w' F (st objW a (s.put (little 4 v))) := by
  have HP := Lib.hid (put_calls a s v 4 h (by omega) (by omega))
  have hv1 : (v : Int) < 4294967296 := by omega
  clear h
  go_enter Try.func57, Try.ntmps57
  go_wp2_with fail
  refine HP.out.mono ?_
  rintro e w1 ⟨rfl, ht⟩
  go_wp2_with fail
  go_end0
  exact ⟨rfl, ht⟩
theorem wu64_calls {w : World} {F : Blks} (a : Nat) (s : WS) (v : Int) (h : (st objW a s).on w F) (hv : -9223372036854775808 ≤ v ∧ v ≤ 9223372036854775807) :
    Calls Try.prog 59 #[.pointer (some ⟨a, 0, none⟩), .int .i64 v] w fun e w' => e = .returned (.tuple #[]) ∧ Turn w w' F (st objW a (s.put (little 8 (v % 18446744073709551616).toNat))) := by
  have hp := put_calls a s (v % 18446744073709551616).toNat 8 h (by omega) (by omega)
  rw [← u64_of] at hp
  have HP := Lib.hid hp
  clear h hv hp
  go_enter Try.func59, Try.ntmps59
  go_wp2_with fail
  refine HP.out.mono ?_
  rintro e w1 ⟨rfl, ht⟩
  go_wp2_with fail
  go_end0
  exact ⟨rfl, ht⟩

theorem wlen_calls {w : World} {F : Blks} (a : Nat) (s : WS) (h : (st objW a s).on w F) :
    Calls Try.prog 33 #[.pointer (some ⟨a, 0, none⟩)] w fun e w' => e = .returned (.int .i64 (s.out.length : Nat)) ∧ w = w' := by
  obtain ⟨vo, vp, hI, hF⟩ := h
  obtain ⟨A, c, rfl, _, _⟩ := hI.out.reads
  have c0 : w.cell? ⟨a, 0, none⟩ = some (.slice A (bl s.out).length c) := cell_of hI.blk rfl
  have HLL := Lib.hid (bl_length s.out)
  clear hI hF
  go_enter Try.func33, Try.ntmps33
  go_wp2_with fail
  go_ret
  exact ⟨by rw [HLL.out]; rfl, rfl⟩
theorem werr_calls {w : World} {F : Blks} (a : Nat) (s : WS) (h : (st objW a s).on w F) :
    Calls Try.prog 32 #[.pointer (some ⟨a, 0, none⟩)] w fun e w' => e = .returned (.int .i64 s.err) ∧ w = w' := by
  obtain ⟨vo, vp, hI, hF⟩ := h
  have c3 : w.cell? ⟨a, 3, none⟩ = some (.int .i64 s.err) := cell_of hI.blk rfl
  clear hI hF
  go_enter Try.func32, Try.ntmps32
  go_wp2_with fail
  go_ret
  exact ⟨rfl, rfl⟩
def WS.opened (s : WS) : WS := { s with opn := s.opn ++ [s.out.length] }
/-- a run begun. -/
def WS.open_ (s : WS) : WS := if s.err = 0 then (if s.opn.length = 4 then s.fail 23 else s.opened) else s
theorem nl_append (l m : List Nat) : nl (l ++ m) = nl l ++ nl m := by simp [nl]
/-- a place was appended and stored back. -/
theorem turn_opn {w w1 : World} {a : Nat} {vo vp v1 : Value} {s : WS} {F : Blks} {q : List Nat} (h : IsO objW w a vo vp s) (hF : ∀ b, foot a vo vp b → F b) (ho : Rw w1 3 .i64 v1 (nl q)) (hg : w.grownBy w1 vp.ownBlock)
    (hat : v1.ownBlock = vp.ownBlock ∨ ∃ b, v1.ownBlock = some b ∧ w.heap.size ≤ b) (hq : q.length ≤ 4) (hi : ∀ x ∈ q, x ≤ s.out.length) : Turn w (w1.setCell ⟨a, 2, none⟩ v1) F (st objW a { s with opn := q }) := by
  have hon := grown_only hg
  have hblk : w1.heap[a]? = some (objW vo vp s) := (hon.block a (block_lt h.blk) h.ne2).trans h.blk
  have hne : v1.ownBlock ≠ some a := by
    intro e
    rcases hat with h3 | ⟨b, h3, h4⟩
    · exact h.ne2 (h3.symm.trans e)
    · have : b = a := Option.some.inj (h3.symm.trans e)
      have := block_lt h.blk
      omega
  have hp : Rw w1 5 .u8 vo (bl s.out) := h.out.only hon (fun b hb hv => h.ne3 b hb hv)
  refine ⟨(hon.mono (fun b hb _ => hF b (.inr (.inr hb)))).setCell (p := ⟨a, 2, none⟩) (.inl (hF a (.inl rfl))) _, vo, v1, IsO.put_ (heap_set hblk _) hp ho h.ne1 hne ?_ ⟨h.ok.len, h.ok.lim, hq, hi⟩, ?_⟩
  · intro b hb hb2
    rcases hat with h3 | ⟨b', h3, h4⟩
    · exact h.ne3 b hb (h3.symm.trans hb2)
    · have : b' = b := Option.some.inj (h3.symm.trans hb2)
      have := h.out.lt b hb
      omega
  · rintro b (rfl | hb | hb)
    · exact .inl (hF b (.inl rfl))
    · exact .inl (hF b (.inr (.inl hb)))
    · rcases hat with h3 | ⟨b', h3, h4⟩
      · exact .inl (hF b (.inr (.inr (h3.symm.trans hb))))
      · have : b' = b := Option.some.inj (h3.symm.trans hb)
        exact .inr (by omega)
theorem open_calls {w : World} {F : Blks} (a : Nat) (s : WS) (h : (st objW a s).on w F) :
    Calls Try.prog 22 #[.pointer (some ⟨a, 0, none⟩)] w fun e w' => e = .returned (.tuple #[]) ∧ Turn w w' F (st objW a s.open_) := by
  have H := Lib.hid h
  obtain ⟨vo, vp, hI, hF⟩ := h
  obtain ⟨A, c, rfl, _, _⟩ := hI.out.reads
  obtain ⟨B, d, rfl, _, _⟩ := hI.opn.reads
  have c0 : w.cell? ⟨a, 0, none⟩ = some (.slice A (bl s.out).length c) := cell_of hI.blk rfl
  have c2 : w.cell? ⟨a, 2, none⟩ = some (.slice B (nl s.opn).length d) := cell_of hI.blk rfl
  have c3 : w.cell? ⟨a, 3, none⟩ = some (.int .i64 s.err) := cell_of hI.blk rfl
  have f2 := frozen_of hI.blk 2
  have f3 := frozen_of hI.blk 3
  have HI := Lib.hid hI
  have HF := Lib.hid hF
  have hnl : (nl s.opn).length = s.opn.length := nl_length _
  have hnest : (nl s.opn).length ≤ 4 := by rw [hnl]; exact hI.ok.nest
  clear hI hF
  by_cases he : s.err = 0
  · have t0 : (s.err != 0) = false := by simp [he]
    by_cases h4 : s.opn.length = 4
    · have t1 : (((nl s.opn).length : Int) == 4) = true := by rw [hnl, h4]; rfl
      have E := Lib.hid (show s.open_ = s.fail 23 by unfold WS.open_; rw [if_pos he, if_pos h4])
      clear he h4 hnl
      go_enter Try.func22, Try.ntmps22
      go_wp2_with fail
      go_end0
      rw [E.out]
      exact ⟨rfl, turn_err HI.out HF.out 23⟩
    · have t1 : (((nl s.opn).length : Int) == 4) = false := by rw [hnl]; simp; omega
      have E := Lib.hid (show s.open_ = s.opened by unfold WS.open_; rw [if_pos he, if_neg h4])
      have HLT := Lib.hid (show s.opn.length < 4 by omega)
      have HLEN := Lib.hid (show ((nl s.opn).length + 1) * 8 ≤ 140737488355328 by omega)
      have HBL := Lib.hid (bl_length s.out)
      have hA2 : ∀ o : Obj, (w.alloc o).cell? ⟨a, 2, none⟩ = some (.slice B (nl s.opn).length d) := fun o => cell_of (HI.out.alloc o).blk rfl
      clear he h4 hnl
      go_enter Try.func22, Try.ntmps22
      go_wp2_with fail
      go_region_law (first | (refine push_step (W := w.drew) rfl (.tmp 6) (.tmp 12) 58 3 .i64 8 rfl Try.underlying58 info3 (by decide) (.slice B (nl s.opn).length d) (nl s.opn) _ rfl rfl (HI.out.opn.only (Only.refl w (fun _ => False)).drew (fun _ _ h => h)) HLEN.out ?_; intro v1 w2 ho1 hg1 hat1; obtain ⟨A1, c1, e1, _, _⟩ := ho1.reads; obtain ⟨n1, hn1⟩ : ∃ n1 : Nat, n1 = (nl s.opn ++ [((bl s.out).length : Int)]).length := ⟨_, rfl⟩; rw [← hn1] at e1; subst e1; clear hn1; (have hblk : w2.heap[a]? = some (objW (.slice A (bl s.out).length c) (.slice B (nl s.opn).length d) s) := (hg1.block a (block_lt HI.out.blk) (fun e => HI.out.ne2 e.symm)).trans HI.out.blk); (have d2 : w2.cell? ⟨a, 2, none⟩ = some (.slice B (nl s.opn).length d) := cell_of hblk rfl); have f2 := frozen_of hblk 2; have HO1 := Lib.hid ho1; have HG1 := Lib.hid hg1; have HAT1 := Lib.hid hat1; clear ho1 hg1 hat1 hblk))
      all_goals go_wp2_with fail
      all_goals go_end0
      all_goals
        rw [E.out]
        refine ⟨rfl, ?_⟩
        have hq := HLT.out
        refine Turn.after_below (below_drew (Below.refl _ _)) (turn_opn (vp := .slice B (nl s.opn).length d) (q := s.opn ++ [s.out.length]) (HI.out.keep (fun _ _ _ => rfl)) HF.out ?_ HG1.out HAT1.out (by simp; omega) (fun x hx => ?_))
        · have h1 := HO1.out
          rw [HBL.out] at h1
          rw [nl_append]
          exact h1
        · rcases List.mem_append.1 hx with h | h
          · exact HI.out.ok.inn x h
          · have : x = s.out.length := by simpa using h
            omega
  · have t0 : (s.err != 0) = true := by simpa using he
    have E := Lib.hid (show s.open_ = s by unfold WS.open_; rw [if_neg he])
    clear he hnl
    go_enter Try.func22, Try.ntmps22
    go_wp2_with fail
    go_end0
    rw [E.out]
    exact ⟨rfl, Turn.same H.out⟩

end Go.Proofs.Ytdmliaodacaefaa.Wr
