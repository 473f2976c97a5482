/- Readers in memory, the program's and the reference's: one plain state for both; the program's reader, call by call. By walks. -/
import Derived.Test.YtdmliaodacaefaaDuo
import Derived.Test.YtdmliaodacaefaaOps
import Derived.IntWalk
namespace Go.Proofs.Ytdmliaodacaefaa.Rd
open Go.RowKit Go.Proofs.YtdmliaodacaefaaW.PrintWords Go.Proofs.YtdmliaodacaefaaW.PrintLast Go.Proofs.YtdmliaodacaefaaW.PrintMore Go.Proofs.Ytdmliaodacaefaa.Mem Go.Proofs.Ytdmliaodacaefaa.Sep Go.Proofs.Ytdmliaodacaefaa.Bridge Go.Proofs.Ytdmliaodacaefaa.Wr
set_option linter.unusedVariables false
set_option linter.unusedSimpArgs false
section
variable {ops : Array Oper} {o : Oper} {a : Act} {Q : Exit → Act → World → Prop} {Kc : Act → World → Prop} {W : World} {rest : List Oper}
/-- a row appended, in a region that draws its order. -/
theorem app_step (hg : o.guard = none) (s x : Operand) (t e : TypeId) (k : IntKind) (bytes : Nat)
    (ho : o.op = .call { callee := .builtin .append, args := #[s, x], argTypes := #[t, t] })
    (ht : Try.prog.underlying t = some (.slice e)) (hinfo : (Try.prog.info? e).map (fun i => (i.zero, i.size, i.bytes)) = some (some (.int k 0), 1, bytes)) (hb0 : 0 < bytes)
    (v : Value) (xs ys : List Int) (A : Option Addr) (m c : Nat) (hs : a.eval s = v) (hx : a.eval x = .slice A m c)
    (HO : Rw W e k v xs) (HR : Kd.C (Kd.int k) W A m ys) (hl : (xs.length + m) * bytes ≤ 140737488355328)
    (h : ∀ v1 w1, Rw w1 e k v1 (xs ++ ys) → W.grownBy w1 v.ownBlock → (v1.ownBlock = v.ownBlock ∨ ∃ b, v1.ownBlock = some b ∧ W.heap.size ≤ b) → Kc (a.put o.dst v1) w1) :
    if Region.wanted o (yielded ops a.tmps) = true then Oper.wp Try.prog o a W Kc Q else Kc (a.put o.dst undef) W :=
  Kd.R_append_rows_step (Kd.int k) (Rr := fun x cs => cs = [.int k x]) (w0 := W) 0 (by simp [Region.wanted, hg]) s x t e (.int k 0) bytes ho ht hinfo rfl Nat.one_pos hb0 v xs ys A m c (fun _ => True) (fun _ => False) hs hx HO HR (fun x cs h => h) (fun _ h => h.elim) (fun _ _ => trivial) ((Below.refl 0 _).mono (Nat.zero_le _)) (Nat.zero_le _) hl
    (fun v1 w1 h1 _ h3 h4 => h v1 w1 h1 h3 h4)
end
/-- a reader's state. -/
structure RS where
  inp : List UInt8
  pos : Nat
  err : Int
structure RS.Ok (s : RS) : Prop where
  len : s.inp.length ≤ 140737488351232
  pos : s.pos ≤ s.inp.length
def objR (T : TypeId) (v : Value) (s : RS) : Obj := .cells #[v, .int .i64 s.pos, .int .i64 s.err] T (0, 0)
structure IsR (T : TypeId) (w : World) (a : Nat) (v : Value) (s : RS) : Prop where
  blk : w.heap[a]? = some (objR T v s)
  inp : Rw w 5 .u8 v (bl s.inp)
  ne : v.ownBlock ≠ some a
  ok : s.Ok
def foot (a : Nat) (v : Value) : Blks := fun b => b = a ∨ v.ownBlock = some b
section
variable {T : TypeId} {w w' : World} {a : Nat} {v : Value} {s : RS} {S F : Blks}
theorem IsR.keep (h : IsR T w a v s) (hk : ∀ b, foot a v b → b < w.heap.size → w'.heap[b]? = w.heap[b]?) : IsR T w' a v s :=
  ⟨(hk a (.inl rfl) (block_lt h.blk)).trans h.blk, h.inp.step (fun b hb hl => hk b (.inr hb) hl), h.ne, h.ok⟩
theorem IsR.drewN (h : IsR T w a v s) (n : Nat) : IsR T (w.drewN n) a v s := h.keep (fun _ _ _ => rfl)
theorem IsR.lt (h : IsR T w a v s) : ∀ b, foot a v b → b < w.heap.size := by
  rintro b (rfl | hb)
  · exact block_lt h.blk
  · exact h.inp.lt b hb
/-- a reader at a, and where it stands. -/
def rd (T : TypeId) (a : Nat) (s : RS) : Asr where
  on w F := ∃ v, IsR T w a v s ∧ ∀ b, foot a v b → F b
  up h hu := by
    obtain ⟨v, h1, h2⟩ := h
    exact ⟨v, h1, fun b hb => hu b (h2 b hb)⟩
  keep h hk := by
    obtain ⟨v, h1, h2⟩ := h
    exact ⟨v, h1.keep (fun b hb hl => hk b (h2 b hb) hl), h2⟩
  bound h := by
    obtain ⟨v, h1, h2⟩ := h
    exact ⟨v, h1, fun b hb => ⟨h2 b hb, h1.lt b hb⟩⟩
theorem IsR.put_ {i : Nat} {u : Value} {s' : RS} (h : IsR T w a v s) (hb : (w.setCell ⟨a, i, none⟩ u).heap[a]? = some (objR T v s')) (hi : s'.inp = s.inp) (ok : s'.Ok) : IsR T (w.setCell ⟨a, i, none⟩ u) a v s' := by
  have hon : Only w (w.setCell ⟨a, i, none⟩ u) (fun b => b = a) := (Only.refl w (fun b => b = a)).setCell (p := ⟨a, i, none⟩) (.inl rfl) u
  exact ⟨hb, by rw [hi]; exact h.inp.only hon (fun b hb e => h.ne (e ▸ hb)), h.ne, ok⟩
def RS.fail (s : RS) (e : Int) : RS := { s with err := e }
def RS.go (s : RS) (p : Nat) : RS := { s with pos := p }
theorem turn_err (h : IsR T w a v s) (hF : ∀ b, foot a v b → F b) (e : Int) : Turn w (w.setCell ⟨a, 2, none⟩ (.int .i64 e)) F (rd T a (s.fail e)) :=
  ⟨(Only.refl w F).setCell (p := ⟨a, 2, none⟩) (.inl (hF a (.inl rfl))) _, v, h.put_ (heap_set h.blk _) rfl ⟨h.ok.len, h.ok.pos⟩, fun b hb => .inl (hF b hb)⟩
theorem turn_pos (h : IsR T w a v s) (hF : ∀ b, foot a v b → F b) (p : Nat) (hp : p ≤ s.inp.length) : Turn w (w.setCell ⟨a, 1, none⟩ (.int .i64 p)) F (rd T a (s.go p)) :=
  ⟨(Only.refl w F).setCell (p := ⟨a, 1, none⟩) (.inl (hF a (.inl rfl))) _, v, h.put_ (heap_set h.blk _) rfl ⟨h.ok.len, hp⟩, fun b hb => .inl (hF b hb)⟩
end
def RS.left (s : RS) : Nat := s.inp.length - s.pos
/-- are n bytes left? -/
def RS.hasB (s : RS) (n : Int) : Bool := decide (s.err = 0 ∧ 0 ≤ n ∧ n ≤ (s.left : Int))
def RS.hasS (s : RS) (n : Int) : RS := if s.err = 0 then (if n < 0 then s.fail 1 else if (s.left : Int) < n then s.fail 20 else s) else s
def RS.next (s : RS) (n : Nat) : List UInt8 := (s.inp.drop s.pos).take n
theorem left_calls {w : World} {F : Blks} (a : Nat) (s : RS) (h : (rd 76 a s).on w F) :
    Calls Try.prog 29 #[.pointer (some ⟨a, 0, none⟩)] w fun e w' => e = .returned (.int .i64 (s.left : Nat)) ∧ Drawn0 w w' := by
  obtain ⟨v, hI, hF⟩ := h
  obtain ⟨A, c, rfl, _, _⟩ := hI.inp.reads
  have c0 : w.cell? ⟨a, 0, none⟩ = some (.slice A (bl s.inp).length c) := cell_of hI.blk rfl
  have c1 : w.cell? ⟨a, 1, none⟩ = some (.int .i64 s.pos) := cell_of hI.blk rfl
  have HE := Lib.hid (show (((bl s.inp).length : Int) - (s.pos : Int)) = ((s.left : Nat) : Int) by unfold RS.left; have := hI.ok.pos; rw [bl_length]; omega)
  have hp : s.pos ≤ (bl s.inp).length := by rw [bl_length]; exact hI.ok.pos
  have hl : (bl s.inp).length ≤ 140737488351232 := by rw [bl_length]; exact hI.ok.len
  clear hI hF
  go_enter Try.func29, Try.ntmps29
  go_wp2_with fail
  go_quiet (fail)
  go_wp2_with fail
  go_ret
  exact ⟨by rw [← HE.out]; rfl, ⟨⟨_, rfl⟩⟩⟩
theorem rerr_calls {w : World} {F : Blks} (a : Nat) (s : RS) (h : (rd 76 a s).on w F) :
    Calls Try.prog 28 #[.pointer (some ⟨a, 0, none⟩)] w fun e w' => e = .returned (.int .i64 s.err) ∧ w = w' := by
  obtain ⟨v, hI, hF⟩ := h
  have c2 : w.cell? ⟨a, 2, none⟩ = some (.int .i64 s.err) := cell_of hI.blk rfl
  clear hI hF
  go_enter Try.func28, Try.ntmps28
  go_wp2_with fail
  go_ret
  exact ⟨rfl, rfl⟩
theorem has_calls {w : World} {F : Blks} (a : Nat) (s : RS) (n : Int) (h : (rd 76 a s).on w F) :
    Calls Try.prog 79 #[.pointer (some ⟨a, 0, none⟩), .int .i64 n] w fun e w' => e = .returned (.bool (s.hasB n)) ∧ Turn w w' F (rd 76 a (s.hasS n)) := by
  have H := Lib.hid h
  have HL := Lib.hid (left_calls a s h)
  obtain ⟨v, hI, hF⟩ := h
  have c2 : w.cell? ⟨a, 2, none⟩ = some (.int .i64 s.err) := cell_of hI.blk rfl
  have f2 := frozen_of hI.blk 2
  have HI := Lib.hid hI
  have HF := Lib.hid hF
  clear hI hF
  by_cases he : s.err = 0
  · have t0 : (s.err != 0) = false := by simp [he]
    by_cases hn : n < 0
    · have E := Lib.hid (show s.hasB n = false ∧ s.hasS n = s.fail 1 from ⟨by unfold RS.hasB; simp; omega, by unfold RS.hasS; rw [if_pos he, if_pos hn]⟩)
      clear he
      go_enter Try.func79, Try.ntmps79
      go_wp2_with fail
      go_ret
      rw [E.out.1, E.out.2]
      exact ⟨rfl, turn_err HI.out HF.out 1⟩
    · by_cases hl : (s.left : Int) < n
      · have E := Lib.hid (show s.hasB n = false ∧ s.hasS n = s.fail 20 from ⟨by unfold RS.hasB; simp; omega, by unfold RS.hasS; rw [if_pos he, if_neg hn, if_pos hl]⟩)
        clear he
        go_enter Try.func79, Try.ntmps79
        go_wp2_with fail
        refine HL.out.mono ?_
        rintro e w1 ⟨rfl, ⟨nd, rfl⟩⟩
        go_wp2_with fail
        go_ret
        rw [E.out.1, E.out.2]
        exact ⟨rfl, (Turn.drewN H.out nd).trans (turn_err (HI.out.drewN nd) (fun b hb => .inl (HF.out b hb)) 20)⟩
      · have E := Lib.hid (show s.hasB n = true ∧ s.hasS n = s from ⟨by unfold RS.hasB; simp; omega, by unfold RS.hasS; rw [if_pos he, if_neg hn, if_neg hl]⟩)
        clear he
        go_enter Try.func79, Try.ntmps79
        go_wp2_with fail
        refine HL.out.mono ?_
        rintro e w1 ⟨rfl, ⟨nd, rfl⟩⟩
        go_wp2_with fail
        go_ret
        rw [E.out.1, E.out.2]
        exact ⟨rfl, Turn.drewN H.out nd⟩
  · have t0 : (s.err != 0) = true := by simpa using he
    have E := Lib.hid (show s.hasB n = false ∧ s.hasS n = s from ⟨by unfold RS.hasB; simp [he], by unfold RS.hasS; rw [if_neg he]⟩)
    clear he
    go_enter Try.func79, Try.ntmps79
    go_wp2_with fail
    go_ret
    rw [E.out.1, E.out.2]
    exact ⟨rfl, Turn.same H.out⟩

theorem RS.next_length (s : RS) (n : Nat) (h : n ≤ s.left) (hp : s.pos ≤ s.inp.length) : (s.next n).length = n := by
  unfold RS.next RS.left at *
  rw [List.length_take, List.length_drop]
  omega
/-- the state behind n bytes, or behind the error. -/
def RS.takeS (s : RS) (n : Int) : RS := if s.hasB n then s.go (s.pos + n.toNat) else s.hasS n
def RS.takeV (s : RS) (n : Nat) : Nat := if s.hasB n then worth (s.next n) else 0
theorem worth_at (l : List UInt8) (i : Nat) (h : i < l.length) : worth (l.drop i) = l[i].toNat + 256 * worth (l.drop (i + 1)) := by
  rw [List.drop_eq_getElem_cons h]; rfl
theorem or_low (x b : Nat) (hx : x < 72057594037927936) (hb : b < 256) : bits .or .u64 ((x : Int) * 256) (b : Int) = ((b + 256 * x : Nat) : Int) := by
  have e : ((x : Int) * 256) = ((x * 256 : Nat) : Int) := by omega
  rw [e, u64_or_nat _ _ (by omega) (by omega)]
  have h := Nat.two_pow_add_eq_or_of_lt (i := 8) (show b < 2 ^ 8 from hb) x
  rw [Nat.mul_comm] at h
  rw [show (256 : Nat) = 2 ^ 8 from rfl, ← h]
  congr 1
  omega
set_option maxHeartbeats 1000000 in
theorem take_calls {w : World} {F : Blks} (a : Nat) (s : RS) (n : Nat) (h : (rd 76 a s).on w F) (hn : n ≤ 8) :
    Calls Try.prog 82 #[.pointer (some ⟨a, 0, none⟩), .int .i64 n] w fun e w' => e = .returned (.int .u64 (s.takeV n : Nat)) ∧ Turn w w' F (rd 76 a (s.takeS n)) := by
  have HH := has_calls a s n h
  cases hb : s.hasB n
  · have E := Lib.hid (show s.takeV n = 0 ∧ s.takeS n = s.hasS n from ⟨by unfold RS.takeV; rw [hb]; rfl, by unfold RS.takeS; rw [hb]; rfl⟩)
    rw [hb] at HH
    have HH' := Lib.hid HH
    clear HH hb h
    go_enter Try.func82, Try.ntmps82
    go_wp2_with fail
    refine HH'.out.mono ?_
    rintro e w1 ⟨rfl, ht⟩
    have HT := Lib.hid ht
    clear ht
    go_wp2_with fail
    go_ret
    rw [E.out.1, E.out.2]
    exact ⟨rfl, HT.out⟩
  · have hb' := hb
    unfold RS.hasB at hb'
    simp only [decide_eq_true_eq] at hb'
    obtain ⟨he, h0, hl⟩ := hb'
    have e1 : s.hasS n = s := by unfold RS.hasS; rw [if_pos he, if_neg (by omega), if_neg (by omega)]
    rw [hb, e1] at HH
    have hok : s.Ok := by obtain ⟨v, hI, _⟩ := h; exact hI.ok
    have HP := Lib.hid (show s.pos + n ≤ s.inp.length by have := hok.pos; unfold RS.left at hl; omega)
    have HLN := Lib.hid (s.next_length n (by omega) hok.pos)
    have E := Lib.hid (show s.takeV n = worth (s.next n) ∧ s.takeS n = s.go (s.pos + n) from ⟨by unfold RS.takeV; rw [hb]; rfl, by unfold RS.takeS; rw [hb]; simp⟩)
    have HOK := Lib.hid hok
    have HH' := Lib.hid HH
    have HN := Lib.hid hn
    clear HH hb h e1 he h0 hl hok
    go_enter Try.func82, Try.ntmps82
    go_wp2_with fail
    refine HH'.out.mono ?_
    rintro e w1 ⟨rfl, ht⟩
    have HT := Lib.hid ht
    clear ht
    go_wp2_with fail
    go_loopw [5, 6] (fun v5 v6 wr => ∃ (j : Nat) (z : Int), v5 = .int .u64 ((worth ((s.next n).drop j) : Nat) : Int) ∧ v6 = .int .i64 z ∧ z = (j : Int) - 1 ∧ j ≤ n ∧ Turn w wr F (rd 76 a s)) (fun _ v _ => (intOf v + 1).toNat)
    case atStart =>
      refine ⟨n, _, ?_, rfl, rfl, Nat.le_refl _, HT.out⟩
      have h1 : (s.next n).drop n = [] := List.drop_eq_nil_of_le (by rw [HLN.out]; exact Nat.le_refl _)
      rw [h1]
      rfl
    case round =>
      obtain ⟨j, z, rfl, rfl, hv6, hj, ht⟩ := hrel
      have HT2 := Lib.hid ht
      clear ht
      obtain ⟨v, hI, hF⟩ := HT2.out.2
      have HI := Lib.hid hI
      have HF := Lib.hid hF
      clear hI hF
      cases j with
      | zero =>
        have e6 : z = -1 := by omega
        subst e6
        have c1 : wr.cell? ⟨a, 1, none⟩ = some (.int .i64 s.pos) := cell_of HI.out.blk rfl
        have f1 := frozen_of HI.out.blk 1
        have hpb : s.pos ≤ 140737488351232 := Nat.le_trans HI.out.ok.pos HI.out.ok.len
        have hnb : n ≤ 8 := HN.out
        clear hv6 hj
        go_wp2_with fail
        go_ret
        rw [E.out.1, E.out.2]
        refine ⟨by simp, ?_⟩
        have hc : (s.pos : Int) + (n : Int) = ((s.pos + n : Nat) : Int) := by omega
        rw [hc]
        exact HT2.out.trans (turn_pos HI.out HF.out _ HP.out)
      | succ i =>
        have e6 : z = (i : Int) := by omega
        subst e6
        have hin : i < (s.next n).length := by rw [HLN.out]; omega
        obtain ⟨g, c, e1, hc, _⟩ := HI.out.inp.some (by rw [bl_length]; have := HP.out; omega)
        subst e1
        have hpl : s.pos + i < s.inp.length := by have := HP.out; omega
        have hcell := (Kd.R_celln (0 : Int) HI.out.inp ((s.pos + i : Nat) : Int) (by omega) (by rw [bl_length]; omega)).1
        rw [Int.toNat_natCast] at hcell
        have hrd : rdOf (0 : Int) (bl s.inp) ((s.pos + i : Nat) : Int) = ((s.inp[s.pos + i]'hpl).toNat : Int) := rd_bl s.inp (s.pos + i) hpl
        rw [hrd] at hcell
        have hsame : (s.next n)[i] = s.inp[s.pos + i]'hpl := by
          simp only [RS.next, List.getElem_take, List.getElem_drop]
        rw [← hsame] at hcell
        obtain ⟨b, hb⟩ : ∃ b : UInt8, b = (s.next n)[i] := ⟨_, rfl⟩
        rw [← hb] at hcell
        obtain ⟨x, hx⟩ : ∃ x : Nat, x = worth ((s.next n).drop (i + 1)) := ⟨_, rfl⟩
        have hw := worth_at (s.next n) i hin
        rw [← hb, ← hx] at hw
        have hxl : x < 72057594037927936 := by
          have h1 := worth_lt ((s.next n).drop (i + 1))
          have h2 : ((s.next n).drop (i + 1)).length ≤ 7 := by rw [List.length_drop, HLN.out]; have := HN.out; omega
          have h3 : (256 : Nat) ^ ((s.next n).drop (i + 1)).length ≤ 256 ^ 7 := Nat.pow_le_pow_right (by omega) h2
          rw [hx]
          omega
        rw [← hx]
        have c0 : wr.cell? ⟨a, 0, none⟩ = some (.slice (some ⟨g, 0, none⟩) (bl s.inp).length c) := cell_of HI.out.blk rfl
        have c1 : wr.cell? ⟨a, 1, none⟩ = some (.int .i64 s.pos) := cell_of HI.out.blk rfl
        have hor := or_low x b.toNat hxl b.toNat_lt
        have hpb : s.pos ≤ 140737488351232 := Nat.le_trans HI.out.ok.pos HI.out.ok.len
        have hi8 : i ≤ 8 := by have := HN.out; omega
        have hbb : (0 : Int) ≤ (b.toNat : Int) := by omega
        have hbb2 : (b.toNat : Int) ≤ 255 := by have := b.toNat_lt; omega
        have hx0 : (0 : Int) ≤ (x : Int) := by omega
        have hlen2 : (s.pos : Int) + (i : Int) < ((bl s.inp).length : Int) := by rw [bl_length]; omega
        have HW := Lib.hid hw
        have HOR := Lib.hid hor
        have HJ := Lib.hid hj
        have q1 : IntKind.i64.wrap ((s.pos : Int) + (i : Int)) = (s.pos : Int) + (i : Int) := IntWalk.i64_in _ (by omega)
        have q2 : 0 ≤ (s.pos : Int) + (i : Int) := by omega
        have q3 : ((s.pos : Int) + (i : Int)).toNat = s.pos + i := by omega
        have q4 : IntKind.u64.wrap ((x : Int) * 256) = (x : Int) * 256 := by simp [IntKind.wrap, IntKind.signed, IntKind.bits]; omega
        clear hv6 hw hor hx hb hsame hrd hj
        go_wp2_with fail
        go_quiet (fail)
        clear q1 q2 q3 q4
        go_wp2_with fail
        have hj := HJ.out
        exact ⟨⟨i, _, by rw [HOR.out, HW.out], rfl, rfl, by omega, HT2.out.then_drawn ⟨⟨_, rfl⟩⟩⟩, by simp [intOf]⟩
theorem u8_calls {w : World} {F : Blks} (a : Nat) (s : RS) (h : (rd 76 a s).on w F) :
    Calls Try.prog 37 #[.pointer (some ⟨a, 0, none⟩)] w fun e w' => e = .returned (.int .i64 (wrap64 (s.takeV 1 : Nat))) ∧ Turn w w' F (rd 76 a (s.takeS 1)) := by
  have HP := Lib.hid (take_calls a s 1 h (by omega))
  clear h
  go_enter Try.func37, Try.ntmps37
  go_wp2_with fail
  refine HP.out.mono ?_
  rintro e w1 ⟨rfl, ht⟩
  go_wp2_with fail
  go_ret
  exact ⟨rfl, ht⟩
theorem u16_calls {w : World} {F : Blks} (a : Nat) (s : RS) (h : (rd 76 a s).on w F) :
    Calls Try.prog 38 #[.pointer (some ⟨a, 0, none⟩)] w fun e w' => e = .returned (.int .i64 (wrap64 (s.takeV 2 : Nat))) ∧ Turn w w' F (rd 76 a (s.takeS 2)) := by
  have HP := Lib.hid (take_calls a s 2 h (by omega))
  clear h
  go_enter Try.func38, Try.ntmps38
  go_wp2_with fail
  refine HP.out.mono ?_
  rintro e w1 ⟨rfl, ht⟩
  go_wp2_with fail
  go_ret
  exact ⟨rfl, ht⟩
theorem u32_calls {w : World} {F : Blks} (a : Nat) (s : RS) (h : (rd 76 a s).on w F) :
    Calls Try.prog 39 #[.pointer (some ⟨a, 0, none⟩)] w fun e w' => e = .returned (.int .u32 ((s.takeV 4 : Nat) % 4294967296 : Int)) ∧ Turn w w' F (rd 76 a (s.takeS 4)) := by
  have HP := Lib.hid (take_calls a s 4 h (by omega))
  clear h
  go_enter Try.func39, Try.ntmps39
  go_wp2_with fail
  refine HP.out.mono ?_
  rintro e w1 ⟨rfl, ht⟩
  go_wp2_with fail
  go_ret
  exact ⟨rfl, ht⟩
theorem u64_calls {w : World} {F : Blks} (a : Nat) (s : RS) (h : (rd 76 a s).on w F) :
    Calls Try.prog 40 #[.pointer (some ⟨a, 0, none⟩)] w fun e w' => e = .returned (.int .i64 (wrap64 (s.takeV 8 : Nat))) ∧ Turn w w' F (rd 76 a (s.takeS 8)) := by
  have HP := Lib.hid (take_calls a s 8 h (by omega))
  clear h
  go_enter Try.func40, Try.ntmps40
  go_wp2_with fail
  refine HP.out.mono ?_
  rintro e w1 ⟨rfl, ht⟩
  go_wp2_with fail
  go_ret
  exact ⟨rfl, ht⟩
theorem word_calls {w : World} {F : Blks} (a : Nat) (s : RS) (h : (rd 76 a s).on w F) :
    Calls Try.prog 105 #[.pointer (some ⟨a, 0, none⟩)] w fun e w' => e = .returned (.int .i64 (wrap64 (s.takeV 4 : Nat))) ∧ Turn w w' F (rd 76 a (s.takeS 4)) := by
  have HP := Lib.hid (take_calls a s 4 h (by omega))
  clear h
  go_enter Try.func105, Try.ntmps105
  go_wp2_with fail
  refine HP.out.mono ?_
  rintro e w1 ⟨rfl, ht⟩
  go_wp2_with fail
  go_ret
  exact ⟨rfl, ht⟩
end Go.Proofs.Ytdmliaodacaefaa.Rd
