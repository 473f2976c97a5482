/- Pack against Unpack, plain: what is written is as long as the shape's parts and is read back; a byte less is short. No program in sight. -/
import Derived.Test.YtdmliaodacaefaaBal
import Derived.Test.YtdmliaodacaefaaUnp
import Derived.Test.YtdmliaodacaefaaPck
import Derived.Test.YtdmliaodacaefaaPWirex6
namespace Go.Proofs.Ytdmliaodacaefaa.Shape
open Go.RowKit Go.Proofs.YtdmliaodacaefaaW.PrintWords Go.Proofs.Ytdmliaodacaefaa.Bridge Go.Proofs.Ytdmliaodacaefaa.Wr Go.Proofs.Ytdmliaodacaefaa.Rd
set_option linter.unusedVariables false
set_option linter.unusedSimpArgs false
/-- the number's bytes. -/
def lit (c : UInt8) (v : Int) : List UInt8 := little (wid c) (v % 18446744073709551616).toNat
/-- what is written behind o. -/
def wr : List UInt8 → List UInt8 → List Nat → List Int → List UInt8
  | [], o, q, vs => []
  | c :: l, o, q, vs =>
    if c = 40 then wr l o (q ++ [o.length]) vs
    else if c = 41 then little 4 (CrcM.sum (o.drop (q.getLastD 0))).toNat ++ wr l (o ++ little 4 (CrcM.sum (o.drop (q.getLastD 0))).toNat) q.dropLast vs
    else lit c (vs.headD 0) ++ wr l (o ++ lit c (vs.headD 0)) q vs.tail
/-- each number fits its letter. -/
def allFit : List UInt8 → List Int → Prop
  | [], vs => vs = []
  | c :: l, vs => if c = 40 ∨ c = 41 then allFit l vs else match vs with
    | [] => False
    | v :: vs => (fitsB c v = true ∧ -9223372036854775808 ≤ v ∧ v ≤ 9223372036854775807) ∧ allFit l vs
/-- how many bytes. -/
def bytesOf_ : List UInt8 → Nat
  | [] => 0
  | c :: l => (if c = 40 then 0 else if c = 41 then 4 else wid c) + bytesOf_ l
theorem lit_length (c : UInt8) (v : Int) : (lit c v).length = wid c := little_length _ _
theorem wr_length : ∀ (l o : List UInt8) (q : List Nat) (vs : List Int), (wr l o q vs).length = bytesOf_ l
  | [], o, q, vs => rfl
  | c :: l, o, q, vs => by
    unfold wr bytesOf_
    by_cases h40 : c = 40
    · rw [if_pos h40, if_pos h40, wr_length l, Nat.zero_add]
    · rw [if_neg h40, if_neg h40]
      by_cases h41 : c = 41
      · rw [if_pos h41, if_pos h41, List.length_append, little_length, wr_length l]
      · rw [if_neg h41, if_neg h41, List.length_append, lit_length, wr_length l]
theorem bytes_le : ∀ l : List UInt8, bytesOf_ l ≤ 8 * l.length
  | [] => Nat.le_refl _
  | c :: l => by
    have h := bytes_le l
    have hw := (wid_bd c).2
    unfold bytesOf_
    rw [List.length_cons]
    split
    · omega
    · split <;> omega
theorem pow_wid (c : UInt8) : 256 ^ wid c = if c = 98 then 256 else if c = 104 then 65536 else if c = 119 then 4294967296 else 18446744073709551616 := by
  unfold wid
  split
  · rfl
  · split
    · rfl
    · split <;> rfl
/-- a number that fits comes back. -/
theorem worth_lit {c : UInt8} {v : Int} (hf : fitsB c v = true) (hv : -9223372036854775808 ≤ v ∧ v ≤ 9223372036854775807) : wrap64 ((worth (lit c v) : Nat) : Int) = v := by
  unfold lit
  rw [worth_little, pow_wid]
  unfold fitsB at hf
  by_cases h1 : c = 98
  · rw [if_pos h1] at hf ⊢
    simp at hf
    unfold wrap64; omega
  · rw [if_neg h1] at hf ⊢
    by_cases h2 : c = 104
    · rw [if_pos h2] at hf ⊢
      simp at hf
      unfold wrap64; omega
    · rw [if_neg h2] at hf ⊢
      by_cases h3 : c = 119
      · rw [if_pos h3] at hf ⊢
        simp at hf
        unfold wrap64; omega
      · rw [if_neg h3] at hf ⊢
        unfold wrap64; omega
/-- what Pack does. -/
theorem pk_run : ∀ (l o : List UInt8) (q : List Nat) (vs : List Int), bal q.length l → allFit l vs → o.length + 8 * l.length ≤ 1048576 → run pstep l (ws o q, vs) = .ok (ws (o ++ wr l o q vs) [], [])
  | [], o, q, vs, hb, hf, hr => by
    have hq : q = [] := List.length_eq_zero_iff.1 hb
    have hv : vs = [] := hf
    subst hq hv
    show Except.ok _ = Except.ok (ws (o ++ []) [], [])
    rw [List.append_nil]
  | c :: l, o, q, vs, hb, hf, hr => by
    rw [List.length_cons] at hr
    unfold bal at hb
    unfold allFit at hf
    unfold wr
    by_cases h40 : c = 40
    · rw [if_pos h40] at hb ⊢
      rw [if_pos (.inl h40)] at hf
      have hs : pstep c (ws o q, vs) = .ok (ws o (q ++ [o.length]), vs) := by
        rw [h40]
        show Except.ok ((ws o q).open_, vs) = _
        unfold WS.open_
        rw [if_pos (show (ws o q).err = 0 from rfl), if_neg (show ¬ (ws o q).opn.length = 4 from by show ¬ q.length = 4; omega)]
        rfl
      rw [run_cons_ok pstep hs]
      exact pk_run l o (q ++ [o.length]) vs (by rw [List.length_append]; exact hb.2) hf (by omega)
    · rw [if_neg h40] at hb ⊢
      by_cases h41 : c = 41
      · rw [if_pos h41] at hb ⊢
        rw [if_pos (.inr h41)] at hf
        have hs : pstep c (ws o q, vs) = .ok (ws (o ++ little 4 (CrcM.sum (o.drop (q.getLastD 0))).toNat) q.dropLast, vs) := by
          rw [h41]
          show Except.ok ((ws o q).seal, vs) = _
          unfold WS.seal
          rw [if_pos (show (ws o q).err = 0 from rfl), if_neg (show ¬ (ws o q).opn = [] from by show ¬ q = []; intro e; rw [e] at hb; exact absurd hb.1 (Nat.lt_irrefl 0)), if_pos (show (ws o q).out.length + 4 ≤ (ws o q).lim from by show o.length + 4 ≤ 1048576; omega)]
          rfl
        rw [run_cons_ok pstep hs, pk_run l _ q.dropLast vs (by rw [List.length_dropLast]; exact hb.2) hf (by rw [List.length_append, little_length]; omega), List.append_assoc]
      · rw [if_neg h41] at hb ⊢
        rw [if_neg (by rintro (h | h); exact h40 h; exact h41 h)] at hf
        cases vs with
        | nil => exact hf.elim
        | cons v vs =>
          have hw := wid_bd c
          have hpc := putc_fit (s := ws o q) rfl (by show o.length + 8 ≤ 1048576; omega) hf.1.1
          have hs : pstep c (ws o q, v :: vs) = .ok (ws (o ++ lit c v) q, vs) := by
            unfold pstep
            rw [if_neg h40, if_neg h41]
            show (if (putc c (ws o q) v).err = 0 then Except.ok (putc c (ws o q) v, vs) else Except.error (putc c (ws o q) v).err) = _
            rw [hpc, if_pos (show ((ws o q).with_ _).err = 0 from rfl)]
            rfl
          rw [run_cons_ok pstep hs, pk_run l _ q vs hb hf.2 (by rw [List.length_append, lit_length]; omega), List.append_assoc]
          rfl
theorem next_at (o p x : List UInt8) (k : Nat) (hk : p.length = k) : (⟨o ++ (p ++ x), o.length, 0⟩ : RS).next k = p := by
  unfold RS.next
  show ((o ++ (p ++ x)).drop o.length).take k = p
  rw [List.drop_append_of_le_length (Nat.le_refl _), List.drop_length, List.nil_append, List.take_append_of_le_length (by omega), List.take_of_length_le (by omega)]
theorem has_at (o p x : List UInt8) (k : Nat) (hk : p.length = k) : (⟨o ++ (p ++ x), o.length, 0⟩ : RS).hasB (k : Int) = true := by
  unfold RS.hasB RS.left
  exact decide_eq_true ⟨rfl, by omega, by
    show (k : Int) ≤ (((o ++ (p ++ x)).length - o.length : Nat) : Int)
    rw [List.length_append, List.length_append]
    omega⟩
/-- marks of the writer and the reader. -/
theorem last_rev (q : List Nat) (h : 0 < q.length) : q.reverse = q.getLastD 0 :: q.dropLast.reverse := by
  rcases List.eq_nil_or_concat q with hq | ⟨q1, p, hq⟩
  · rw [hq] at h; exact absurd h (Nat.lt_irrefl 0)
  · rw [List.concat_eq_append] at hq
    subst hq
    rw [List.getLastD_concat, List.dropLast_concat, List.reverse_append]
    rfl
theorem mark_le (q : List Nat) (o : List UInt8) (hq : ∀ x ∈ q, x ≤ o.length) : q.getLastD 0 ≤ o.length := by
  rcases List.eq_nil_or_concat q with h | ⟨q1, p, h⟩
  · rw [h]; exact Nat.zero_le _
  · rw [List.concat_eq_append] at h
    subst h
    rw [List.getLastD_concat]
    exact hq p (by simp)
/-- what Unpack does of what Pack wrote, and more behind it. -/
theorem un_run : ∀ (l o : List UInt8) (q : List Nat) (vs us : List Int) (x : List UInt8), bal q.length l → allFit l vs → (∀ m ∈ q, m ≤ o.length) →
    run ustep l ((⟨o ++ (wr l o q vs ++ x), o.length, 0⟩, us), q.reverse) = .ok ((⟨o ++ (wr l o q vs ++ x), o.length + bytesOf_ l, 0⟩, us ++ vs), [])
  | [], o, q, vs, us, x, hb, hf, hq => by
    have hq : q = [] := List.length_eq_zero_iff.1 hb
    have hv : vs = [] := hf
    subst hq hv
    show Except.ok _ = Except.ok ((_, us ++ []), [])
    rw [List.append_nil]
    rfl
  | c :: l, o, q, vs, us, x, hb, hf, hq => by
    unfold bal at hb
    unfold allFit at hf
    unfold wr bytesOf_
    by_cases h40 : c = 40
    · rw [if_pos h40] at hb
      rw [if_pos h40, if_pos h40]
      rw [if_pos (.inl h40)] at hf
      rw [h40, run_cons_ok ustep (ustep40 _ _), Nat.zero_add]
      have h := un_run l o (q ++ [o.length]) vs us x (by rw [List.length_append]; exact hb.2) hf (fun m hm => by
        rcases List.mem_append.1 hm with h | h
        · exact hq m h
        · have : m = o.length := by simpa using h
          omega)
      rw [List.reverse_append] at h
      exact h
    · rw [if_neg h40] at hb
      rw [if_neg h40, if_neg h40]
      by_cases h41 : c = 41
      · rw [if_pos h41] at hb
        rw [if_pos h41, if_pos h41]
        rw [if_pos (.inr h41)] at hf
        have hle := mark_le q o hq
        obtain ⟨p, hp⟩ : ∃ p, p = little 4 (CrcM.sum (o.drop (q.getLastD 0))).toNat := ⟨_, rfl⟩
        have hpl : p.length = 4 := by rw [hp, little_length]
        rw [← hp]
        obtain ⟨r, hr⟩ : ∃ r, r = wr l (o ++ p) q.dropLast vs := ⟨_, rfl⟩
        have hih := un_run l (o ++ p) q.dropLast vs us x (by rw [List.length_dropLast]; exact hb.2) hf (fun m hm => by
          have := hq m ((List.dropLast_sublist q).subset hm)
          rw [List.length_append]; omega)
        rw [← hr] at hih ⊢
        have e1 : o ++ p ++ (r ++ x) = o ++ (p ++ r ++ x) := by simp only [List.append_assoc]
        rw [e1] at hih
        rw [last_rev q hb.1, h41]
        have hin : (⟨o ++ (p ++ r ++ x), o.length, 0⟩ : RS) = ⟨o ++ (p ++ (r ++ x)), o.length, 0⟩ := by rw [List.append_assoc p]
        have hck : (⟨o ++ (p ++ r ++ x), o.length, 0⟩ : RS).checkS (q.getLastD 0) = ⟨o ++ (p ++ r ++ x), o.length + 4, 0⟩ := by
          have hh := has_at o p (r ++ x) 4 hpl
          have hn := next_at o p (r ++ x) 4 hpl
          rw [hin]
          unfold RS.checkS
          rw [show (⟨o ++ (p ++ (r ++ x)), o.length, 0⟩ : RS).hasB 4 = true from hh, if_pos rfl, hn]
          have e2 : ((o ++ (p ++ (r ++ x))).take o.length).drop (q.getLastD 0) = o.drop (q.getLastD 0) := by
            rw [List.take_append_of_le_length (Nat.le_refl _), List.take_length]
          have hlt := (CrcM.sum (o.drop (q.getLastD 0))).isLt
          rw [if_pos (by
            show worth p = (CrcM.sum (((o ++ (p ++ (r ++ x))).take o.length).drop (q.getLastD 0))).toNat
            rw [e2, hp, worth_little]
            exact Nat.mod_eq_of_lt (by show _ < 256 ^ 4; omega))]
          show (⟨o ++ (p ++ (r ++ x)), o.length + 4, 0⟩ : RS) = _
          rw [List.append_assoc p]
        have hs : ustep 41 ((⟨o ++ (p ++ r ++ x), o.length, 0⟩, us), q.getLastD 0 :: q.dropLast.reverse) = .ok ((⟨o ++ (p ++ r ++ x), o.length + 4, 0⟩, us), q.dropLast.reverse) := by
          rw [ustep41, ushut_ok (z := (⟨o ++ (p ++ r ++ x), o.length, 0⟩, us)) (by show ((⟨o ++ (p ++ r ++ x), o.length, 0⟩ : RS).checkS _).err = 0; rw [hck])]
          show Except.ok (((⟨o ++ (p ++ r ++ x), o.length, 0⟩ : RS).checkS _, us), _) = _
          rw [hck]
        rw [run_cons_ok ustep hs]
        rw [List.length_append, hpl] at hih
        rw [hih, Nat.add_assoc]
      · rw [if_neg h41] at hb
        rw [if_neg h41, if_neg h41]
        rw [if_neg (by rintro (h | h); exact h40 h; exact h41 h)] at hf
        cases vs with
        | nil => exact hf.elim
        | cons v vs =>
          simp only at hf
          show run ustep (c :: l) ((⟨o ++ (lit c v ++ wr l (o ++ lit c v) q vs ++ x), o.length, 0⟩, us), q.reverse) = .ok ((⟨o ++ (lit c v ++ wr l (o ++ lit c v) q vs ++ x), o.length + (wid c + bytesOf_ l), 0⟩, us ++ v :: vs), [])
          obtain ⟨p, hp⟩ : ∃ p, p = lit c v := ⟨_, rfl⟩
          have hpl : p.length = wid c := by rw [hp, lit_length]
          rw [← hp]
          obtain ⟨r, hr⟩ : ∃ r, r = wr l (o ++ p) q vs := ⟨_, rfl⟩
          have hih := un_run l (o ++ p) q vs (us ++ [v]) x hb hf.2 (fun m hm => by
            have := hq m hm
            rw [List.length_append]; omega)
          rw [← hr] at hih ⊢
          have e1 : o ++ p ++ (r ++ x) = o ++ (p ++ r ++ x) := by simp only [List.append_assoc]
          rw [e1] at hih
          have hin : (⟨o ++ (p ++ r ++ x), o.length, 0⟩ : RS) = ⟨o ++ (p ++ (r ++ x)), o.length, 0⟩ := by rw [List.append_assoc p]
          have hh := has_at o p (r ++ x) (wid c) hpl
          have hn := next_at o p (r ++ x) (wid c) hpl
          rw [← hin] at hh hn
          have ht : (⟨o ++ (p ++ r ++ x), o.length, 0⟩ : RS).takeS (wid c) = ⟨o ++ (p ++ r ++ x), o.length + wid c, 0⟩ := by unfold RS.takeS; rw [hh, if_pos rfl]; rfl
          have htv : (⟨o ++ (p ++ r ++ x), o.length, 0⟩ : RS).takeV (wid c) = worth p := by unfold RS.takeV; rw [hh, if_pos rfl, hn]
          have hs : ustep c ((⟨o ++ (p ++ r ++ x), o.length, 0⟩, us), q.reverse) = .ok ((⟨o ++ (p ++ r ++ x), o.length + wid c, 0⟩, us ++ [v]), q.reverse) := by
            rw [ustepl c _ _ h40 h41, ulet_ok (z := (⟨o ++ (p ++ r ++ x), o.length, 0⟩, us)) (by show ((⟨o ++ (p ++ r ++ x), o.length, 0⟩ : RS).takeS (wid c)).err = 0; rw [ht])]
            show Except.ok (((⟨o ++ (p ++ r ++ x), o.length, 0⟩ : RS).takeS (wid c), us ++ [wrap64 (((⟨o ++ (p ++ r ++ x), o.length, 0⟩ : RS).takeV (wid c) : Nat) : Int)]), _) = _
            rw [ht, htv, hp, worth_lit hf.1.1 hf.1.2]
          rw [run_cons_ok ustep hs]
          rw [List.length_append, hpl] at hih
          rw [hih, Nat.add_assoc, List.append_assoc us]
          rfl
theorem drop_last_app (a b : List UInt8) (h : b ≠ []) : (a ++ b).dropLast = a ++ b.dropLast := List.dropLast_append_of_ne_nil h
/-- a byte less is short. -/
theorem un_short : ∀ (l o : List UInt8) (q : List Nat) (vs us : List Int), bal q.length l → allFit l vs → (∀ m ∈ q, m ≤ o.length) → 0 < bytesOf_ l →
    run ustep l ((⟨o ++ (wr l o q vs).dropLast, o.length, 0⟩, us), q.reverse) = .error 20
  | [], o, q, vs, us, hb, hf, hq, h0 => absurd h0 (Nat.lt_irrefl 0)
  | c :: l, o, q, vs, us, hb, hf, hq, h0 => by
    have short : ∀ (p : List UInt8) (k : Nat), p.length = k → 0 < k → (⟨o ++ p.dropLast, o.length, 0⟩ : RS).hasB (k : Int) = false ∧ (⟨o ++ p.dropLast, o.length, 0⟩ : RS).hasS (k : Int) = ⟨o ++ p.dropLast, o.length, 20⟩ := by
      intro p k hk h1
      have hl : (⟨o ++ p.dropLast, o.length, 0⟩ : RS).left = k - 1 := by
        unfold RS.left
        show (o ++ p.dropLast).length - o.length = k - 1
        rw [List.length_append, List.length_dropLast]; omega
      refine ⟨?_, ?_⟩
      · unfold RS.hasB
        rw [hl]
        simp; omega
      · unfold RS.hasS
        rw [hl, if_pos (show (⟨o ++ p.dropLast, o.length, 0⟩ : RS).err = 0 from rfl), if_neg (by omega), if_pos (by omega)]
        rfl
    unfold bal at hb
    unfold allFit at hf
    unfold bytesOf_ at h0
    unfold wr
    by_cases h40 : c = 40
    · rw [if_pos h40] at hb h0 ⊢
      rw [if_pos (.inl h40)] at hf
      rw [h40, run_cons_ok ustep (ustep40 _ _)]
      have h := un_short l o (q ++ [o.length]) vs us (by rw [List.length_append]; exact hb.2) hf (fun m hm => by
        rcases List.mem_append.1 hm with h | h
        · exact hq m h
        · have : m = o.length := by simpa using h
          omega) (by omega)
      rw [List.reverse_append] at h
      exact h
    · rw [if_neg h40] at hb h0 ⊢
      by_cases h41 : c = 41
      · rw [if_pos h41] at hb h0 ⊢
        rw [if_pos (.inr h41)] at hf
        have hle := mark_le q o hq
        obtain ⟨p, hp⟩ : ∃ p, p = little 4 (CrcM.sum (o.drop (q.getLastD 0))).toNat := ⟨_, rfl⟩
        have hpl : p.length = 4 := by rw [hp, little_length]
        rw [← hp, last_rev q hb.1, h41]
        obtain ⟨r, hr⟩ : ∃ r, r = wr l (o ++ p) q.dropLast vs := ⟨_, rfl⟩
        have hrl : r.length = bytesOf_ l := by rw [hr, wr_length]
        by_cases hz : bytesOf_ l = 0
        · have hrn : r = [] := List.length_eq_zero_iff.1 (by omega)
          rw [← hr, hrn, List.append_nil]
          obtain ⟨hb1, hs1⟩ := short p 4 hpl (by decide)
          have hck : (⟨o ++ p.dropLast, o.length, 0⟩ : RS).checkS (q.getLastD 0) = ⟨o ++ p.dropLast, o.length, 20⟩ := by
            unfold RS.checkS
            rw [show (⟨o ++ p.dropLast, o.length, 0⟩ : RS).hasB 4 = false from hb1, if_neg Bool.false_ne_true]
            exact hs1
          refine run_cons_error ustep ?_
          rw [ustep41, ushut_error (z := (⟨o ++ p.dropLast, o.length, 0⟩, us)) (by show ¬ ((⟨o ++ p.dropLast, o.length, 0⟩ : RS).checkS _).err = 0; rw [hck]; show ¬ (20 : Int) = 0; decide)]
          show Except.error ((⟨o ++ p.dropLast, o.length, 0⟩ : RS).checkS _).err = _
          rw [hck]
        · have hih := un_short l (o ++ p) q.dropLast vs us (by rw [List.length_dropLast]; exact hb.2) hf (fun m hm => by
            have := hq m ((List.dropLast_sublist q).subset hm)
            rw [List.length_append]; omega) (by omega)
          rw [← hr] at hih ⊢
          have hrne : r ≠ [] := by intro e; rw [e] at hrl; exact hz hrl.symm
          rw [drop_last_app p r hrne]
          have e1 : o ++ p ++ r.dropLast = o ++ (p ++ r.dropLast) := List.append_assoc _ _ _
          rw [e1] at hih
          have hh := has_at o p r.dropLast 4 hpl
          have hn := next_at o p r.dropLast 4 hpl
          have hck : (⟨o ++ (p ++ r.dropLast), o.length, 0⟩ : RS).checkS (q.getLastD 0) = ⟨o ++ (p ++ r.dropLast), o.length + 4, 0⟩ := by
            unfold RS.checkS
            rw [show (⟨o ++ (p ++ r.dropLast), o.length, 0⟩ : RS).hasB 4 = true from hh, if_pos rfl, hn]
            have e2 : ((o ++ (p ++ r.dropLast)).take o.length).drop (q.getLastD 0) = o.drop (q.getLastD 0) := by
              rw [List.take_append_of_le_length (Nat.le_refl _), List.take_length]
            have hlt := (CrcM.sum (o.drop (q.getLastD 0))).isLt
            rw [if_pos (by
              show worth p = (CrcM.sum (((o ++ (p ++ r.dropLast)).take o.length).drop (q.getLastD 0))).toNat
              rw [e2, hp, worth_little]
              exact Nat.mod_eq_of_lt (by show _ < 256 ^ 4; omega))]
            rfl
          have hs : ustep 41 ((⟨o ++ (p ++ r.dropLast), o.length, 0⟩, us), q.getLastD 0 :: q.dropLast.reverse) = .ok ((⟨o ++ (p ++ r.dropLast), o.length + 4, 0⟩, us), q.dropLast.reverse) := by
            rw [ustep41, ushut_ok (z := (⟨o ++ (p ++ r.dropLast), o.length, 0⟩, us)) (by show ((⟨o ++ (p ++ r.dropLast), o.length, 0⟩ : RS).checkS _).err = 0; rw [hck])]
            show Except.ok (((⟨o ++ (p ++ r.dropLast), o.length, 0⟩ : RS).checkS _, us), _) = _
            rw [hck]
          rw [run_cons_ok ustep hs]
          rw [List.length_append, hpl] at hih
          exact hih
      · rw [if_neg h41] at hb h0 ⊢
        rw [if_neg (by rintro (h | h); exact h40 h; exact h41 h)] at hf
        cases vs with
        | nil => exact hf.elim
        | cons v vs =>
          simp only at hf
          show run ustep (c :: l) ((⟨o ++ (lit c v ++ wr l (o ++ lit c v) q vs).dropLast, o.length, 0⟩, us), q.reverse) = .error 20
          obtain ⟨p, hp⟩ : ∃ p, p = lit c v := ⟨_, rfl⟩
          have hpl : p.length = wid c := by rw [hp, lit_length]
          have hwd := wid_bd c
          rw [← hp]
          obtain ⟨r, hr⟩ : ∃ r, r = wr l (o ++ p) q vs := ⟨_, rfl⟩
          have hrl : r.length = bytesOf_ l := by rw [hr, wr_length]
          rw [← hr]
          by_cases hz : bytesOf_ l = 0
          · have hrn : r = [] := List.length_eq_zero_iff.1 (by omega)
            rw [hrn, List.append_nil]
            obtain ⟨hb1, hs1⟩ := short p (wid c) hpl (by omega)
            have ht : (⟨o ++ p.dropLast, o.length, 0⟩ : RS).takeS (wid c) = ⟨o ++ p.dropLast, o.length, 20⟩ := by
              unfold RS.takeS
              rw [hb1, if_neg Bool.false_ne_true]
              exact hs1
            refine run_cons_error ustep ?_
            rw [ustepl c _ _ h40 h41, ulet_error (z := (⟨o ++ p.dropLast, o.length, 0⟩, us)) (by show ¬ ((⟨o ++ p.dropLast, o.length, 0⟩ : RS).takeS (wid c)).err = 0; rw [ht]; show ¬ (20 : Int) = 0; decide)]
            show Except.error ((⟨o ++ p.dropLast, o.length, 0⟩ : RS).takeS (wid c)).err = _
            rw [ht]
          · have hih := un_short l (o ++ p) q vs (us ++ [v]) hb hf.2 (fun m hm => by
              have := hq m hm
              rw [List.length_append]; omega) (by omega)
            rw [← hr] at hih
            have hrne : r ≠ [] := by intro e; rw [e] at hrl; exact hz hrl.symm
            rw [drop_last_app p r hrne]
            have e1 : o ++ p ++ r.dropLast = o ++ (p ++ r.dropLast) := List.append_assoc _ _ _
            rw [e1] at hih
            have hh := has_at o p r.dropLast (wid c) hpl
            have hn := next_at o p r.dropLast (wid c) hpl
            have ht : (⟨o ++ (p ++ r.dropLast), o.length, 0⟩ : RS).takeS (wid c) = ⟨o ++ (p ++ r.dropLast), o.length + wid c, 0⟩ := by unfold RS.takeS; rw [hh, if_pos rfl]; rfl
            have htv : (⟨o ++ (p ++ r.dropLast), o.length, 0⟩ : RS).takeV (wid c) = worth p := by unfold RS.takeV; rw [hh, if_pos rfl, hn]
            have hs : ustep c ((⟨o ++ (p ++ r.dropLast), o.length, 0⟩, us), q.reverse) = .ok ((⟨o ++ (p ++ r.dropLast), o.length + wid c, 0⟩, us ++ [v]), q.reverse) := by
              rw [ustepl c _ _ h40 h41, ulet_ok (z := (⟨o ++ (p ++ r.dropLast), o.length, 0⟩, us)) (by show ((⟨o ++ (p ++ r.dropLast), o.length, 0⟩ : RS).takeS (wid c)).err = 0; rw [ht])]
              show Except.ok (((⟨o ++ (p ++ r.dropLast), o.length, 0⟩ : RS).takeS (wid c), us ++ [wrap64 (((⟨o ++ (p ++ r.dropLast), o.length, 0⟩ : RS).takeV (wid c) : Nat) : Int)]), _) = _
              rw [ht, htv, hp, worth_lit hf.1.1 hf.1.2]
            rw [run_cons_ok ustep hs]
            rw [List.length_append, hpl] at hih
            exact hih
end Go.Proofs.Ytdmliaodacaefaa.Shape
/- The plan of a shape: a text of letters and brackets that meet, its kinds, its bytes; the text is a shape. No walk in sight. -/
namespace Go.Proofs.Ytdmliaodacaefaa.Shape
open Go.RowKit Go.Proofs.YtdmliaodacaefaaW.PrintWords Go.Proofs.YtdmliaodacaefaaW.PrintMore Go.Proofs.Ytdmliaodacaefaa.PWire Go.Proofs.Ytdmliaodacaefaa.Bridge
set_option linter.unusedVariables false
set_option linter.unusedSimpArgs false
/-- a text without digits whose brackets meet is a shape, and its own writing out. -/
theorem par_plain {t : List UInt8} (hc : ∀ c ∈ t, isLetter c = true ∨ c = 40 ∨ c = 41) : ∀ (n i d : Nat), t.length - i < n → i ≤ t.length → d ≤ 4 → bal d (t.drop i) →
    ∃ us j, par t i d = some (us, j) ∧ i ≤ j ∧ j ≤ t.length ∧ flatL us = (t.drop i).take (j - i) ∧ ((d = 0 ∧ j = t.length) ∨ (0 < d ∧ j < t.length ∧ bal (d - 1) (t.drop (j + 1))))
  | 0, i, d, hn, hi, hd, hb => by omega
  | n + 1, i, d, hn, hi, hd, hb => by
    by_cases hlt : i < t.length
    · have hdr : t.drop i = t[i] :: t.drop (i + 1) := List.drop_eq_getElem_cons hlt
      have hci := hc t[i] (List.getElem_mem hlt)
      have hnd : ¬ isDigit t[i] = true := by
        intro h
        unfold isDigit at h
        simp only [decide_eq_true_eq] at h
        rcases hci with h2 | h2 | h2
        · unfold isLetter at h2
          simp only [Bool.or_eq_true, beq_iff_eq] at h2
          rcases h2 with ((h2 | h2) | h2) | h2 <;> (rw [h2] at h; revert h; decide)
        · rw [h2] at h; revert h; decide
        · rw [h2] at h; revert h; decide
      have hle : let_ t[i] i = i := by unfold let_; rw [if_neg hnd]
      have hti : tim t[i] = 1 := by unfold tim; rw [if_neg hnd]
      rw [hdr] at hb
      unfold bal at hb
      by_cases h41 : t[i] = 41
      · rw [if_neg (by rw [h41]; decide), if_pos h41] at hb
        exact ⟨[], i, par_close hlt h41, Nat.le_refl _, hi, by rw [Nat.sub_self]; rfl, .inr ⟨hb.1, hlt, hb.2⟩⟩
      · by_cases h40 : t[i] = 40
        · rw [if_pos h40] at hb
          obtain ⟨g, j, h1, h2, h3, h4, h5⟩ := par_plain hc n (i + 1) (d + 1) (by omega) (by omega) (by omega) hb.2
          rcases h5 with ⟨h5, _⟩ | ⟨_, hj, hb3⟩
          · omega
          · rw [Nat.add_sub_cancel] at hb3
            obtain ⟨us, j2, g1, g2, g3, g4, g5⟩ := par_plain hc n (j + 1) d (by omega) (by omega) hd hb3
            have hpo := par_open (t := t) (i := i) (d := d) hlt h41 (by rw [hle]; exact hlt) (by simp only [hle]; exact h40) (by omega)
            rw [hle, hti, h1] at hpo
            simp only at hpo
            rw [if_pos hj, g1] at hpo
            refine ⟨.mk 40 1 g :: us, j2, hpo, by omega, g3, ?_, g5⟩
            have hj41 : t[j]? = some 41 := (par_le h1 (by omega)).2.2 hj
            have e1 : flatL (.mk 40 1 g :: us) = 40 :: (flatL g ++ [41]) ++ flatL us := by
              show many 1 40 g ++ flatL us = _
              rw [many_succ, many_zero, List.append_nil, once_group]
            rw [e1, h4, g4, hdr, h40]
            have e2 : j2 - i = 1 + (j - (i + 1)) + 1 + (j2 - (j + 1)) := by omega
            have e3 : t.drop (i + 1) = (t.drop (i + 1)).take (j - (i + 1)) ++ (41 :: t.drop (j + 1)) := by
              have h6 : (t.drop (i + 1)).drop (j - (i + 1)) = 41 :: t.drop (j + 1) := by
                rw [List.drop_drop, show i + 1 + (j - (i + 1)) = j by omega, List.drop_eq_getElem_cons hj]
                rw [List.getElem?_eq_getElem hj] at hj41
                rw [Option.some.inj hj41]
              rw [← h6, List.take_append_drop]
            have hlen : ((t.drop (i + 1)).take (j - (i + 1))).length = j - (i + 1) := by rw [List.length_take, List.length_drop]; omega
            obtain ⟨m, hm⟩ : ∃ m, m = (t.drop (i + 1)).take (j - (i + 1)) := ⟨_, rfl⟩
            rw [← hm] at e3 hlen ⊢
            rw [e3, show j2 - i = (m.length + (1 + (j2 - (j + 1)))) + 1 by omega, List.take_succ_cons, List.take_length_add_append, show 1 + (j2 - (j + 1)) = (j2 - (j + 1)) + 1 by omega, List.take_succ_cons]
            simp
        · rw [if_neg h40, if_neg h41] at hb
          have hl : isLetter t[i] = true := by
            rcases hci with h | h | h
            · exact h
            · exact absurd h h40
            · exact absurd h h41
          obtain ⟨us, j, h1, h2, h3, h4, h5⟩ := par_plain hc n (i + 1) d (by omega) (by omega) hd hb
          have hpl := par_letter (t := t) (i := i) (d := d) hlt h41 (by rw [hle]; exact hlt) (by simp only [hle]; exact hl)
          simp only [hle, hti, h1] at hpl
          refine ⟨.mk t[i] 1 [] :: us, j, hpl, by omega, h3, ?_, h5⟩
          have e1 : flatL (.mk t[i] 1 [] :: us) = t[i] :: flatL us := by
            show many 1 t[i] [] ++ flatL us = _
            rw [many_succ, many_zero, List.append_nil, once_letter h40]
            rfl
          rw [e1, h4, hdr, show j - i = (j - (i + 1)) + 1 by omega, List.take_succ_cons]
    · have e : t.drop i = [] := List.drop_of_length_le (by omega)
      rw [e] at hb ⊢
      have hd0 : d = 0 := hb
      exact ⟨[], i, par_end hlt, Nat.le_refl _, hi, by rw [Nat.sub_self]; rfl, .inl ⟨hd0, by omega⟩⟩
theorem signs_le (l : List UInt8) : signs l ≤ l.length := List.length_filter_le _ _
theorem whole_plain {t : List UInt8} (hc : ∀ c ∈ t, isLetter c = true ∨ c = 40 ∨ c = 41) (hb : bal 0 t) (hl : t.length ≤ 64) : ∃ us, whole t = some us ∧ flatL us = t := by
  obtain ⟨us, j, h1, h2, h3, h4, h5⟩ := par_plain hc (t.length + 1) 0 0 (by omega) (Nat.zero_le _) (by omega) hb
  rcases h5 with ⟨_, h5⟩ | ⟨h5, _⟩
  · have hf : flatL us = t := by rw [h4, h5, Nat.sub_zero, List.drop_zero, List.take_length]
    have hg := par_good (t.length + 1) 0 0 us j (by omega) (Nat.zero_le _) (by omega) h1
    have hcnt := count_flatL us hg.fine
    refine ⟨us, ?_, hf⟩
    unfold whole
    rw [if_pos hl, h1]
    simp only
    rw [if_neg (by omega), if_neg (by rw [hcnt, hf]; have := signs_le t; show ¬ 256 < signs t; omega)]
  · omega
/-- a plan. -/
structure PS where
  t : List UInt8
  ks : List Nat
  n : Nat
  deep : Nat
def letterOf (k : Nat) : UInt8 := if k = 0 then 98 else if k = 1 then 104 else if k = 2 then 119 else 108
def kOf (u : Int) : Nat := (u.tmod 6).natAbs
def pl (u : Int) (x : PS) : PS :=
  if kOf u < 4 then ⟨x.t ++ [letterOf (kOf u)], x.ks ++ [kOf u + 1], x.n + 2 ^ kOf u, x.deep⟩
  else if kOf u = 4 ∧ x.deep < 3 then ⟨x.t ++ [40], x.ks, x.n, x.deep + 1⟩
  else if kOf u = 5 ∧ 0 < x.deep then ⟨x.t ++ [41], x.ks, x.n + 4, x.deep - 1⟩
  else x
/-- brackets that are open are shut. -/
def shutS : Nat → PS → PS
  | 0, x => x
  | n + 1, x => shutS n ⟨x.t ++ [41], x.ks, x.n + 4, x.deep - 1⟩
def planS (us : List Int) : PS := let x := (us.take 48).foldl (fun x u => pl u x) ⟨[], [], 0, 0⟩; shutS x.deep x
/-- kinds and letters. -/
def kfit : List UInt8 → List Nat → Prop
  | [], ks => ks = []
  | c :: l, ks => if c = 40 ∨ c = 41 then kfit l ks else match ks with
    | [] => False
    | k :: ks => (1 ≤ k ∧ k ≤ 4 ∧ c = letterOf (k - 1)) ∧ kfit l ks
theorem kfit_append : ∀ (a b : List UInt8) (ka kb : List Nat), kfit a ka → kfit b kb → kfit (a ++ b) (ka ++ kb)
  | [], b, ka, kb, ha, hb => by
    have e : ka = [] := ha
    subst e
    exact hb
  | c :: a, b, ka, kb, ha, hb => by
    unfold kfit at ha
    show kfit (c :: (a ++ b)) (ka ++ kb)
    unfold kfit
    by_cases h : c = 40 ∨ c = 41
    · rw [if_pos h] at ha ⊢
      exact kfit_append a b ka kb ha hb
    · rw [if_neg h] at ha ⊢
      cases ka with
      | nil => exact ha.elim
      | cons k ka => exact ⟨ha.1, kfit_append a b ka kb ha.2 hb⟩
theorem bytes_append (a b : List UInt8) : bytesOf_ (a ++ b) = bytesOf_ a + bytesOf_ b := by
  induction a with
  | nil => rw [List.nil_append]; show _ = 0 + _; omega
  | cons c a ih =>
    show (if c = 40 then 0 else if c = 41 then 4 else wid c) + bytesOf_ (a ++ b) = (if c = 40 then 0 else if c = 41 then 4 else wid c) + bytesOf_ a + bytesOf_ b
    rw [ih, Nat.add_assoc]
theorem letterOf_ok (k : Nat) (h : k < 4) : isLetter (letterOf k) = true ∧ ¬ letterOf k = 40 ∧ ¬ letterOf k = 41 ∧ wid (letterOf k) = 2 ^ k := by
  have : k = 0 ∨ k = 1 ∨ k = 2 ∨ k = 3 := by omega
  rcases this with rfl | rfl | rfl | rfl <;> decide
structure PS.Ok (x : PS) (m : Nat) : Prop where
  bal : ∀ l, Shape.bal x.deep l → Shape.bal 0 (x.t ++ l)
  deep : x.deep ≤ 3
  bytes : bytesOf_ x.t = x.n
  kinds : kfit x.t x.ks
  chars : ∀ c ∈ x.t, isLetter c = true ∨ c = 40 ∨ c = 41
  len : x.t.length ≤ m
  klen : x.ks.length ≤ m
theorem ok_start : PS.Ok ⟨[], [], 0, 0⟩ 0 := ⟨fun l h => h, Nat.zero_le _, rfl, rfl, fun c h => (by cases h), Nat.le_refl _, Nat.le_refl _⟩
theorem ok_push {x : PS} {m : Nat} (h : PS.Ok x m) (c : UInt8) (ka : List Nat) (n d : Nat) (hb : ∀ l, bal d l → bal x.deep (c :: l)) (hd : d ≤ 3) (hn : bytesOf_ [c] = n) (hk : kfit [c] ka) (hc : isLetter c = true ∨ c = 40 ∨ c = 41) (hkl : ka.length ≤ 1) : PS.Ok ⟨x.t ++ [c], x.ks ++ ka, x.n + n, d⟩ (m + 1) := by
  refine ⟨fun l hl => ?_, hd, ?_, kfit_append _ _ _ _ h.kinds hk, fun c2 hc2 => ?_, ?_, ?_⟩
  · show bal 0 (x.t ++ [c] ++ l)
    rw [List.append_assoc]
    exact h.bal _ (hb l hl)
  · show bytesOf_ (x.t ++ [c]) = x.n + n
    rw [bytes_append, h.bytes, hn]
  · rcases List.mem_append.1 hc2 with h2 | h2
    · exact h.chars c2 h2
    · have : c2 = c := by simpa using h2
      rw [this]; exact hc
  · show (x.t ++ [c]).length ≤ m + 1
    have := h.len
    rw [List.length_append]; simp; omega
  · show (x.ks ++ ka).length ≤ m + 1
    have := h.klen
    rw [List.length_append]; omega
theorem ok_mono {x : PS} {m k : Nat} (h : PS.Ok x m) (hk : m ≤ k) : PS.Ok x k := ⟨h.bal, h.deep, h.bytes, h.kinds, h.chars, Nat.le_trans h.len hk, Nat.le_trans h.klen hk⟩
theorem bal_letter {c : UInt8} (h40 : ¬ c = 40) (h41 : ¬ c = 41) (n : Nat) (l : List UInt8) (h : bal n l) : bal n (c :: l) := by unfold bal; rw [if_neg h40, if_neg h41]; exact h
theorem bal_open {n : Nat} {l : List UInt8} (hn : n < 4) (h : bal (n + 1) l) : bal n (40 :: l) := by unfold bal; rw [if_pos rfl]; exact ⟨hn, h⟩
theorem bal_shut {n : Nat} {l : List UInt8} (hn : 0 < n) (h : bal (n - 1) l) : bal n (41 :: l) := by unfold bal; rw [if_neg (by decide), if_pos rfl]; exact ⟨hn, h⟩
theorem ok_pl {x : PS} {m : Nat} (h : PS.Ok x m) (u : Int) : PS.Ok (pl u x) (m + 1) := by
  unfold pl
  split
  · rename_i hk
    have hl := letterOf_ok (kOf u) hk
    refine ok_push h (letterOf (kOf u)) [kOf u + 1] (2 ^ kOf u) x.deep (fun l hb => bal_letter hl.2.1 hl.2.2.1 _ _ hb) h.deep ?_ ?_ (.inl hl.1) (Nat.le_refl _)
    · show (if _ then 0 else if _ then 4 else wid _) + 0 = _
      rw [if_neg hl.2.1, if_neg hl.2.2.1, hl.2.2.2]; rfl
    · unfold kfit
      rw [if_neg (by rintro (e | e); exact hl.2.1 e; exact hl.2.2.1 e)]
      exact ⟨⟨by omega, by omega, by rw [Nat.add_sub_cancel]⟩, rfl⟩
  · split
    · rename_i hk
      have := ok_push h 40 [] 0 (x.deep + 1) (fun l hb => bal_open (by omega) hb) (by omega) rfl (by unfold kfit; rw [if_pos (.inl rfl)]; rfl) (.inr (.inl rfl)) (Nat.zero_le _)
      rwa [List.append_nil] at this
    · split
      · rename_i hk
        have := ok_push h 41 [] 4 (x.deep - 1) (fun l hb => bal_shut hk.2 hb) (by have := h.deep; omega) rfl (by unfold kfit; rw [if_pos (.inr rfl)]; rfl) (.inr (.inr rfl)) (Nat.zero_le _)
        rwa [List.append_nil] at this
      · exact ok_mono h (Nat.le_succ _)
theorem ok_shut : ∀ (d : Nat) (x : PS) (m : Nat), x.deep = d → PS.Ok x m → PS.Ok (shutS d x) (m + d) ∧ (shutS d x).deep = 0
  | 0, x, m, hd, h => ⟨h, hd⟩
  | d + 1, x, m, hd, h => by
    have h1 := ok_push h 41 [] 4 (x.deep - 1) (fun l hb => bal_shut (by omega) hb) (by have := h.deep; omega) rfl (by unfold kfit; rw [if_pos (.inr rfl)]; rfl) (.inr (.inr rfl)) (Nat.zero_le _)
    rw [List.append_nil] at h1
    have h2 := ok_shut d ⟨x.t ++ [41], x.ks, x.n + 4, x.deep - 1⟩ (m + 1) (by show x.deep - 1 = d; omega) h1
    rw [show m + 1 + d = m + (d + 1) by omega] at h2
    exact h2
theorem ok_fold : ∀ (us : List Int) (x : PS) (m : Nat), PS.Ok x m → PS.Ok (us.foldl (fun x u => pl u x) x) (m + us.length)
  | [], x, m, h => h
  | u :: us, x, m, h => by
    have := ok_fold us (pl u x) (m + 1) (ok_pl h u)
    rw [List.length_cons, show m + (us.length + 1) = m + 1 + us.length by omega]
    exact this
theorem plan_ok (us : List Int) : PS.Ok (planS us) 51 ∧ (planS us).deep = 0 := by
  have h1 := ok_fold (us.take 48) ⟨[], [], 0, 0⟩ 0 ok_start
  have h2 := ok_shut _ _ _ rfl h1
  have h3 := h1.deep
  have hl : (us.take 48).length ≤ 48 := List.length_take_le _ _
  exact ⟨ok_mono h2.1 (by omega), h2.2⟩
theorem plan_whole (us : List Int) : ∃ q, whole (planS us).t = some q ∧ flatL q = (planS us).t := by
  have h := plan_ok us
  have hb := h.1.bal [] (by rw [h.2]; rfl)
  rw [List.append_nil] at hb
  exact whole_plain h.1.chars hb (by have := h.1.len; omega)
theorem plan_bal (us : List Int) : bal 0 (planS us).t := by
  have h := plan_ok us
  have hb := h.1.bal [] (by rw [h.2]; rfl)
  rwa [List.append_nil] at hb
/-- kinds as whole numbers. -/
def kl (ks : List Nat) : List Int := ks.map fun k : Nat => (k : Int)
theorem kl_append (a b : List Nat) : kl (a ++ b) = kl a ++ kl b := by simp [kl]
theorem kl_length (a : List Nat) : (kl a).length = a.length := by simp [kl]
theorem kOf_le (u : Int) : kOf u ≤ 5 := by
  unfold kOf
  rw [Int.natAbs_tmod]
  exact Nat.le_of_lt_succ (Nat.mod_lt _ (by decide))
theorem shl_pow (k : Nat) (h : k < 4) : shl .i64 1 (k : Int) = ((2 ^ k : Nat) : Int) := by
  have : k = 0 ∨ k = 1 ∨ k = 2 ∨ k = 3 := by omega
  rcases this with rfl | rfl | rfl | rfl <;> decide
theorem bhwl (k : Nat) (h : k < 4) : bt (⟨#[98, 104, 119, 108]⟩ : ByteArray) (k : Int) = ((letterOf k).toNat : Int) := by
  have : k = 0 ∨ k = 1 ∨ k = 2 ∨ k = 3 := by omega
  rcases this with rfl | rfl | rfl | rfl <;> decide
/-- what a plan tells. -/
def told (x : PS) : ByteArray × List Int × Int := (strOfNums (bl x.t), kl x.ks, (x.n : Int))
theorem shut_ev : ∀ (d : Nat) (x : PS) (m : Nat), x.deep = d → x.t.length ≤ m → x.n ≤ 8 * m → m + d ≤ 100000 →
    Ev (fun k => amberlaw02_plan.l1 k (bl x.t) (kl x.ks) (x.n : Int) (x.deep : Int)) (told (shutS d x))
  | 0, x, m, hd, hl, hn, hm => by
    refine Ev.step (f := fun _ => some _) (fun k => ?_) (Ev.now _)
    simp only [amberlaw02_plan.l1]
    rw [if_neg (by omega)]
    rfl
  | d + 1, x, m, hd, hl, hn, hm => by
    have h := shut_ev d ⟨x.t ++ [41], x.ks, x.n + 4, x.deep - 1⟩ (m + 1) (by show x.deep - 1 = d; omega) (by show (x.t ++ [41]).length ≤ m + 1; rw [List.length_append]; simp; omega) (by show x.n + 4 ≤ 8 * (m + 1); omega) (by omega)
    refine Ev.step (fun k => ?_) h
    simp only [amberlaw02_plan.l1]
    rw [if_pos (by omega), if_pos (by rw [bl_length]; omega)]
    have e1 : wrap64 ((x.n : Int) + 4) = ((x.n + 4 : Nat) : Int) := by unfold wrap64; omega
    have e2 : wrap64 ((x.deep : Int) - 1) = ((x.deep - 1 : Nat) : Int) := by unfold wrap64; omega
    rw [e1, e2]
    show amberlaw02_plan.l1 k (bl x.t ++ [41]) _ _ _ = amberlaw02_plan.l1 k (bl (x.t ++ [41])) _ _ _
    rw [bl_append]
    rfl
theorem plan_loop (us : List Int) (hus : us.length ≤ 140737488351232) (n : Nat) : ∀ (i : Nat) (x : PS), i + n = (us.take 48).length → x.t.length ≤ i → x.ks.length ≤ i → x.n ≤ 8 * i → x.deep ≤ i →
    Ev (fun k => amberlaw02_plan.l0 k us (bl x.t) (kl x.ks) (x.n : Int) (x.deep : Int) (i : Int)) (told (let y := ((us.take 48).drop i).foldl (fun x u => pl u x) x; shutS y.deep y)) := by
  have htl : (us.take 48).length = min 48 us.length := List.length_take
  induction n with
  | zero =>
    intro i x hi h1 h2 h3 h4
    have e : (us.take 48).drop i = [] := List.drop_of_length_le (by omega)
    rw [e]
    have hs := shut_ev x.deep x i rfl h1 h3 (by omega)
    refine Ev.step (f := fun k => amberlaw02_plan.j1 k us (bl x.t) (kl x.ks) (x.n : Int) (x.deep : Int) (i : Int) false) (fun k => ?_) (Ev.step (fun k => ?_) hs)
    · simp only [amberlaw02_plan.l0]
      by_cases hl : (i : Int) < (us.length : Int)
      · rw [if_pos hl, decide_eq_false (by omega)]
      · rw [if_neg hl]
    · simp only [amberlaw02_plan.j1, Bool.false_eq_true, if_false]
  | succ n ih =>
    intro i x hi h1 h2 h3 h4
    have hlt : i < (us.take 48).length := by omega
    have hiu : i < us.length := by omega
    have hd : (us.take 48).drop i = us[i] :: (us.take 48).drop (i + 1) := by
      rw [List.drop_eq_getElem_cons hlt, List.getElem_take]
    rw [hd, List.foldl_cons]
    have hk5 := kOf_le us[i]
    have hrd : YtdmliaodacaefaaW.PrintWords.rd us (i : Int) = us[i] := by
      show us.getD ((i : Int)).toNat 0 = _
      rw [Int.toNat_natCast, List.getD_eq_getElem?_getD, List.getElem?_eq_getElem hiu]
      rfl
    have hsize : (pl us[i] x).t.length ≤ i + 1 ∧ (pl us[i] x).ks.length ≤ i + 1 ∧ (pl us[i] x).n ≤ 8 * (i + 1) ∧ (pl us[i] x).deep ≤ i + 1 := by
      unfold pl
      split
      · rename_i hk
        have hp : 2 ^ kOf us[i] ≤ 8 := Nat.le_trans (Nat.pow_le_pow_right (by decide) (show kOf us[i] ≤ 3 by omega)) (by decide)
        refine ⟨?_, ?_, ?_, ?_⟩
        · show (x.t ++ [_]).length ≤ i + 1
          rw [List.length_append]; simp; omega
        · show (x.ks ++ [_]).length ≤ i + 1
          rw [List.length_append]; simp; omega
        · show x.n + 2 ^ kOf us[i] ≤ 8 * (i + 1)
          omega
        · show x.deep ≤ i + 1
          omega
      · split
        · refine ⟨?_, by show x.ks.length ≤ i + 1; omega, by show x.n ≤ 8 * (i + 1); omega, by show x.deep + 1 ≤ i + 1; omega⟩
          show (x.t ++ [_]).length ≤ i + 1
          rw [List.length_append]; simp; omega
        · split
          · refine ⟨?_, by show x.ks.length ≤ i + 1; omega, by show x.n + 4 ≤ 8 * (i + 1); omega, by show x.deep - 1 ≤ i + 1; omega⟩
            show (x.t ++ [_]).length ≤ i + 1
            rw [List.length_append]; simp; omega
          · exact ⟨by omega, by omega, by omega, by omega⟩
    have hgo := ih (i + 1) (pl us[i] x) (by omega) hsize.1 hsize.2.1 hsize.2.2.1 hsize.2.2.2
    have w1 : ∀ u : Unit, wrap64 ((i : Int) + 1) = ((i + 1 : Nat) : Int) := fun _ => by unfold wrap64; omega
    have hj2 : Ev (fun k => amberlaw02_plan.j2 k us (bl x.t) (kl x.ks) (x.n : Int) (x.deep : Int) (i : Int) ((kOf us[i] : Nat) : Int)) (told (let y := ((us.take 48).drop (i + 1)).foldl (fun x u => pl u x) (pl us[i] x); shutS y.deep y)) := by
      by_cases hk : kOf us[i] < 4
      · have hpl : pl us[i] x = ⟨x.t ++ [letterOf (kOf us[i])], x.ks ++ [kOf us[i] + 1], x.n + 2 ^ kOf us[i], x.deep⟩ := by unfold pl; rw [if_pos hk]
        have hp : 2 ^ kOf us[i] ≤ 8 := Nat.le_trans (Nat.pow_le_pow_right (by decide) (show kOf us[i] ≤ 3 by omega)) (by decide)
        have e1 : ∀ u : Unit, wrap64 (((kOf us[i] : Nat) : Int) + 1) = ((kOf us[i] + 1 : Nat) : Int) := fun _ => by unfold wrap64; omega
        have e2 : ∀ p : Nat, p ≤ 8 → wrap64 ((x.n : Int) + (p : Int)) = ((x.n + p : Nat) : Int) := fun p hp => by unfold wrap64; omega
        have hsh := shl_pow _ hk
        have hbh := bhwl _ hk
        rw [hpl] at hgo ⊢
        refine Ev.step (fun k => ?_) hgo
        simp only [amberlaw02_plan.j2]
        rw [if_pos (show ((kOf us[i] : Nat) : Int) < 4 by exact Int.ofNat_lt.2 hk), if_pos (Int.natCast_nonneg _), if_pos (show (bl x.t).length < 140737488355328 by rw [bl_length]; clear hsh hbh; omega), if_pos (show (kl x.ks).length < 17592186044416 by rw [kl_length]; clear hsh hbh; omega), hbh, hsh, e1 (), e2 _ hp, w1 ()]
        rw [bl_append, kl_append]
        rfl
      · by_cases hk4 : kOf us[i] = 4
        · by_cases hdp : x.deep < 3
          · have hpl : pl us[i] x = ⟨x.t ++ [40], x.ks, x.n, x.deep + 1⟩ := by unfold pl; rw [if_neg hk, if_pos ⟨hk4, hdp⟩]
            have e1 : ∀ u : Unit, wrap64 ((x.deep : Int) + 1) = ((x.deep + 1 : Nat) : Int) := fun _ => by unfold wrap64; omega
            rw [hpl] at hgo ⊢
            refine Ev.step (f := fun k => amberlaw02_plan.j3 k us (bl x.t) (kl x.ks) (x.n : Int) (x.deep : Int) (i : Int) ((kOf us[i] : Nat) : Int) true) (fun k => ?_) (Ev.step (fun k => ?_) hgo)
            · simp only [amberlaw02_plan.j2]
              rw [if_neg (by omega), if_pos (by omega), decide_eq_true (by omega)]
            · simp only [amberlaw02_plan.j3, if_true]
              rw [if_pos (by rw [bl_length]; omega), e1 (), w1 (), bl_append]
              rfl
          · have hpl : pl us[i] x = x := by unfold pl; rw [if_neg hk, if_neg (by rintro ⟨_, h⟩; exact hdp h), if_neg (by rintro ⟨h, _⟩; omega)]
            rw [hpl] at hgo ⊢
            refine Ev.step (f := fun k => amberlaw02_plan.j3 k us (bl x.t) (kl x.ks) (x.n : Int) (x.deep : Int) (i : Int) ((kOf us[i] : Nat) : Int) false) (fun k => ?_) (Ev.step (fun k => ?_) hgo)
            · simp only [amberlaw02_plan.j2]
              rw [if_neg (by omega), if_pos (by omega), decide_eq_false (by omega)]
            · simp only [amberlaw02_plan.j3, Bool.false_eq_true, if_false]
              rw [if_neg (by omega), w1 ()]
        · have hk55 : kOf us[i] = 5 := by omega
          by_cases hdp : 0 < x.deep
          · have hpl : pl us[i] x = ⟨x.t ++ [41], x.ks, x.n + 4, x.deep - 1⟩ := by unfold pl; rw [if_neg hk, if_neg (by rintro ⟨h, _⟩; omega), if_pos ⟨hk55, hdp⟩]
            have e1 : ∀ u : Unit, wrap64 ((x.n : Int) + 4) = ((x.n + 4 : Nat) : Int) := fun _ => by unfold wrap64; omega
            have e2 : ∀ u : Unit, wrap64 ((x.deep : Int) - 1) = ((x.deep - 1 : Nat) : Int) := fun _ => by unfold wrap64; omega
            rw [hpl] at hgo ⊢
            refine Ev.step (f := fun k => amberlaw02_plan.j3 k us (bl x.t) (kl x.ks) (x.n : Int) (x.deep : Int) (i : Int) ((kOf us[i] : Nat) : Int) false) (fun k => ?_) (Ev.step (fun k => ?_) hgo)
            · simp only [amberlaw02_plan.j2]
              rw [if_neg (by omega), if_neg (by omega)]
            · simp only [amberlaw02_plan.j3, Bool.false_eq_true, if_false]
              rw [if_pos (by omega), if_pos (by omega), if_pos (by rw [bl_length]; omega), e1 (), e2 (), w1 (), bl_append]
              rfl
          · have hpl : pl us[i] x = x := by unfold pl; rw [if_neg hk, if_neg (by rintro ⟨h, _⟩; omega), if_neg (by rintro ⟨_, h⟩; exact hdp h)]
            rw [hpl] at hgo ⊢
            refine Ev.step (f := fun k => amberlaw02_plan.j3 k us (bl x.t) (kl x.ks) (x.n : Int) (x.deep : Int) (i : Int) ((kOf us[i] : Nat) : Int) false) (fun k => ?_) (Ev.step (fun k => ?_) hgo)
            · simp only [amberlaw02_plan.j2]
              rw [if_neg (by omega), if_neg (by omega)]
            · simp only [amberlaw02_plan.j3, Bool.false_eq_true, if_false]
              rw [if_pos (by omega), if_neg (by omega), w1 ()]
    refine Ev.step (f := fun k => amberlaw02_plan.j1 k us (bl x.t) (kl x.ks) (x.n : Int) (x.deep : Int) (i : Int) true) (fun k => ?_) (Ev.step (fun k => ?_) hj2)
    · simp only [amberlaw02_plan.l0]
      rw [if_pos (by omega), decide_eq_true (by omega)]
    · simp only [amberlaw02_plan.j1, if_true]
      rw [if_pos (by omega), if_pos (by omega), hrd]
      by_cases hneg : Int.tmod us[i] 6 < 0
      · rw [if_pos hneg]
        have e : wrap64 (-(Int.tmod us[i] 6)) = ((kOf us[i] : Nat) : Int) := by
          have hk0 : ((kOf us[i] : Nat) : Int) = -(Int.tmod us[i] 6) := by unfold kOf; omega
          rw [← hk0]
          unfold wrap64; omega
        rw [e]
      · rw [if_neg hneg]
        have e : Int.tmod us[i] 6 = ((kOf us[i] : Nat) : Int) := by unfold kOf; omega
        rw [e]
theorem plan_ev (us : List Int) (hus : us.length ≤ 140737488351232) : Ev (fun k => amberlaw02_plan.f k us) (told (planS us)) := plan_loop us hus (us.take 48).length 0 ⟨[], [], 0, 0⟩ (by omega) (Nat.le_refl _) (Nat.le_refl _) (Nat.le_refl _) (Nat.le_refl _)
/-- a number brought to its kind. -/
def fitI (k : Nat) (v : Int) : Int := if k = 1 then v % 256 else if k = 2 then v % 65536 else if k = 3 then v % 4294967296 else v
/-- the numbers that are packed. -/
def valsS (nums : List Int) : Nat → List Nat → List Int
  | _, [] => []
  | j, k :: ks => fitI k (if h : j < nums.length then nums[j] else (j : Int)) :: valsS nums (j + 1) ks
theorem vals_length (nums : List Int) : ∀ (ks : List Nat) (j : Nat), (valsS nums j ks).length = ks.length
  | [], j => rfl
  | k :: ks, j => by show (_ :: valsS nums (j + 1) ks).length = _; rw [List.length_cons, vals_length nums ks, List.length_cons]
theorem vals_snoc (nums : List Int) : ∀ (ks : List Nat) (j k : Nat), valsS nums j (ks ++ [k]) = valsS nums j ks ++ [fitI k (if h : j + ks.length < nums.length then nums[j + ks.length] else ((j + ks.length : Nat) : Int))]
  | [], j, k => rfl
  | k1 :: ks, j, k => by
    show _ :: valsS nums (j + 1) (ks ++ [k]) = _ :: (valsS nums (j + 1) ks ++ _)
    rw [vals_snoc nums ks (j + 1) k]
    have e : j + 1 + ks.length = j + (k1 :: ks).length := by rw [List.length_cons]; omega
    simp only [e]
theorem fit_ok (k : Nat) (v : Int) (h1 : 1 ≤ k) (h4 : k ≤ 4) (hv : -9223372036854775808 ≤ v ∧ v ≤ 9223372036854775807) : fitsB (letterOf (k - 1)) (fitI k v) = true ∧ -9223372036854775808 ≤ fitI k v ∧ fitI k v ≤ 9223372036854775807 := by
  have : k = 1 ∨ k = 2 ∨ k = 3 ∨ k = 4 := by omega
  rcases this with rfl | rfl | rfl | rfl
  · have e : fitI 1 v = v % 256 := rfl
    rw [e]
    exact ⟨decide_eq_true (by omega), by omega, by omega⟩
  · have e : fitI 2 v = v % 65536 := rfl
    rw [e]
    exact ⟨decide_eq_true (by omega), by omega, by omega⟩
  · have e : fitI 3 v = v % 4294967296 := rfl
    rw [e]
    exact ⟨decide_eq_true (by omega), by omega, by omega⟩
  · have e : fitI 4 v = v := rfl
    rw [e]
    exact ⟨rfl, hv.1, hv.2⟩
theorem vals_fit (nums : List Int) (hn : Fit nums) : ∀ (t : List UInt8) (ks : List Nat) (j : Nat), kfit t ks → j + ks.length ≤ 100000 → allFit t (valsS nums j ks)
  | [], ks, j, h, hj => by
    have e : ks = [] := h
    subst e; rfl
  | c :: t, ks, j, h, hj => by
    unfold kfit at h
    by_cases hc : c = 40 ∨ c = 41
    · rw [if_pos hc] at h
      unfold allFit
      rw [if_pos hc]
      exact vals_fit nums hn t ks j h hj
    · rw [if_neg hc] at h
      cases ks with
      | nil => exact h.elim
      | cons k ks =>
        rw [List.length_cons] at hj
        show allFit (c :: t) (fitI k _ :: valsS nums (j + 1) ks)
        unfold allFit
        rw [if_neg hc]
        refine ⟨?_, vals_fit nums hn t ks (j + 1) h.2 (by omega)⟩
        rw [h.1.2.2]
        refine fit_ok k _ h.1.1 h.1.2.1 ?_
        split
        · exact hn _ (List.getElem_mem _)
        · omega
theorem allFit_fit : ∀ (t : List UInt8) (vs : List Int), allFit t vs → Fit vs ∧ vs.length = ltrs t
  | [], vs, h => by
    have e : vs = [] := h
    subst e
    exact ⟨fun x hx => (by cases hx), rfl⟩
  | c :: t, vs, h => by
    unfold allFit at h
    rw [ltrs_cons]
    by_cases hc : c = 40 ∨ c = 41
    · rw [if_pos hc] at h ⊢
      have := allFit_fit t vs h
      exact ⟨this.1, by omega⟩
    · rw [if_neg hc] at h ⊢
      cases vs with
      | nil => exact h.elim
      | cons v vs =>
        have := allFit_fit t vs h.2
        refine ⟨fun x hx => ?_, by rw [List.length_cons]; omega⟩
        rcases List.mem_cons.1 hx with e | e
        · rw [e]; exact h.1.2
        · exact this.1 x e
/-- what Pack tells of a plan: all its bytes. -/
theorem pack_plan {t : List UInt8} {vs : List Int} {q : List U} (hw : whole t = some q) (hf : flatL q = t) (hb : bal 0 t) (ha : allFit t vs) (hl : t.length ≤ 64) : packS t vs = (wr t [] [] vs, 0) := by
  have hc := count_flatL q (whole_good hw).2.1
  have hv := (allFit_fit t vs ha).2
  unfold packS
  rw [hw]
  simp only
  rw [if_pos (by rw [hc, hf]; exact hv.symm), hf]
  have hr := pk_run t [] [] vs hb ha (by show 0 + 8 * t.length ≤ 1048576; omega)
  have e : (Wr.WS.new 1048576) = ws [] [] := rfl
  rw [e, hr]
  show (ws ([] ++ wr t [] [] vs) []).told = _
  unfold Wr.WS.told
  rw [if_pos (show (ws ([] ++ wr t [] [] vs) []).err = 0 from rfl), if_pos (show (ws ([] ++ wr t [] [] vs) []).opn = [] from rfl)]
  rfl
theorem pack_count_bad {t : List UInt8} {vs : List Int} {q : List U} (hw : whole t = some q) (hf : flatL q = t) (hn : ¬ vs.length = ltrs t) : packS t vs = ([], 25) := by
  have hc := count_flatL q (whole_good hw).2.1
  unfold packS
  rw [hw]
  simp only
  rw [if_neg (by rw [hc, hf]; intro e; exact hn e.symm)]
theorem unpack_plan {t : List UInt8} {vs : List Int} {q : List U} (x : List UInt8) (hw : whole t = some q) (hf : flatL q = t) (hb : bal 0 t) (ha : allFit t vs) : unpackS t (wr t [] [] vs ++ x) = if x = [] then (vs, 0) else ([], 22) := by
  unfold unpackS
  rw [hw]
  simp only
  rw [hf]
  have hr := un_run t [] [] vs [] x hb ha (fun m hm => by cases hm)
  have e : (Rd.RS.new (wr t [] [] vs ++ x)) = ⟨[] ++ (wr t [] [] vs ++ x), ([] : List UInt8).length, 0⟩ := rfl
  rw [e]
  have e2 : run ustep t ((⟨[] ++ (wr t [] [] vs ++ x), ([] : List UInt8).length, 0⟩, ([] : List Int)), []) = _ := hr
  rw [e2]
  simp only
  have hlen := wr_length t [] [] vs
  have hle : (⟨[] ++ (wr t [] [] vs ++ x), ([] : List UInt8).length + bytesOf_ t, 0⟩ : Rd.RS).left = x.length := by
    unfold Rd.RS.left
    show ([] ++ (wr t [] [] vs ++ x)).length - (0 + bytesOf_ t) = _
    rw [List.nil_append, List.length_append, hlen]; omega
  by_cases hx : x = []
  · have he : (⟨[] ++ (wr t [] [] vs ++ x), ([] : List UInt8).length + bytesOf_ t, 0⟩ : Rd.RS).endE = 0 := by
      unfold Rd.RS.endE
      rw [hle, if_neg (by rintro ⟨_, h⟩; rw [hx] at h; exact absurd h (Nat.lt_irrefl 0))]
    rw [he, if_pos rfl, if_pos hx]
    rfl
  · have he : (⟨[] ++ (wr t [] [] vs ++ x), ([] : List UInt8).length + bytesOf_ t, 0⟩ : Rd.RS).endE = 22 := by
      unfold Rd.RS.endE
      rw [hle, if_pos ⟨rfl, List.length_pos_iff.2 hx⟩]
    rw [he, if_neg (by decide), if_neg hx]
theorem unpack_short {t : List UInt8} {vs : List Int} {q : List U} (hw : whole t = some q) (hf : flatL q = t) (hb : bal 0 t) (ha : allFit t vs) (h0 : 0 < bytesOf_ t) : unpackS t (wr t [] [] vs).dropLast = ([], 20) := by
  unfold unpackS
  rw [hw]
  simp only
  rw [hf]
  have hr := un_short t [] [] vs [] hb ha (fun m hm => by cases hm) h0
  have e : (Rd.RS.new (wr t [] [] vs).dropLast) = ⟨[] ++ (wr t [] [] vs).dropLast, ([] : List UInt8).length, 0⟩ := rfl
  rw [e]
  have e2 : run ustep t ((⟨[] ++ (wr t [] [] vs).dropLast, ([] : List UInt8).length, 0⟩, ([] : List Int)), []) = _ := hr
  rw [e2]
theorem str_bl (t : List UInt8) : (strOfNums (bl t)).data.toList = t := by
  rw [strOfNums_data]
  unfold bl
  rw [List.map_map]
  refine (List.map_congr_left (fun c _ => ?_)).trans (List.map_id t)
  show UInt8.ofNat ((c.toNat : Int)).toNat = c
  rw [Int.toNat_natCast, UInt8.ofNat_toNat]
end Go.Proofs.Ytdmliaodacaefaa.Shape
