/- What the outright laws lay onto a writer (fit, lay). By walks. -/
import Derived.Test.YtdmliaodacaefaaWritesWalk
namespace Go.Proofs.Ytdmliaodacaefaa.Wr
open Go.RowKit Go.Proofs.YtdmliaodacaefaaW.PrintWords Go.Proofs.YtdmliaodacaefaaW.PrintLast Go.Proofs.YtdmliaodacaefaaW.PrintMore Go.Proofs.Ytdmliaodacaefaa.Mem Go.Proofs.Ytdmliaodacaefaa.Sep Go.Proofs.Ytdmliaodacaefaa.Bridge Go.Proofs.Ytdmliaodacaefaa.Ops
set_option linter.unusedVariables false
set_option linter.unusedSimpArgs false
/-- a number, brought into the range of a step's width. -/
def fitV (kind n : Int) : Int := if kind = 1 then n % 256 else if kind = 2 then n % 65536 else if kind = 3 then n % 4294967296 else n
theorem fit_calls (two : Bool) (kind n : Int) (v : Value) (w : World) (hv : v.oneCell' = true) (hn : -9223372036854775808 ≤ n ∧ n ≤ 9223372036854775807) :
    Calls Try.prog 47 #[.agg #[.bool two, .int .i64 kind, .int .i64 n, v]] w fun e w' => e = .returned (.int .i64 (fitV kind n)) ∧ Below w.heap.size w w' := by
  have hb : Below w.heap.size w (w.alloc (.cells #[.bool two, .int .i64 kind, .int .i64 n, v] 29)) := below_alloc (Below.refl _ _) _
  have HB := Lib.hid hb
  clear hb
  by_cases h1 : kind = 1
  · have E := Lib.hid (show fitV kind n = n % 256 by unfold fitV; rw [if_pos h1])
    have t1 : (kind == 1) = true := by simpa using h1
    clear h1
    go_enter Try.func47, Try.ntmps47
    go_wp2_with fail
    go_ret
    rw [E.out]
    exact ⟨rfl, HB.out⟩
  · have t1 : (kind == 1) = false := by simpa using h1
    by_cases h2 : kind = 2
    · have E := Lib.hid (show fitV kind n = n % 65536 by unfold fitV; rw [if_neg h1, if_pos h2])
      have t2 : (kind == 2) = true := by simpa using h2
      clear h1 h2
      go_enter Try.func47, Try.ntmps47
      go_wp2_with fail
      go_ret
      rw [E.out]
      have e : wrap64 (IntKind.u16.wrap n) = n % 65536 := by
        have : IntKind.u16.wrap n = n % 65536 := by simp [IntKind.wrap, IntKind.signed, IntKind.bits]
        rw [this]; unfold wrap64; omega
      refine ⟨?_, HB.out⟩
      show Ending.returned (.int .i64 (wrap64 (IntKind.u16.wrap n))) = _
      rw [e]
    · have t2 : (kind == 2) = false := by simpa using h2
      by_cases h3 : kind = 3
      · have E := Lib.hid (show fitV kind n = n % 4294967296 by unfold fitV; rw [if_neg h1, if_neg h2, if_pos h3])
        have t3 : (kind == 3) = true := by simpa using h3
        clear h1 h2 h3
        go_enter Try.func47, Try.ntmps47
        go_wp2_with fail
        go_ret
        rw [E.out]
        exact ⟨rfl, HB.out⟩
      · have E := Lib.hid (show fitV kind n = n by unfold fitV; rw [if_neg h1, if_neg h2, if_neg h3])
        have t3 : (kind == 3) = false := by simpa using h3
        clear h1 h2 h3
        go_enter Try.func47, Try.ntmps47
        go_wp2_with fail
        go_ret
        rw [E.out]
        exact ⟨rfl, HB.out⟩
/-- a step laid. -/
def WS.lay (s : WS) (kind n : Int) (l : List UInt8) : WS :=
  if kind = 1 then s.num (n % 256) 255 1 else if kind = 2 then s.num (n % 65536) 65535 2 else if kind = 3 then s.put (little 4 (n % 4294967296).toNat) else if kind = 4 then s.put (little 8 (n % 18446744073709551616).toNat)
  else if kind = 5 then s.put l else if kind = 6 then (s.open_.put l).seal else s
theorem Turn.alone {w : World} {F : Blks} {P : Asr} (h : P.on w F) : All [P] w F :=
  ⟨fun i b => i = 0 ∧ F b, fun i hi => by
    have e : i = 0 := by simpa using hi
    subst e
    exact P.up h (fun b hb => ⟨rfl, hb⟩), fun i j b hne hi hj => hne (hi.1.trans hj.1.symm), fun i b hb => hb.2⟩
theorem Turn.only_one {w w1 : World} {F : Blks} {P : Asr} (h : Turn w w1 F (all [P])) : Turn w w1 F P := by
  obtain ⟨F1, h1, h2⟩ := All.at_ (show All [P] w1 (Later w F) from h.2) 0 (by simp)
  exact ⟨h.1, P.up h1 h2⟩
theorem lay1 {w : World} {F : Blks} (a : Nat) (s : WS) (two : Bool) (n : Int) (A : Option Addr) (m c : Nat) (h : (st objW a s).on w F) (hn : -9223372036854775808 ≤ n ∧ n ≤ 9223372036854775807) :
    Calls Try.prog 31 #[.pointer (some ⟨a, 0, none⟩), .agg #[.bool two, .int .i64 1, .int .i64 n, .slice A m c]] w fun e w' => e = .returned (.tuple #[]) ∧ Turn w w' F (st objW a (s.num (n % 256) 255 1)) := by
  have T0 := Lib.hid (Turn.boxed (l := [st objW a s]) (Turn.alone h) (.cells #[.bool two, .int .i64 1, .int .i64 n, .slice A m c] 29))
  have HN := Lib.hid hn
  have HFIT := Lib.hid (fun wx => fit_calls two 1 n (.slice A m c) wx rfl hn)
  have hf : fitV 1 n = n % 256 := rfl
  rw [hf] at HFIT
  clear hf
  clear h hn
  go_enter Try.func31, Try.ntmps31
  go_wp2_with fail
  refine (HFIT.out _).mono ?_
  rintro e w1 ⟨rfl, hb⟩
  have T1 : Hid (Turn w w1 F (all ([st objW a s] ++ [box w.heap.size (.cells #[.bool two, .int .i64 1, .int .i64 n, .slice A m c] 29)]))) := Lib.hid (T0.out.then_below hb)
  clear hb
  obtain ⟨F1, h1, _, k1⟩ := Turn.pick (l := [st objW a s, box w.heap.size (.cells #[.bool two, .int .i64 1, .int .i64 n, .slice A m c] 29)]) T1.out 0 (by simp)
  go_wp2_with fail
  refine (wu8_calls a s (n % 256) h1 (by omega)).mono ?_
  rintro e w2 ⟨rfl, ht⟩
  have T2 : Hid (Turn w w2 F (all ([st objW a (s.num (n % 256) 255 1)] ++ [box w.heap.size (.cells #[.bool two, .int .i64 1, .int .i64 n, .slice A m c] 29)]))) := Lib.hid (k1 _ _ ht)
  clear ht h1 k1
  go_wp2_with fail
  go_end0
  exact ⟨rfl, Turn.only_one T2.out.unbox⟩
theorem lay2 {w : World} {F : Blks} (a : Nat) (s : WS) (two : Bool) (n : Int) (A : Option Addr) (m c : Nat) (h : (st objW a s).on w F) (hn : -9223372036854775808 ≤ n ∧ n ≤ 9223372036854775807) :
    Calls Try.prog 31 #[.pointer (some ⟨a, 0, none⟩), .agg #[.bool two, .int .i64 2, .int .i64 n, .slice A m c]] w fun e w' => e = .returned (.tuple #[]) ∧ Turn w w' F (st objW a (s.num (n % 65536) 65535 2)) := by
  have T0 := Lib.hid (Turn.boxed (l := [st objW a s]) (Turn.alone h) (.cells #[.bool two, .int .i64 2, .int .i64 n, .slice A m c] 29))
  have HN := Lib.hid hn
  have HFIT := Lib.hid (fun wx => fit_calls two 2 n (.slice A m c) wx rfl hn)
  have hf : fitV 2 n = n % 65536 := rfl
  rw [hf] at HFIT
  clear hf
  clear h hn
  go_enter Try.func31, Try.ntmps31
  go_wp2_with fail
  refine (HFIT.out _).mono ?_
  rintro e w1 ⟨rfl, hb⟩
  have T1 : Hid (Turn w w1 F (all ([st objW a s] ++ [box w.heap.size (.cells #[.bool two, .int .i64 2, .int .i64 n, .slice A m c] 29)]))) := Lib.hid (T0.out.then_below hb)
  clear hb
  obtain ⟨F1, h1, _, k1⟩ := Turn.pick (l := [st objW a s, box w.heap.size (.cells #[.bool two, .int .i64 2, .int .i64 n, .slice A m c] 29)]) T1.out 0 (by simp)
  go_wp2_with fail
  refine (wu16_calls a s (n % 65536) h1 (by omega)).mono ?_
  rintro e w2 ⟨rfl, ht⟩
  have T2 : Hid (Turn w w2 F (all ([st objW a (s.num (n % 65536) 65535 2)] ++ [box w.heap.size (.cells #[.bool two, .int .i64 2, .int .i64 n, .slice A m c] 29)]))) := Lib.hid (k1 _ _ ht)
  clear ht h1 k1
  go_wp2_with fail
  go_end0
  exact ⟨rfl, Turn.only_one T2.out.unbox⟩
theorem lay3 {w : World} {F : Blks} (a : Nat) (s : WS) (two : Bool) (n : Int) (A : Option Addr) (m c : Nat) (h : (st objW a s).on w F) (hn : -9223372036854775808 ≤ n ∧ n ≤ 9223372036854775807) :
    Calls Try.prog 31 #[.pointer (some ⟨a, 0, none⟩), .agg #[.bool two, .int .i64 3, .int .i64 n, .slice A m c]] w fun e w' => e = .returned (.tuple #[]) ∧ Turn w w' F (st objW a (s.put (little 4 (n % 4294967296).toNat))) := by
  have T0 := Lib.hid (Turn.boxed (l := [st objW a s]) (Turn.alone h) (.cells #[.bool two, .int .i64 3, .int .i64 n, .slice A m c] 29))
  have HN := Lib.hid hn
  have HFIT := Lib.hid (fun wx => fit_calls two 3 n (.slice A m c) wx rfl hn)
  obtain ⟨y, hy⟩ : ∃ y : Nat, y = (n % 4294967296).toNat := ⟨_, rfl⟩
  have HYL := Lib.hid (show y < 4294967296 by omega)
  have hf : fitV 3 n = (y : Int) := by have : fitV 3 n = n % 4294967296 := rfl; omega
  rw [hf] at HFIT
  have hym : (y : Int) % 4294967296 = (y : Int) := by omega
  rw [← hy]
  clear hf hy
  clear h hn
  go_enter Try.func31, Try.ntmps31
  go_wp2_with fail
  refine (HFIT.out _).mono ?_
  rintro e w1 ⟨rfl, hb⟩
  have T1 : Hid (Turn w w1 F (all ([st objW a s] ++ [box w.heap.size (.cells #[.bool two, .int .i64 3, .int .i64 n, .slice A m c] 29)]))) := Lib.hid (T0.out.then_below hb)
  clear hb
  obtain ⟨F1, h1, _, k1⟩ := Turn.pick (l := [st objW a s, box w.heap.size (.cells #[.bool two, .int .i64 3, .int .i64 n, .slice A m c] 29)]) T1.out 0 (by simp)
  go_wp2_with fail
  refine (wu32_calls a s y h1 HYL.out).mono ?_
  rintro e w2 ⟨rfl, ht⟩
  have T2 : Hid (Turn w w2 F (all ([st objW a (s.put (little 4 y))] ++ [box w.heap.size (.cells #[.bool two, .int .i64 3, .int .i64 n, .slice A m c] 29)]))) := Lib.hid (k1 _ _ ht)
  clear ht h1 k1
  go_wp2_with fail
  go_end0
  exact ⟨rfl, Turn.only_one T2.out.unbox⟩
theorem lay4 {w : World} {F : Blks} (a : Nat) (s : WS) (two : Bool) (n : Int) (A : Option Addr) (m c : Nat) (h : (st objW a s).on w F) (hn : -9223372036854775808 ≤ n ∧ n ≤ 9223372036854775807) :
    Calls Try.prog 31 #[.pointer (some ⟨a, 0, none⟩), .agg #[.bool two, .int .i64 4, .int .i64 n, .slice A m c]] w fun e w' => e = .returned (.tuple #[]) ∧ Turn w w' F (st objW a (s.put (little 8 (n % 18446744073709551616).toNat))) := by
  have T0 := Lib.hid (Turn.boxed (l := [st objW a s]) (Turn.alone h) (.cells #[.bool two, .int .i64 4, .int .i64 n, .slice A m c] 29))
  have HN := Lib.hid hn
  have HFIT := Lib.hid (fun wx => fit_calls two 4 n (.slice A m c) wx rfl hn)
  have hf : fitV 4 n = n := rfl
  rw [hf] at HFIT
  clear hf
  clear h hn
  go_enter Try.func31, Try.ntmps31
  go_wp2_with fail
  refine (HFIT.out _).mono ?_
  rintro e w1 ⟨rfl, hb⟩
  have T1 : Hid (Turn w w1 F (all ([st objW a s] ++ [box w.heap.size (.cells #[.bool two, .int .i64 4, .int .i64 n, .slice A m c] 29)]))) := Lib.hid (T0.out.then_below hb)
  clear hb
  obtain ⟨F1, h1, _, k1⟩ := Turn.pick (l := [st objW a s, box w.heap.size (.cells #[.bool two, .int .i64 4, .int .i64 n, .slice A m c] 29)]) T1.out 0 (by simp)
  go_wp2_with fail
  refine (wu64_calls a s n h1 HN.out).mono ?_
  rintro e w2 ⟨rfl, ht⟩
  have T2 : Hid (Turn w w2 F (all ([st objW a (s.put (little 8 (n % 18446744073709551616).toNat))] ++ [box w.heap.size (.cells #[.bool two, .int .i64 4, .int .i64 n, .slice A m c] 29)]))) := Lib.hid (k1 _ _ ht)
  clear ht h1 k1
  go_wp2_with fail
  go_end0
  exact ⟨rfl, Turn.only_one T2.out.unbox⟩
theorem lay5 {w : World} {F : Blks} (a : Nat) (s : WS) (two : Bool) (n : Int) (A : Option Addr) (c : Nat) (l : List UInt8) (h : (st objW a s).on w F) (hr : Kd.C (Kd.int .u8) w A (bl l).length (bl l)) (hc : (bl l).length ≤ c) (hl : l.length ≤ 140737488351232) (hA : 0 < (bl l).length → ∀ x, A = some x → ¬ F x.block ∧ x.block < w.heap.size) :
    Calls Try.prog 31 #[.pointer (some ⟨a, 0, none⟩), .agg #[.bool two, .int .i64 5, .int .i64 n, .slice A (bl l).length c]] w fun e w' => e = .returned (.tuple #[]) ∧ Turn w w' F (st objW a (s.put l)) := by
  have T0 := Lib.hid (Turn.boxed (l := [st objW a s]) (Turn.alone h) (.cells #[.bool two, .int .i64 5, .int .i64 n, .slice A (bl l).length c] 29))
  have HR := Lib.hid hr
  have HL := Lib.hid hl
  have HA := Lib.hid hA
  have HA1 := Lib.hid (fun h0 x hx => (hA h0 x hx).1)
  clear h hr hl hA
  go_enter Try.func31, Try.ntmps31
  obtain ⟨F1, h1, hu1, k1⟩ := Turn.pick (l := [st objW a s, box w.heap.size (.cells #[.bool two, .int .i64 5, .int .i64 n, .slice A (bl l).length c] 29)]) T0.out 0 (by simp)
  have H1 := Lib.hid h1
  have K1 := Lib.hid k1
  have HU1 := Lib.hid hu1
  clear h1 k1 hu1
  go_wp2_with fail
  refine (block_calls a s A c l H1.out (C_only HR.out T0.out.1 HA1.out) hc HL.out (later_away HA.out HU1.out)).mono ?_
  rintro e w2 ⟨rfl, ht⟩
  have T2 : Hid (Turn w w2 F (all ([st objW a (s.put l)] ++ [box w.heap.size (.cells #[.bool two, .int .i64 5, .int .i64 n, .slice A (bl l).length c] 29)]))) := Lib.hid (K1.out _ _ ht)
  clear ht H1 K1 HU1
  go_wp2_with fail
  go_end0
  exact ⟨rfl, Turn.only_one T2.out.unbox⟩
theorem lay6 {w : World} {F : Blks} (a : Nat) (s : WS) (two : Bool) (n : Int) (A : Option Addr) (c : Nat) (l : List UInt8) (h : (st objW a s).on w F) (hr : Kd.C (Kd.int .u8) w A (bl l).length (bl l)) (hc : (bl l).length ≤ c) (hl : l.length ≤ 140737488351232) (hA : 0 < (bl l).length → ∀ x, A = some x → ¬ F x.block ∧ x.block < w.heap.size) :
    Calls Try.prog 31 #[.pointer (some ⟨a, 0, none⟩), .agg #[.bool two, .int .i64 6, .int .i64 n, .slice A (bl l).length c]] w fun e w' => e = .returned (.tuple #[]) ∧ Turn w w' F (st objW a ((s.open_.put l).seal)) := by
  have T0 := Lib.hid (Turn.boxed (l := [st objW a s]) (Turn.alone h) (.cells #[.bool two, .int .i64 6, .int .i64 n, .slice A (bl l).length c] 29))
  have HR := Lib.hid hr
  have HL := Lib.hid hl
  have HA := Lib.hid hA
  have HA1 := Lib.hid (fun h0 x hx => (hA h0 x hx).1)
  clear h hr hl hA
  go_enter Try.func31, Try.ntmps31
  obtain ⟨F1, h1, _, k1⟩ := Turn.pick (l := [st objW a s, box w.heap.size (.cells #[.bool two, .int .i64 6, .int .i64 n, .slice A (bl l).length c] 29)]) T0.out 0 (by simp)
  have H1 := Lib.hid h1
  have K1 := Lib.hid k1
  clear h1 k1
  go_wp2_with fail
  refine (open_calls a s H1.out).mono ?_
  rintro e w1 ⟨rfl, ht⟩
  have T1 : Hid (Turn w w1 F (all [st objW a s.open_, box w.heap.size (.cells #[.bool two, .int .i64 6, .int .i64 n, .slice A (bl l).length c] 29)])) := Lib.hid (K1.out _ _ ht)
  clear ht H1 K1
  have hb := Turn.heap T1.out 1 (by simp) rfl
  have hb3 : w1.cell? ⟨w.heap.size, 3, none⟩ = some (.slice A (bl l).length c) := cell_of hb rfl
  obtain ⟨F2, h2, hu2, k2⟩ := Turn.pick T1.out 0 (by simp)
  have H2 := Lib.hid h2
  have K2 := Lib.hid k2
  have HU2 := Lib.hid hu2
  clear h2 k2 hu2 hb
  go_wp2_with fail
  refine (block_calls a s.open_ A c l H2.out (C_only HR.out T1.out.1 HA1.out) hc HL.out (later_away HA.out HU2.out)).mono ?_
  rintro e w2 ⟨rfl, ht⟩
  have T2 : Hid (Turn w w2 F (all [st objW a (s.open_.put l), box w.heap.size (.cells #[.bool two, .int .i64 6, .int .i64 n, .slice A (bl l).length c] 29)])) := Lib.hid (K2.out _ _ ht)
  clear ht H2 K2 HU2 hb3
  obtain ⟨F3, h3, _, k3⟩ := Turn.pick T2.out 0 (by simp)
  have H3 := Lib.hid h3
  have K3 := Lib.hid k3
  clear h3 k3
  go_wp2_with fail
  refine (seal_calls a (s.open_.put l) H3.out).mono ?_
  rintro e w3 ⟨rfl, ht⟩
  have T3 : Hid (Turn w w3 F (all ([st objW a ((s.open_.put l).seal)] ++ [box w.heap.size (.cells #[.bool two, .int .i64 6, .int .i64 n, .slice A (bl l).length c] 29)]))) := Lib.hid (K3.out _ _ ht)
  clear ht H3 K3
  go_wp2_with fail
  go_end0
  exact ⟨rfl, Turn.only_one T3.out.unbox⟩
theorem lay_no {w : World} {F : Blks} (a : Nat) (s : WS) (two : Bool) (kind n : Int) (A : Option Addr) (m c : Nat) (h : (st objW a s).on w F) (hk : kind < 1 ∨ 6 < kind) :
    Calls Try.prog 31 #[.pointer (some ⟨a, 0, none⟩), .agg #[.bool two, .int .i64 kind, .int .i64 n, .slice A m c]] w fun e w' => e = .returned (.tuple #[]) ∧ Turn w w' F (st objW a s) := by
  have T0 := Lib.hid (Turn.boxed (l := [st objW a s]) (Turn.alone h) (.cells #[.bool two, .int .i64 kind, .int .i64 n, .slice A m c] 29))
  have k1 : (kind == 1) = false := by simp; omega
  have k2 : (kind == 2) = false := by simp; omega
  have k3 : (kind == 3) = false := by simp; omega
  have k4 : (kind == 4) = false := by simp; omega
  have k5 : (kind == 5) = false := by simp; omega
  have k6 : (kind == 6) = false := by simp; omega
  clear h hk
  go_enter Try.func31, Try.ntmps31
  go_wp2_with fail
  go_end0
  exact ⟨rfl, Turn.only_one T0.out.unbox⟩
theorem lay_calls {w : World} {F : Blks} (a : Nat) (s : WS) (two : Bool) (kind n : Int) (A : Option Addr) (c : Nat) (l : List UInt8) (h : (st objW a s).on w F) (hn : -9223372036854775808 ≤ n ∧ n ≤ 9223372036854775807) (hr : Kd.C (Kd.int .u8) w A (bl l).length (bl l)) (hc : (bl l).length ≤ c) (hl : l.length ≤ 140737488351232) (hA : 0 < (bl l).length → ∀ x, A = some x → ¬ F x.block ∧ x.block < w.heap.size) :
    Calls Try.prog 31 #[.pointer (some ⟨a, 0, none⟩), .agg #[.bool two, .int .i64 kind, .int .i64 n, .slice A (bl l).length c]] w fun e w' => e = .returned (.tuple #[]) ∧ Turn w w' F (st objW a (s.lay kind n l)) := by
  by_cases h0 : kind < 1 ∨ 6 < kind
  · have e : s.lay kind n l = s := by
      unfold WS.lay
      rw [if_neg (by omega), if_neg (by omega), if_neg (by omega), if_neg (by omega), if_neg (by omega), if_neg (by omega)]
    rw [e]
    exact lay_no a s two kind n A _ c h h0
  · have h1 : kind = 1 ∨ kind = 2 ∨ kind = 3 ∨ kind = 4 ∨ kind = 5 ∨ kind = 6 := by omega
    rcases h1 with e | e | e | e | e | e <;> subst e
    · exact lay1 a s two n A _ c h hn
    · exact lay2 a s two n A _ c h hn
    · exact lay3 a s two n A _ c h hn
    · exact lay4 a s two n A _ c h hn
    · exact lay5 a s two n A c l h hr hc hl hA
    · exact lay6 a s two n A c l h hr hc hl hA
end Go.Proofs.Ytdmliaodacaefaa.Wr
