/- One step on a writer and the reference's beside it (function writes), and all that can be asked (written): for every step and every state. By walks. -/
import Derived.Test.YtdmliaodacaefaaRro
namespace Go.Proofs.Ytdmliaodacaefaa.Wr
open Go.RowKit Go.Proofs.YtdmliaodacaefaaW.PrintWords Go.Proofs.YtdmliaodacaefaaW.PrintLast Go.Proofs.YtdmliaodacaefaaW.PrintMore Go.Proofs.Ytdmliaodacaefaa.Mem Go.Proofs.Ytdmliaodacaefaa.Sep Go.Proofs.Ytdmliaodacaefaa.Bridge
set_option linter.unusedVariables false
set_option linter.unusedSimpArgs false
/-- a block and what it holds. -/
def box (b : Nat) (O : Obj) : Asr where
  on w F := w.heap[b]? = some O ∧ F b
  up h hu := ⟨h.1, hu b h.2⟩
  keep h hk := ⟨(hk b h.2 (block_lt h.1)).trans h.1, h.2⟩
  bound h := ⟨h.1, h.2, block_lt h.1⟩
section
variable {w w1 w2 : World} {F : Blks} {l : List Asr}
/-- one of several is told alone, and may turn. -/
theorem Turn.pick (ht : Turn w w1 F (all l)) (i : Nat) (hi : i < l.length) : ∃ F1, l[i].on w1 F1 ∧ (∀ b, F1 b → Later w F b) ∧ ∀ w2 P', Turn w1 w2 F1 P' → Turn w w2 F (all (l.set i P')) := by
  obtain ⟨F1, h1, h2, h3⟩ := All.pick (show All l w1 (Later w F) from ht.2) i hi
  refine ⟨F1, h1, h2, fun w2 P' h => ht.trans ⟨h.1.mono (fun b hb _ => h2 b hb), h3 w2 P' h.1 h.2⟩⟩
theorem Turn.pick2 (ht : Turn w w1 F (all l)) (i j : Nat) (hi : i < l.length) (hj : j < l.length) (hne : i ≠ j) : ∃ F1 G, l[i].on w1 F1 ∧ l[j].on w1 G ∧ (∀ b, G b → ¬ F1 b) ∧ (∀ b, F1 b → Later w F b) ∧ ∀ w2 P', Turn w1 w2 F1 P' → Turn w w2 F (all (l.set i P')) := by
  obtain ⟨Fs, h1, h2, h3⟩ := ht.2
  obtain ⟨F1, g1, g2, g3⟩ := All.pick (show All l w1 (Later w F) from ht.2) i hi
  exact ⟨Fs i, Fs j, h1 i hi, h1 j hj, fun b hb hb2 => h2 i j b hne hb2 hb, h3 i, fun w2 P' h => ht.trans ⟨h.1.mono (fun b hb _ => h3 i b hb), by
    refine ⟨fun q b => if q = i then Later w1 (Fs i) b else Fs q b ∧ b < w1.heap.size, fun q hq => ?_, fun q k b hne hj hk => ?_, fun q b hb => ?_⟩
    · by_cases e : q = i
      · subst e
        simp only [List.getElem_set_self, if_true]
        exact h.2
      · have hq' : q < l.length := by simpa using hq
        rw [List.getElem_set_ne (by omega) (by simpa using hq)]
        have h4 := Asr.only (l[q].bound (h1 q hq')) h.1 (fun b hb _ hF => h2 q i b e hb.1 hF)
        exact l[q].up h4 (fun b hb => by simp only [if_neg e]; exact hb)
    · by_cases e : q = i
      · by_cases e2 : k = i
        · exact hne (e.trans e2.symm)
        · simp only [if_pos e] at hj
          simp only [if_neg e2] at hk
          rcases hj with h5 | h5
          · exact h2 i k b (fun h => e2 h.symm) h5 hk.1
          · omega
      · simp only [if_neg e] at hj
        by_cases e2 : k = i
        · simp only [if_pos e2] at hk
          rcases hk with h5 | h5
          · exact h2 q i b e hj.1 h5
          · omega
        · simp only [if_neg e2] at hk
          exact h2 q k b hne hj.1 hk.1
    · by_cases e : q = i
      · simp only [if_pos e] at hb
        rcases hb with h5 | h5
        · exact .inl (h3 i b h5)
        · exact .inr h5
      · simp only [if_neg e] at hb
        exact .inl (h3 q b hb.1)⟩⟩
theorem Turn.add {P : Asr} (ht : Turn w w1 F (all l)) (hb : Below w1.heap.size w1 w2) (hP : P.on w2 (fun b => w1.heap.size ≤ b)) : Turn w w2 F (all (l ++ [P])) :=
  ht.trans ⟨Only.of_below hb _, All.add (show All l w1 (Later w F) from ht.2) hb hP⟩
theorem Turn.boxed (h : All l w F) (O : Obj) : Turn w (w.alloc O) F (all (l ++ [box w.heap.size O])) :=
  ⟨(Only.refl w F).alloc O, All.add h (below_alloc (Below.refl _ _) O) ⟨heap_alloc_new w O, Nat.le_refl _⟩⟩
theorem Turn.heap {l : List Asr} {b : Nat} {O : Obj} (ht : Turn w w1 F (all l)) (i : Nat) (hi : i < l.length) (e : l[i] = box b O) : w1.heap[b]? = some O := by
  obtain ⟨F1, h1, _⟩ := All.at_ (show All l w1 (Later w F) from ht.2) i hi
  rw [e] at h1
  exact h1.1
theorem Turn.unbox {l l' : List Asr} (ht : Turn w w1 F (all (l ++ l'))) : Turn w w1 F (all l) := ⟨ht.1, All.drop ht.2⟩
end
theorem later_away {w : World} {F F1 : Blks} {A : Option Addr} {n : Nat} (h : 0 < n → ∀ x, A = some x → ¬ F x.block ∧ x.block < w.heap.size) (h1 : ∀ b, F1 b → Later w F b) : 0 < n → ∀ x, A = some x → ¬ F1 x.block := by
  intro h0 x hx hF
  have h2 := h h0 x hx
  rcases h1 _ hF with h3 | h3
  · exact h2.1 h3
  · omega
/-- a step's own state. -/
def WS.step (s : WS) (kind n : Int) (l : List UInt8) : WS :=
  if kind = 1 then s.num n 255 1 else if kind = 2 then s.num n 65535 2 else if kind = 3 then s.put (little 4 (n % 4294967296).toNat) else if kind = 4 then s.put (little 8 (n % 18446744073709551616).toNat)
  else if kind = 5 then s.put l else if kind = 6 then s.open_ else if kind = 7 then s.seal else s
/-- a writer and the reference's, of one state. -/
def duo (a r : Nat) (s : WS) : Asr := all [st objW a s, st objV r s]
theorem u32_mod (n : Int) : n % 4294967296 = (((n % 4294967296).toNat : Nat) : Int) := by omega
theorem writes1 {w : World} {F : Blks} (a r : Nat) (s : WS) (two : Bool) (n : Int) (A : Option Addr) (m c : Nat) (h : (duo a r s).on w F) (hn : -9223372036854775808 ≤ n ∧ n ≤ 9223372036854775807) :
    Calls Try.prog 14 #[.pointer (some ⟨a, 0, none⟩), .pointer (some ⟨r, 0, none⟩), .agg #[.bool two, .int .i64 1, .int .i64 n, .slice A m c]] w fun e w' => e = .returned (.bool true) ∧ Turn w w' F (duo a r (s.num n 255 1)) := by
  have T0 := Lib.hid (Turn.boxed h (.cells #[.bool two, .int .i64 1, .int .i64 n, .slice A m c] 29))
  have HN := Lib.hid hn
  clear h hn
  go_enter Try.func14, Try.ntmps14
  go_wp2_with fail
  obtain ⟨F1, h1, _, k1⟩ := Turn.pick T0.out 0 (by simp)
  refine (wu8_calls a s n h1 HN.out).mono ?_
  rintro e w1 ⟨rfl, ht⟩
  have T1 : Hid (Turn w w1 F (all [st objW a (s.num n 255 1), st objV r s, box w.heap.size (.cells #[.bool two, .int .i64 1, .int .i64 n, .slice A m c] 29)])) := Lib.hid (k1 _ _ ht)
  have hb := Turn.heap T1.out 2 (by simp) rfl
  have hb2 : w1.cell? ⟨w.heap.size, 2, none⟩ = some (.int .i64 n) := cell_of hb rfl
  clear k1 h1 ht hb
  go_wp2_with fail
  obtain ⟨F2, h2, _, k2⟩ := Turn.pick T1.out 1 (by simp)
  refine (ru8_calls r s n h2 HN.out).mono ?_
  rintro e w2 ⟨rfl, ht⟩
  have T2 : Hid (Turn w w2 F (all ([st objW a (s.num n 255 1), st objV r (s.num n 255 1)] ++ [box w.heap.size (.cells #[.bool two, .int .i64 1, .int .i64 n, .slice A m c] 29)]))) := Lib.hid (k2 _ _ ht)
  clear k2 h2 ht
  go_wp2_with fail
  go_ret
  exact ⟨by simp, T2.out.unbox⟩
theorem writes2 {w : World} {F : Blks} (a r : Nat) (s : WS) (two : Bool) (n : Int) (A : Option Addr) (m c : Nat) (h : (duo a r s).on w F) (hn : -9223372036854775808 ≤ n ∧ n ≤ 9223372036854775807) :
    Calls Try.prog 14 #[.pointer (some ⟨a, 0, none⟩), .pointer (some ⟨r, 0, none⟩), .agg #[.bool two, .int .i64 2, .int .i64 n, .slice A m c]] w fun e w' => e = .returned (.bool true) ∧ Turn w w' F (duo a r (s.num n 65535 2)) := by
  have T0 := Lib.hid (Turn.boxed h (.cells #[.bool two, .int .i64 2, .int .i64 n, .slice A m c] 29))
  have HN := Lib.hid hn
  clear h hn
  go_enter Try.func14, Try.ntmps14
  go_wp2_with fail
  obtain ⟨F1, h1, _, k1⟩ := Turn.pick T0.out 0 (by simp)
  refine (wu16_calls a s n h1 HN.out).mono ?_
  rintro e w1 ⟨rfl, ht⟩
  have T1 : Hid (Turn w w1 F (all [st objW a (s.num n 65535 2), st objV r s, box w.heap.size (.cells #[.bool two, .int .i64 2, .int .i64 n, .slice A m c] 29)])) := Lib.hid (k1 _ _ ht)
  have hb := Turn.heap T1.out 2 (by simp) rfl
  have hb2 : w1.cell? ⟨w.heap.size, 2, none⟩ = some (.int .i64 n) := cell_of hb rfl
  clear k1 h1 ht hb
  go_wp2_with fail
  obtain ⟨F2, h2, _, k2⟩ := Turn.pick T1.out 1 (by simp)
  refine (ru16_calls r s n h2 HN.out).mono ?_
  rintro e w2 ⟨rfl, ht⟩
  have T2 : Hid (Turn w w2 F (all ([st objW a (s.num n 65535 2), st objV r (s.num n 65535 2)] ++ [box w.heap.size (.cells #[.bool two, .int .i64 2, .int .i64 n, .slice A m c] 29)]))) := Lib.hid (k2 _ _ ht)
  clear k2 h2 ht
  go_wp2_with fail
  go_ret
  exact ⟨by simp, T2.out.unbox⟩
theorem writes3 {w : World} {F : Blks} (a r : Nat) (s : WS) (two : Bool) (n : Int) (A : Option Addr) (m c : Nat) (h : (duo a r s).on w F) (hn : -9223372036854775808 ≤ n ∧ n ≤ 9223372036854775807) :
    Calls Try.prog 14 #[.pointer (some ⟨a, 0, none⟩), .pointer (some ⟨r, 0, none⟩), .agg #[.bool two, .int .i64 3, .int .i64 n, .slice A m c]] w fun e w' => e = .returned (.bool true) ∧ Turn w w' F (duo a r (s.put (little 4 (n % 4294967296).toNat))) := by
  have T0 := Lib.hid (Turn.boxed h (.cells #[.bool two, .int .i64 3, .int .i64 n, .slice A m c] 29))
  have HN := Lib.hid hn
  clear h hn
  obtain ⟨y, hy⟩ : ∃ y : Nat, y = (n % 4294967296).toNat := ⟨_, rfl⟩
  have hyl : y < 4294967296 := by omega
  have hu : n % 4294967296 = (y : Int) := by omega
  rw [← hy]
  clear hy
  go_enter Try.func14, Try.ntmps14
  go_wp2_with fail
  obtain ⟨F1, h1, _, k1⟩ := Turn.pick T0.out 0 (by simp)
  refine (wu32_calls a s y h1 hyl).mono ?_
  rintro e w1 ⟨rfl, ht⟩
  have T1 : Hid (Turn w w1 F (all [st objW a (s.put (little 4 y)), st objV r s, box w.heap.size (.cells #[.bool two, .int .i64 3, .int .i64 n, .slice A m c] 29)])) := Lib.hid (k1 _ _ ht)
  have hb := Turn.heap T1.out 2 (by simp) rfl
  have hb2 : w1.cell? ⟨w.heap.size, 2, none⟩ = some (.int .i64 n) := cell_of hb rfl
  clear k1 h1 ht hb
  go_wp2_with fail
  obtain ⟨F2, h2, _, k2⟩ := Turn.pick T1.out 1 (by simp)
  refine (ru32_calls r s y h2 hyl).mono ?_
  rintro e w2 ⟨rfl, ht⟩
  have T2 : Hid (Turn w w2 F (all ([st objW a (s.put (little 4 y)), st objV r (s.put (little 4 y))] ++ [box w.heap.size (.cells #[.bool two, .int .i64 3, .int .i64 n, .slice A m c] 29)]))) := Lib.hid (k2 _ _ ht)
  clear k2 h2 ht
  go_wp2_with fail
  go_ret
  exact ⟨by simp, T2.out.unbox⟩
theorem writes4 {w : World} {F : Blks} (a r : Nat) (s : WS) (two : Bool) (n : Int) (A : Option Addr) (m c : Nat) (h : (duo a r s).on w F) (hn : -9223372036854775808 ≤ n ∧ n ≤ 9223372036854775807) :
    Calls Try.prog 14 #[.pointer (some ⟨a, 0, none⟩), .pointer (some ⟨r, 0, none⟩), .agg #[.bool two, .int .i64 4, .int .i64 n, .slice A m c]] w fun e w' => e = .returned (.bool true) ∧ Turn w w' F (duo a r (s.put (little 8 (n % 18446744073709551616).toNat))) := by
  have T0 := Lib.hid (Turn.boxed h (.cells #[.bool two, .int .i64 4, .int .i64 n, .slice A m c] 29))
  have HN := Lib.hid hn
  clear h hn
  go_enter Try.func14, Try.ntmps14
  go_wp2_with fail
  obtain ⟨F1, h1, _, k1⟩ := Turn.pick T0.out 0 (by simp)
  refine (wu64_calls a s n h1 HN.out).mono ?_
  rintro e w1 ⟨rfl, ht⟩
  have T1 : Hid (Turn w w1 F (all [st objW a (s.put (little 8 (n % 18446744073709551616).toNat)), st objV r s, box w.heap.size (.cells #[.bool two, .int .i64 4, .int .i64 n, .slice A m c] 29)])) := Lib.hid (k1 _ _ ht)
  have hb := Turn.heap T1.out 2 (by simp) rfl
  have hb2 : w1.cell? ⟨w.heap.size, 2, none⟩ = some (.int .i64 n) := cell_of hb rfl
  clear k1 h1 ht hb
  go_wp2_with fail
  obtain ⟨F2, h2, _, k2⟩ := Turn.pick T1.out 1 (by simp)
  refine (ru64_calls r s n h2 HN.out).mono ?_
  rintro e w2 ⟨rfl, ht⟩
  have T2 : Hid (Turn w w2 F (all ([st objW a (s.put (little 8 (n % 18446744073709551616).toNat)), st objV r (s.put (little 8 (n % 18446744073709551616).toNat))] ++ [box w.heap.size (.cells #[.bool two, .int .i64 4, .int .i64 n, .slice A m c] 29)]))) := Lib.hid (k2 _ _ ht)
  clear k2 h2 ht
  go_wp2_with fail
  go_ret
  exact ⟨by simp, T2.out.unbox⟩
theorem writes6 {w : World} {F : Blks} (a r : Nat) (s : WS) (two : Bool) (n : Int) (A : Option Addr) (m c : Nat) (h : (duo a r s).on w F) (hn : -9223372036854775808 ≤ n ∧ n ≤ 9223372036854775807) :
    Calls Try.prog 14 #[.pointer (some ⟨a, 0, none⟩), .pointer (some ⟨r, 0, none⟩), .agg #[.bool two, .int .i64 6, .int .i64 n, .slice A m c]] w fun e w' => e = .returned (.bool true) ∧ Turn w w' F (duo a r (s.open_)) := by
  have T0 := Lib.hid (Turn.boxed h (.cells #[.bool two, .int .i64 6, .int .i64 n, .slice A m c] 29))
  have HN := Lib.hid hn
  clear h hn
  go_enter Try.func14, Try.ntmps14
  go_wp2_with fail
  obtain ⟨F1, h1, _, k1⟩ := Turn.pick T0.out 0 (by simp)
  refine (open_calls a s h1).mono ?_
  rintro e w1 ⟨rfl, ht⟩
  have T1 : Hid (Turn w w1 F (all [st objW a (s.open_), st objV r s, box w.heap.size (.cells #[.bool two, .int .i64 6, .int .i64 n, .slice A m c] 29)])) := Lib.hid (k1 _ _ ht)
  have hb := Turn.heap T1.out 2 (by simp) rfl
  clear k1 h1 ht hb
  go_wp2_with fail
  obtain ⟨F2, h2, _, k2⟩ := Turn.pick T1.out 1 (by simp)
  refine (ropen_calls r s h2).mono ?_
  rintro e w2 ⟨rfl, ht⟩
  have T2 : Hid (Turn w w2 F (all ([st objW a (s.open_), st objV r (s.open_)] ++ [box w.heap.size (.cells #[.bool two, .int .i64 6, .int .i64 n, .slice A m c] 29)]))) := Lib.hid (k2 _ _ ht)
  clear k2 h2 ht
  go_wp2_with fail
  go_ret
  exact ⟨by simp, T2.out.unbox⟩
theorem writes7 {w : World} {F : Blks} (a r : Nat) (s : WS) (two : Bool) (n : Int) (A : Option Addr) (m c : Nat) (h : (duo a r s).on w F) (hn : -9223372036854775808 ≤ n ∧ n ≤ 9223372036854775807) :
    Calls Try.prog 14 #[.pointer (some ⟨a, 0, none⟩), .pointer (some ⟨r, 0, none⟩), .agg #[.bool two, .int .i64 7, .int .i64 n, .slice A m c]] w fun e w' => e = .returned (.bool true) ∧ Turn w w' F (duo a r (s.seal)) := by
  have T0 := Lib.hid (Turn.boxed h (.cells #[.bool two, .int .i64 7, .int .i64 n, .slice A m c] 29))
  have HN := Lib.hid hn
  clear h hn
  go_enter Try.func14, Try.ntmps14
  go_wp2_with fail
  obtain ⟨F1, h1, _, k1⟩ := Turn.pick T0.out 0 (by simp)
  refine (seal_calls a s h1).mono ?_
  rintro e w1 ⟨rfl, ht⟩
  have T1 : Hid (Turn w w1 F (all [st objW a (s.seal), st objV r s, box w.heap.size (.cells #[.bool two, .int .i64 7, .int .i64 n, .slice A m c] 29)])) := Lib.hid (k1 _ _ ht)
  have hb := Turn.heap T1.out 2 (by simp) rfl
  clear k1 h1 ht hb
  go_wp2_with fail
  obtain ⟨F2, h2, _, k2⟩ := Turn.pick T1.out 1 (by simp)
  refine (rseal_calls r s h2).mono ?_
  rintro e w2 ⟨rfl, ht⟩
  have T2 : Hid (Turn w w2 F (all ([st objW a (s.seal), st objV r (s.seal)] ++ [box w.heap.size (.cells #[.bool two, .int .i64 7, .int .i64 n, .slice A m c] 29)]))) := Lib.hid (k2 _ _ ht)
  clear k2 h2 ht
  go_wp2_with fail
  go_ret
  exact ⟨by simp, T2.out.unbox⟩
theorem row_C {w : World} {v : Value} {xs : List Int} {G : Blks} (h : (row 5 .u8 v xs).on w G) : ∃ A c, v = .slice A xs.length c ∧ xs.length ≤ c ∧ Kd.C (Kd.int .u8) w A xs.length xs ∧ (0 < xs.length → ∀ x, A = some x → G x.block) := by
  obtain ⟨A, c, rfl, hc, hC⟩ := h.1.reads
  refine ⟨A, c, rfl, hc, hC, fun _ x hx => ?_⟩
  subst hx
  exact h.2 x.block rfl
theorem new_row {w w' : World} {v : Value} {xs : List Int} (h : New w w' v xs) : (row 5 .u8 v xs).on w' (fun b => w.heap.size ≤ b) := ⟨h.1, h.2.1⟩
theorem writes5 {w : World} {F : Blks} (a r : Nat) (s : WS) (two : Bool) (n : Int) (A : Option Addr) (c : Nat) (l : List UInt8) (h : (duo a r s).on w F) (hr : Kd.C (Kd.int .u8) w A (bl l).length (bl l)) (hc : (bl l).length ≤ c) (hl : l.length ≤ 140737488351232) (hA : 0 < (bl l).length → ∀ x, A = some x → ¬ F x.block ∧ x.block < w.heap.size) :
    Calls Try.prog 14 #[.pointer (some ⟨a, 0, none⟩), .pointer (some ⟨r, 0, none⟩), .agg #[.bool two, .int .i64 5, .int .i64 n, .slice A (bl l).length c]] w fun e w' => e = .returned (.bool true) ∧ Turn w w' F (duo a r (s.put l)) := by
  have T0 := Lib.hid (Turn.boxed h (.cells #[.bool two, .int .i64 5, .int .i64 n, .slice A (bl l).length c] 29))
  have HR := Lib.hid hr
  have HL := Lib.hid hl
  have HA := Lib.hid hA
  have HA1 := Lib.hid (fun h0 x hx => (hA h0 x hx).1)
  clear h hr hl hA
  go_enter Try.func14, Try.ntmps14
  go_wp2_with fail
  refine (dup_calls A c l _ (C_only HR.out T0.out.1 HA1.out) hc HL.out).mono ?_
  rintro e w1 ⟨v, rfl, hnew⟩
  have T1 : Hid (Turn w w1 F (all [st objW a s, st objV r s, box w.heap.size (.cells #[.bool two, .int .i64 5, .int .i64 n, .slice A (bl l).length c] 29), row 5 .u8 v (bl l)])) := Lib.hid (Turn.add T0.out hnew.2.2 (new_row hnew))
  clear hnew
  obtain ⟨F1, G, h1, hG, hdis, _, k1⟩ := Turn.pick2 T1.out 0 3 (by simp) (by simp) (by simp)
  obtain ⟨A1, c1, rfl, hc1, hC1, hown⟩ := row_C (show (row 5 .u8 v (bl l)).on w1 G from hG)
  have HC1 := Lib.hid hC1
  have HAW := Lib.hid (fun h0 x hx => hdis _ (hown h0 x hx))
  have H1 := Lib.hid h1
  have K1 := Lib.hid k1
  clear hG hC1 hdis hown h1 k1
  go_wp2_with fail
  refine (block_calls a s A1 c1 l H1.out HC1.out hc1 HL.out HAW.out).mono ?_
  rintro e w2 ⟨rfl, ht⟩
  have T2 : Hid (Turn w w2 F (all [st objW a (s.put l), st objV r s, box w.heap.size (.cells #[.bool two, .int .i64 5, .int .i64 n, .slice A (bl l).length c] 29), row 5 .u8 (.slice A1 (bl l).length c1) (bl l)])) := Lib.hid (K1.out _ _ ht)
  clear ht H1 K1 HAW HC1
  have hb := Turn.heap T2.out 2 (by simp) rfl
  have hb3 : w2.cell? ⟨w.heap.size, 3, none⟩ = some (.slice A (bl l).length c) := cell_of hb rfl
  clear hb
  obtain ⟨F2, h2, hu2, k2⟩ := Turn.pick T2.out 1 (by simp)
  have H2 := Lib.hid h2
  have K2 := Lib.hid k2
  have HU2 := Lib.hid hu2
  clear h2 k2 hu2
  go_wp2_with fail
  refine (rblock_calls r s A c l H2.out (C_only HR.out T2.out.1 HA1.out) hc HL.out (later_away HA.out HU2.out)).mono ?_
  rintro e w3 ⟨rfl, ht⟩
  have T3 : Hid (Turn w w3 F (all ([st objW a (s.put l), st objV r (s.put l)] ++ [box w.heap.size (.cells #[.bool two, .int .i64 5, .int .i64 n, .slice A (bl l).length c] 29), row 5 .u8 (.slice A1 (bl l).length c1) (bl l)]))) := Lib.hid (K2.out _ _ ht)
  clear ht H2 K2 HU2 hb3
  have hb := Turn.heap (l := [st objW a (s.put l), st objV r (s.put l), box w.heap.size (.cells #[.bool two, .int .i64 5, .int .i64 n, .slice A (bl l).length c] 29), row 5 .u8 (.slice A1 (bl l).length c1) (bl l)]) T3.out 2 (by simp) rfl
  have hb3 : w3.cell? ⟨w.heap.size, 3, none⟩ = some (.slice A (bl l).length c) := cell_of hb rfl
  clear hb
  obtain ⟨F3, h3, _⟩ := All.at_ (show All [st objW a (s.put l), st objV r (s.put l), box w.heap.size (.cells #[.bool two, .int .i64 5, .int .i64 n, .slice A (bl l).length c] 29), row 5 .u8 (.slice A1 (bl l).length c1) (bl l)] w3 _ from T3.out.2) 3 (by simp)
  have h3' : (row 5 .u8 (.slice A1 (bl l).length c1) (bl l)).on w3 F3 := h3
  obtain ⟨A3, c3, e3, hc3, hC3, _⟩ := row_C h3'
  injection e3 with e4 _ e5
  subst e4 e5
  have HC3 := Lib.hid hC3
  clear h3 h3' hC3
  go_wp2_with fail
  refine (same_calls A1 c1 w3 A c (bl l) (bl l) HC3.out hc1 (C_only HR.out T3.out.1 HA1.out) hc rfl).mono ?_
  rintro e w4 ⟨rfl, hd⟩
  have T4 := Lib.hid (T3.out.unbox.then_drawn hd)
  clear hd
  go_wp2_with fail
  go_ret
  exact ⟨rfl, T4.out⟩
theorem writes8 {w : World} {F : Blks} (a r : Nat) (s : WS) (two : Bool) (n : Int) (A : Option Addr) (m c : Nat) (h : (duo a r s).on w F) (hn : -9223372036854775808 ≤ n ∧ n ≤ 9223372036854775807) :
    Calls Try.prog 14 #[.pointer (some ⟨a, 0, none⟩), .pointer (some ⟨r, 0, none⟩), .agg #[.bool two, .int .i64 8, .int .i64 n, .slice A m c]] w fun e w' => e = .returned (.bool true) ∧ Turn w w' F (duo a r s) := by
  have T0 := Lib.hid (Turn.boxed h (.cells #[.bool two, .int .i64 8, .int .i64 n, .slice A m c] 29))
  clear h hn
  go_enter Try.func14, Try.ntmps14
  go_wp2_with fail
  obtain ⟨F1, h1, _, _⟩ := Turn.pick T0.out 0 (by simp)
  refine (wlen_calls a s h1).mono ?_
  rintro e w1 ⟨rfl, rfl⟩
  clear h1
  go_wp2_with fail
  obtain ⟨F2, h2, _, _⟩ := Turn.pick T0.out 1 (by simp)
  refine (rlen_calls r s h2).mono ?_
  rintro e w2 ⟨rfl, rfl⟩
  clear h2
  go_wp2_with fail
  go_ret
  exact ⟨by simp, T0.out.unbox⟩
theorem writes9 {w : World} {F : Blks} (a r : Nat) (s : WS) (two : Bool) (n : Int) (A : Option Addr) (m c : Nat) (h : (duo a r s).on w F) (hn : -9223372036854775808 ≤ n ∧ n ≤ 9223372036854775807) :
    Calls Try.prog 14 #[.pointer (some ⟨a, 0, none⟩), .pointer (some ⟨r, 0, none⟩), .agg #[.bool two, .int .i64 9, .int .i64 n, .slice A m c]] w fun e w' => e = .returned (.bool true) ∧ Turn w w' F (duo a r s) := by
  have T0 := Lib.hid (Turn.boxed h (.cells #[.bool two, .int .i64 9, .int .i64 n, .slice A m c] 29))
  clear h hn
  go_enter Try.func14, Try.ntmps14
  go_wp2_with fail
  obtain ⟨F1, h1, _, _⟩ := Turn.pick T0.out 0 (by simp)
  refine (werr_calls a s h1).mono ?_
  rintro e w1 ⟨rfl, rfl⟩
  clear h1
  go_wp2_with fail
  obtain ⟨F2, h2, _, _⟩ := Turn.pick T0.out 1 (by simp)
  refine (rerr_calls r s h2).mono ?_
  rintro e w2 ⟨rfl, rfl⟩
  clear h2
  go_wp2_with fail
  go_ret
  exact ⟨by simp, T0.out.unbox⟩
theorem told_len (s : WS) (h : ¬ s.told.2 = 0) : s.told.1 = [] := by
  unfold WS.told at h ⊢
  split
  · split
    · rename_i h1 h2
      rw [if_pos h1, if_pos h2] at h
      exact absurd rfl h
    · rfl
  · rfl
set_option maxHeartbeats 1000000 in
theorem writes10 {w : World} {F : Blks} (a r : Nat) (s : WS) (two : Bool) (n : Int) (A : Option Addr) (m c : Nat) (h : (duo a r s).on w F) (hn : -9223372036854775808 ≤ n ∧ n ≤ 9223372036854775807) :
    Calls Try.prog 14 #[.pointer (some ⟨a, 0, none⟩), .pointer (some ⟨r, 0, none⟩), .agg #[.bool two, .int .i64 10, .int .i64 n, .slice A m c]] w fun e w' => e = .returned (.bool true) ∧ Turn w w' F (duo a r s) := by
  have T0 := Lib.hid (Turn.boxed h (.cells #[.bool two, .int .i64 10, .int .i64 n, .slice A m c] 29))
  clear h hn
  obtain ⟨o, ho⟩ : ∃ o, o = s.told := ⟨_, rfl⟩
  have HZ := Lib.hid (show ¬ o.2 = 0 → o.1 = [] by rw [ho]; exact told_len s)
  have HO := Lib.hid ho
  clear ho
  obtain ⟨l, x⟩ := o
  go_enter Try.func14, Try.ntmps14
  go_wp2_with fail
  obtain ⟨F1, h1, _, _⟩ := Turn.pick T0.out 0 (by simp)
  have hc1 := out_calls a s h1
  rw [← HO.out] at hc1
  refine hc1.mono ?_
  clear h1 hc1
  rintro e w1 ⟨v1, rfl, hn1⟩
  have T1 : Hid (Turn w w1 F (all [st objW a s, st objV r s, box w.heap.size (.cells #[.bool two, .int .i64 10, .int .i64 n, .slice A m c] 29), row 5 .u8 v1 (bl l)])) := Lib.hid (Turn.add T0.out hn1.2.2 (new_row hn1))
  clear hn1
  go_wp2_with fail
  obtain ⟨F2, h2, _, _⟩ := Turn.pick T1.out 1 (by simp)
  have hc2 := rout_calls r s h2
  rw [← HO.out] at hc2
  refine hc2.mono ?_
  clear h2 hc2
  rintro e w2 ⟨v2, rfl, hn2⟩
  have T2 : Hid (Turn w w2 F (all [st objW a s, st objV r s, box w.heap.size (.cells #[.bool two, .int .i64 10, .int .i64 n, .slice A m c] 29), row 5 .u8 v1 (bl l), row 5 .u8 v2 (bl l)])) := Lib.hid (Turn.add T1.out hn2.2.2 (new_row hn2))
  clear hn2
  obtain ⟨F3, h3, _⟩ := All.at_ (show All _ w2 _ from T2.out.2) 3 (by simp)
  obtain ⟨A3, c3, rfl, hc3, hC3, _⟩ := row_C (show (row 5 .u8 v1 (bl l)).on w2 F3 from h3)
  obtain ⟨F4, h4, _⟩ := All.at_ (show All _ w2 _ from T2.out.2) 4 (by simp)
  obtain ⟨A4, c4, rfl, hc4, hC4, _⟩ := row_C (show (row 5 .u8 v2 (bl l)).on w2 F4 from h4)
  have HS := Lib.hid (same_calls A3 c3 w2 A4 c4 (bl l) (bl l) hC3 hc3 hC4 hc4 rfl)
  have T3 : Hid (Turn w w2 F (all ([st objW a s, st objV r s] ++ [box w.heap.size (.cells #[.bool two, .int .i64 10, .int .i64 n, .slice A m c] 29), row 5 .u8 (.slice A3 (bl l).length c3) (bl l), row 5 .u8 (.slice A4 (bl l).length c4) (bl l)]))) := Lib.hid T2.out
  clear h3 h4 hC3 hC4
  by_cases hx : x = 0
  · subst hx
    go_wp2_with fail
    refine HS.out.mono ?_
    rintro e w4 ⟨rfl, hd⟩
    have T4 := Lib.hid (T3.out.unbox.then_drawn hd)
    clear hd
    go_wp2_with fail
    go_ret
    exact ⟨by simp, T4.out⟩
  · have hl0 : (bl l).length = 0 := by rw [show l = [] from HZ.out hx]; rfl
    have HL0 := Lib.hid hl0
    have t1 : (x == 0) = false := by simpa using hx
    clear hl0 hx
    go_wp2_with fail
    refine HS.out.mono ?_
    rintro e w4 ⟨rfl, hd⟩
    have T4 := Lib.hid (T3.out.unbox.then_drawn hd)
    clear hd
    have t2 : (((bl l).length : Int) == 0) = true := by rw [HL0.out]; rfl
    go_wp2_with fail
    go_ret
    exact ⟨by simp, T4.out⟩
theorem writes_no {w : World} {F : Blks} (a r : Nat) (s : WS) (two : Bool) (kind n : Int) (A : Option Addr) (m c : Nat) (h : (duo a r s).on w F) (hk : kind < 1 ∨ 10 < kind) :
    Calls Try.prog 14 #[.pointer (some ⟨a, 0, none⟩), .pointer (some ⟨r, 0, none⟩), .agg #[.bool two, .int .i64 kind, .int .i64 n, .slice A m c]] w fun e w' => e = .returned (.bool true) ∧ Turn w w' F (duo a r s) := by
  have T0 := Lib.hid (Turn.boxed h (.cells #[.bool two, .int .i64 kind, .int .i64 n, .slice A m c] 29))
  have k1 : (kind == 1) = false := by simp; omega
  have k2 : (kind == 2) = false := by simp; omega
  have k3 : (kind == 3) = false := by simp; omega
  have k4 : (kind == 4) = false := by simp; omega
  have k5 : (kind == 5) = false := by simp; omega
  have k6 : (kind == 6) = false := by simp; omega
  have k7 : (kind == 7) = false := by simp; omega
  have k8 : (kind == 8) = false := by simp; omega
  have k9 : (kind == 9) = false := by simp; omega
  have k10 : (kind == 10) = false := by simp; omega
  clear h hk
  go_enter Try.func14, Try.ntmps14
  go_wp2_with fail
  go_ret
  exact ⟨rfl, T0.out.unbox⟩
/-- whatever the step: the answers are the same, and both go on alike. -/
theorem writes_calls {w : World} {F : Blks} (a r : Nat) (s : WS) (two : Bool) (kind n : Int) (A : Option Addr) (c : Nat) (l : List UInt8) (h : (duo a r s).on w F) (hn : -9223372036854775808 ≤ n ∧ n ≤ 9223372036854775807) (hr : Kd.C (Kd.int .u8) w A (bl l).length (bl l)) (hc : (bl l).length ≤ c) (hl : l.length ≤ 140737488351232) (hA : 0 < (bl l).length → ∀ x, A = some x → ¬ F x.block ∧ x.block < w.heap.size) :
    Calls Try.prog 14 #[.pointer (some ⟨a, 0, none⟩), .pointer (some ⟨r, 0, none⟩), .agg #[.bool two, .int .i64 kind, .int .i64 n, .slice A (bl l).length c]] w fun e w' => e = .returned (.bool true) ∧ Turn w w' F (duo a r (s.step kind n l)) := by
  by_cases h0 : kind < 1 ∨ 10 < kind
  · have e : s.step kind n l = s := by
      unfold WS.step
      rw [if_neg (by omega), if_neg (by omega), if_neg (by omega), if_neg (by omega), if_neg (by omega), if_neg (by omega), if_neg (by omega)]
    rw [e]
    exact writes_no a r s two kind n A _ c h h0
  · have h1 : kind = 1 ∨ kind = 2 ∨ kind = 3 ∨ kind = 4 ∨ kind = 5 ∨ kind = 6 ∨ kind = 7 ∨ kind = 8 ∨ kind = 9 ∨ kind = 10 := by omega
    rcases h1 with e | e | e | e | e | e | e | e | e | e <;> subst e
    · exact writes1 a r s two n A _ c h hn
    · exact writes2 a r s two n A _ c h hn
    · exact writes3 a r s two n A _ c h hn
    · exact writes4 a r s two n A _ c h hn
    · exact writes5 a r s two n A c l h hr hc hl hA
    · exact writes6 a r s two n A _ c h hn
    · exact writes7 a r s two n A _ c h hn
    · exact writes8 a r s two n A _ c h hn
    · exact writes9 a r s two n A _ c h hn
    · exact writes10 a r s two n A _ c h hn
theorem written_calls {w : World} {F : Blks} (a r : Nat) (s : WS) (h : (duo a r s).on w F) :
    Calls Try.prog 15 #[.pointer (some ⟨a, 0, none⟩), .pointer (some ⟨r, 0, none⟩)] w fun e w' => e = .returned (.bool true) ∧ Turn w w' F (duo a r s) := by
  have H := Lib.hid (writes8 a r s false 0 none 0 0 h (by omega))
  clear h
  go_enter Try.func15, Try.ntmps15
  go_wp2_with fail
  refine H.out.mono ?_
  rintro e w1 ⟨rfl, ht⟩
  have T1 := Lib.hid ht
  clear ht
  go_wp2_with fail
  refine (writes9 a r s false 0 none 0 0 T1.out.2 (by omega)).mono ?_
  rintro e w2 ⟨rfl, ht⟩
  have T2 := Lib.hid (T1.out.trans ht)
  clear ht
  go_wp2_with fail
  refine (writes10 a r s false 0 none 0 0 T2.out.2 (by omega)).mono ?_
  rintro e w3 ⟨rfl, ht⟩
  have T3 := Lib.hid (T2.out.trans ht)
  clear ht
  go_wp2_with fail
  go_ret
  exact ⟨by simp, T3.out⟩
end Go.Proofs.Ytdmliaodacaefaa.Wr
