/- A reader meets a part: the join of found's contract and the plain law. -/
import Derived.Test.YtdmliaodacaefaaFound
import Derived.Test.YtdmliaodacaefaaParts
namespace Go.Proofs.Ytdmliaodacaefaa.Gb
open Go.RowKit Go.Proofs.YtdmliaodacaefaaW.PrintWords Go.Proofs.YtdmliaodacaefaaW.PrintLast Go.Proofs.YtdmliaodacaefaaW.PrintMore Go.Proofs.Ytdmliaodacaefaa.Mem Go.Proofs.Ytdmliaodacaefaa.Sep Go.Proofs.Ytdmliaodacaefaa.Bridge Go.Proofs.Ytdmliaodacaefaa.Wr Go.Proofs.Ytdmliaodacaefaa.Ops Go.Proofs.Ytdmliaodacaefaa.Rd
set_option linter.unusedVariables false
set_option linter.unusedSimpArgs false
theorem found_calls {w : World} {F : Blks} (a : Nat) (s : RS) (two : Bool) (kind n : Int) (A : Option Addr) (c : Nat) (l : List UInt8) (pre post : List UInt8) (h : (rd 76 a s).on w F) (hn : -9223372036854775808 ≤ n ∧ n ≤ 9223372036854775807)
    (hr : Kd.C (Kd.int .u8) w A (bl l).length (bl l)) (hc : (bl l).length ≤ c) (hA : 0 < (bl l).length → ∀ x, A = some x → ¬ F x.block)
    (he : s.err = 0) (hi : s.inp = pre ++ part kind n l ++ post) (hp : s.pos = pre.length) :
    Calls Try.prog 34 #[.pointer (some ⟨a, 0, none⟩), .agg #[.bool two, .int .i64 kind, .int .i64 n, .slice A (bl l).length c]] w fun e w' => e = .returned (.bool true) ∧ Turn w w' F (rd 76 a (s.go (s.pos + (part kind n l).length))) := by
  by_cases h0 : kind < 1 ∨ 6 < kind
  · have e : part kind n l = [] := by
      unfold part
      rw [if_neg (by omega), if_neg (by omega), if_neg (by omega), if_neg (by omega), if_neg (by omega), if_neg (by omega)]
    rw [e]
    exact found_no a s two kind n A _ c h h0
  · have h1 : kind = 1 ∨ kind = 2 ∨ kind = 3 ∨ kind = 4 ∨ kind = 5 ∨ kind = 6 := by omega
    rcases h1 with e | e | e | e | e | e <;> subst e
    · have hi : s.inp = pre ++ little 1 (n % 256).toNat ++ post := hi
      have e1 := takeS_part he hi hp
      have e2 := takeV_part he hi hp
      rw [little_length] at e1 e2
      rw [worth_little] at e2
      show Calls _ _ _ _ fun e w' => _ ∧ Turn w w' F (rd 76 a (s.go (s.pos + (little 1 (n % 256).toNat).length)))
      rw [little_length, ← e1]
      exact found1 a s two n A _ c h hn (by rw [e2]; unfold wrap64; omega)
    · have hi : s.inp = pre ++ little 2 (n % 65536).toNat ++ post := hi
      have e1 := takeS_part he hi hp
      have e2 := takeV_part he hi hp
      rw [little_length] at e1 e2
      rw [worth_little] at e2
      show Calls _ _ _ _ fun e w' => _ ∧ Turn w w' F (rd 76 a (s.go (s.pos + (little 2 (n % 65536).toNat).length)))
      rw [little_length, ← e1]
      exact found2 a s two n A _ c h hn (by rw [e2]; unfold wrap64; omega)
    · have hi : s.inp = pre ++ little 4 (n % 4294967296).toNat ++ post := hi
      have e1 := takeS_part he hi hp
      have e2 := takeV_part he hi hp
      rw [little_length] at e1 e2
      rw [worth_little] at e2
      show Calls _ _ _ _ fun e w' => _ ∧ Turn w w' F (rd 76 a (s.go (s.pos + (little 4 (n % 4294967296).toNat).length)))
      rw [little_length, ← e1]
      exact found3 a s two n A _ c h hn (by rw [e2]; omega)
    · have hi : s.inp = pre ++ little 8 (n % 18446744073709551616).toNat ++ post := hi
      have e1 := takeS_part he hi hp
      have e2 := takeV_part he hi hp
      rw [little_length] at e1 e2
      rw [worth_little] at e2
      show Calls _ _ _ _ fun e w' => _ ∧ Turn w w' F (rd 76 a (s.go (s.pos + (little 8 (n % 18446744073709551616).toNat).length)))
      rw [little_length, ← e1]
      exact found4 a s two n A _ c h hn (by rw [e2]; unfold wrap64; omega)
    · have hi : s.inp = pre ++ l ++ post := hi
      have e1 := takeS_part he hi hp
      have e2 := blockL_part he hi hp
      show Calls _ _ _ _ fun e w' => _ ∧ Turn w w' F (rd 76 a (s.go (s.pos + l.length)))
      rw [← e1]
      have hh := found5 a s two n A c l h hr hc hA (by rw [bl_length]; exact e2)
      rw [show ((bl l).length : Int) = (l.length : Int) by rw [bl_length]] at hh
      exact hh
    · have hi : s.inp = pre ++ Bu.mark l l ++ post := hi
      have e1 := sealedS_part he hi hp
      have e2 := sealedL_part he hi hp
      show Calls _ _ _ _ fun e w' => _ ∧ Turn w w' F (rd 76 a (s.go (s.pos + (Bu.mark l l).length)))
      rw [Bu.mark_length, ← e1]
      have hh := found6 a s two n A c l h hr hc hA (by rw [bl_length]; exact e2)
      rw [show ((bl l).length : Int) = (l.length : Int) by rw [bl_length]] at hh
      exact hh
theorem end_no {s : RS} (h : 0 < s.left) (he : s.err = 0) : s.endE = 22 := by unfold RS.endE; rw [if_pos ⟨he, h⟩]
end Go.Proofs.Ytdmliaodacaefaa.Gb
