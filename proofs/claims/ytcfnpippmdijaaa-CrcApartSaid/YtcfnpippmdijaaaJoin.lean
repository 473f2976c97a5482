/- Package crc's Join, for every two sums and every number: the sum of the joined bytes by the linear map of n zero bytes, or the refusal. By walks of linear.of, linear.twice and Join. -/
import Derived.Test.YtcfnpippmdijaaaPAllx1
import Derived.Test.YtcfnpippmdijaaaBridge
import Derived.Deep.OwnRows
import Derived.Laws.CopyOwn
import Derived.Lib.Hide
namespace Go.Proofs.Ytcfnpippmdijaaa.Join
open Go.RowKit Go.Proofs.YtcfnpippmdijaaaW.PrintWords Go.Proofs.YtcfnpippmdijaaaW.PrintLast Go.Proofs.YtcfnpippmdijaaaW.PrintMore Go.Proofs.Ytcfnpippmdijaaa.Bridge
def appTo (M : Nat → CrcM.W) (v : CrcM.W) : Nat → CrcM.W
  | 0 => BitVec.ofNat 32 0
  | i + 1 => if v.getLsbD i = true then appTo M v i ^^^ M i else appTo M v i
def app (M : Nat → CrcM.W) (v : CrcM.W) : CrcM.W := appTo M v 32
theorem bit_ui (v : CrcM.W) (k : Nat) : Go.bits .and .u32 (ui v / 2 ^ k) 1 = if v.getLsbD k = true then 1 else 0 := by
  have e : ui v / 2 ^ k = ui (v >>> k) := by
    unfold ui; rw [BitVec.toNat_ushiftRight, Nat.shiftRight_eq_div_pow]; push_cast; rfl
  rw [e, and1_ui, BitVec.getLsbD_ushiftRight, Nat.add_zero]
theorem ret_u32 {a b : CrcM.W} (h : a = b) : Ending.returned (.int .u32 (ui a)) = .returned (.int .u32 (ui b)) := by rw [h]
set_option maxHeartbeats 1000000 in
theorem of_any (b : Nat) (M : Nat → CrcM.W) (v : CrcM.W) (w : World) (hc : ∀ i, i < 32 → w.cell? ⟨b, i, none⟩ = some (.int .u32 (ui (M i)))) :
    Calls Try.prog 39 #[.pointer (some ⟨b, 0, none⟩), .int .u32 (ui v)] w fun e w' => e = .returned (.int .u32 (ui (app M v))) ∧ w = w' := by
  go_enter Try.func39, Try.ntmps39
  go_wp2
  go_loopw [5, 7] (fun o i wr => ∃ k : Nat, k ≤ 32 ∧ i = .int .i64 k ∧ o = .int .u32 (ui (appTo M v k)) ∧ wr = w) (fun _ i _ => 32 - (intOf i).toNat)
  case atStart => exact ⟨0, by omega, rfl, rfl, rfl⟩
  case round =>
    obtain ⟨k, hk, rfl, rfl, rfl⟩ := hrel
    by_cases hlt : k < 32
    · have hck := hc k hlt
      have hb := bit_ui v k
      by_cases h1 : v.getLsbD k = true
      · rw [if_pos h1] at hb
        have hbt : (Go.bits .and .u32 (ui v / 2 ^ k) 1 == 1) = true := by rw [hb]; rfl
        have he : appTo M v (k + 1) = appTo M v k ^^^ M k := by rw [appTo, if_pos h1]
        have HE := Lib.hid he
        clear hb he h1 hc
        go_wp2_with fail
        exact ⟨⟨k + 1, by omega, by go_num, by rw [HE.out, xor_ui], trivial⟩, by simp [intOf]; omega⟩
      · rw [if_neg h1] at hb
        have hbt : (Go.bits .and .u32 (ui v / 2 ^ k) 1 == 1) = false := by rw [hb]; rfl
        have he : appTo M v (k + 1) = appTo M v k := by rw [appTo, if_neg h1]
        have HE := Lib.hid he
        clear hb he h1 hc
        go_wp2_with fail
        exact ⟨⟨k + 1, by omega, by go_num, by rw [HE.out], trivial⟩, by simp [intOf]; omega⟩
    · go_wp2_with fail
      go_ret
      exact ⟨ret_u32 (by rw [show k = 32 by omega]; rfl), rfl⟩
attribute [local irreducible] app appTo
def rowW (w : World) (b : Nat) (f : Nat → CrcM.W) : Prop := w.rowIs b 62 32 (fun i => .int .u32 (ui (f i)))
theorem rowW.cell {w : World} {b : Nat} {f : Nat → CrcM.W} (h : rowW w b f) (i : Nat) (hi : i < 32) : w.cell? ⟨b, i, none⟩ = some (.int .u32 (ui (f i))) := World.rowIs.cell h hi
theorem rowW.zeros (w : World) : rowW (w.alloc (.cells #[.int .u32 0, .int .u32 0, .int .u32 0, .int .u32 0, .int .u32 0, .int .u32 0, .int .u32 0, .int .u32 0, .int .u32 0, .int .u32 0, .int .u32 0, .int .u32 0, .int .u32 0, .int .u32 0, .int .u32 0, .int .u32 0, .int .u32 0, .int .u32 0, .int .u32 0, .int .u32 0, .int .u32 0, .int .u32 0, .int .u32 0, .int .u32 0, .int .u32 0, .int .u32 0, .int .u32 0, .int .u32 0, .int .u32 0, .int .u32 0, .int .u32 0, .int .u32 0] 62)) w.heap.size (fun _ => BitVec.ofNat 32 0) := by
  refine ⟨_, heap_alloc_new w _, rfl, ?_⟩
  intro i hi
  have : ∀ i, i < 32 → (#[.int .u32 0, .int .u32 0, .int .u32 0, .int .u32 0, .int .u32 0, .int .u32 0, .int .u32 0, .int .u32 0, .int .u32 0, .int .u32 0, .int .u32 0, .int .u32 0, .int .u32 0, .int .u32 0, .int .u32 0, .int .u32 0, .int .u32 0, .int .u32 0, .int .u32 0, .int .u32 0, .int .u32 0, .int .u32 0, .int .u32 0, .int .u32 0, .int .u32 0, .int .u32 0, .int .u32 0, .int .u32 0, .int .u32 0, .int .u32 0, .int .u32 0, .int .u32 0] : Array Value) = Array.replicate 32 (.int .u32 0) := fun _ _ => rfl
  rw [this i hi]
  simp [hi]; rfl
/-- a row's store. -/
theorem rowW.set {w : World} {b : Nat} {f : Nat → CrcM.W} (h : rowW w b f) (i : Nat) (x : CrcM.W) : rowW (w.setCell ⟨b, i, none⟩ (.int .u32 (ui x))) b (fun j => if j = i then x else f j) :=
  (World.rowIs.set h i (.int .u32 (ui x))).congr (fun j _ => by by_cases e : j = i <;> simp [e])
def firsts (g f : Nat → CrcM.W) (k : Nat) (i : Nat) : CrcM.W := if i < k then g i else f i
theorem rowW.first {w : World} {b : Nat} {g f : Nat → CrcM.W} {k : Nat} (h : rowW w b (firsts g f k)) : rowW (w.setCell ⟨b, k, none⟩ (.int .u32 (ui (g k)))) b (firsts g f (k + 1)) :=
  World.rowIs.congr (rowW.set h k (g k)) (fun j _ => by
    unfold firsts
    by_cases e : j = k
    · subst e; simp
    · by_cases h1 : j < k
      · simp [e, h1, show j < k + 1 by omega]
      · simp [e, h1, show ¬ j < k + 1 by omega])
theorem rowW.zeroth {w : World} {b : Nat} {g f : Nat → CrcM.W} (h : rowW w b f) : rowW w b (firsts g f 0) := World.rowIs.congr h (fun j _ => by simp [firsts])
theorem rowW.all {w : World} {b : Nat} {g f : Nat → CrcM.W} (h : rowW w b (firsts g f 32)) : rowW w b g := World.rowIs.congr h (fun j hj => by simp [firsts, hj])
/-- a whole array as a value. -/
def isArr (c : Array Value) (f : Nat → CrcM.W) : Prop := c.size = 32 ∧ (∀ i, i < 32 → c[i]? = some (.int .u32 (ui (f i)))) ∧ c.all (·.oneCell') = true
theorem rowW.arr {w : World} {b : Nat} {f : Nat → CrcM.W} (h : rowW w b f) : ∃ c, w.heap[b]? = some (.cells c 62 (0, 0)) ∧ isArr c f := by
  obtain ⟨c, h1, h2, h3⟩ := h
  refine ⟨c, h1, h2, h3, ?_⟩
  rw [Array.all_eq_true]
  intro i hi
  have := h3 i (by omega)
  rw [Array.getElem?_eq_getElem hi] at this
  rw [Option.some.inj this]; rfl
theorem rowW.laid {w : World} {b : Nat} {f g : Nat → CrcM.W} {c : Array Value} (h : rowW w b f) (hc : isArr c g) : rowW (w.setRow b c) b g := by
  obtain ⟨o, h1, h2, h3⟩ := h
  exact ⟨c, setRow_heap w b o c 62 (0, 0) h1, hc.1, hc.2.1⟩
theorem size62 : (Try.prog.info? 62).map (·.size) = some 32 := by kernel_rfl
set_option maxHeartbeats 1000000 in
theorem twice_any (b : Nat) (M : Nat → CrcM.W) (w : World) (hb : b < w.heap.size) (hc : ∀ i, i < 32 → w.cell? ⟨b, i, none⟩ = some (.int .u32 (ui (M i)))) :
    Calls Try.prog 40 #[.pointer (some ⟨b, 0, none⟩)] w fun e w' => ∃ c, e = .returned (.agg c) ∧ isArr c (fun i => app M (M i)) ∧ Below w.heap.size w w' := by
  go_enter Try.func40, Try.ntmps40
  go_wp2
  go_loopw [5] (fun i wr => ∃ k : Nat, k ≤ 32 ∧ i = .int .i64 k ∧ rowW wr w.heap.size (fun _ => BitVec.ofNat 32 0) ∧ rowW wr (w.heap.size + 1) (firsts (fun i => app M (M i)) (fun _ => BitVec.ofNat 32 0) k) ∧ Below w.heap.size w wr) (fun i _ => 32 - (intOf i).toNat)
  case atStart =>
    refine ⟨0, by omega, rfl, ?_, ?_, ?_⟩
    · exact World.rowIs.alloc (rowW.zeros w) _
    · exact rowW.zeroth (by have h := rowW.zeros (w.alloc (.cells #[.int .u32 0, .int .u32 0, .int .u32 0, .int .u32 0, .int .u32 0, .int .u32 0, .int .u32 0, .int .u32 0, .int .u32 0, .int .u32 0, .int .u32 0, .int .u32 0, .int .u32 0, .int .u32 0, .int .u32 0, .int .u32 0, .int .u32 0, .int .u32 0, .int .u32 0, .int .u32 0, .int .u32 0, .int .u32 0, .int .u32 0, .int .u32 0, .int .u32 0, .int .u32 0, .int .u32 0, .int .u32 0, .int .u32 0, .int .u32 0, .int .u32 0, .int .u32 0] 62)); simpa using h)
    · exact ((Below.refl _ _).alloc (Nat.le_refl _) _).alloc (by simp) _
  case round =>
    obtain ⟨k, hk, rfl, hr1, hr2, hbel⟩ := hrel
    have hcw : ∀ i, i < 32 → wr.cell? ⟨b, i, none⟩ = some (.int .u32 (ui (M i))) := fun i hi => by rw [hbel.cell (p := ⟨b, i, none⟩) hb]; exact hc i hi
    by_cases hlt : k < 32
    · have hck := hcw k hlt
      have HCW := Lib.hid hcw
      clear hcw hc
      have hc1 := hr2.cell k hlt
      have hc2 := World.rowIs.frozen hr2 k
      have HR2 := Lib.hid hr2
      clear hr2
      go_wp2_with fail
      refine (of_any b M (M k) _ HCW.out).mono ?_
      rintro e w' ⟨rfl, rfl⟩
      go_wp2_with fail
      refine ⟨⟨k + 1, by omega, by go_num, ?_, ?_, ?_⟩, by simp [intOf]; omega⟩
      · exact World.rowIs.setOther hr1 (by simp) _
      · exact rowW.first (g := fun i => app M (M i)) (k := k) HR2.out
      · exact hbel.setCell (by simp) _
    · obtain rfl : k = 32 := by omega
      obtain ⟨c, hg, hca⟩ := hr2.all.arr
      obtain ⟨z, hz, hza⟩ := hr1.arr
      have hs : (Try.prog.info? 62).map (·.size) = some c.size := size62.trans (congrArg some hca.1.symm)
      have hsz : z.size = c.size := by rw [hza.1, hca.1]
      have h1c := hca.2.2
      have hpost : isArr c (fun i => app M (M i)) ∧ Below w.heap.size w (wr.setRow w.heap.size c) := ⟨hca, below_setRow hbel (Nat.le_refl _) c⟩
      have hres := setRow_heap wr w.heap.size z c 62 (0, 0) hz
      have HP := Lib.hid hpost
      have HS := Lib.hid hs
      have HZ := Lib.hid hsz
      have HG := Lib.hid hg
      have HZZ := Lib.hid hz
      have HC := Lib.hid h1c
      have HR := Lib.hid hres
      clear hpost hs hsz hg hz h1c hr1 hr2 hca hza hc hcw hbel hres
      go_wp2_with (first | ((with_reducible refine gate_dst (N := 18) rfl ?_); refine wpList_load_row rfl 62 (.tmp 3) rfl (w.heap.size + 1) rfl 62 c (0, 0) (.array 32 22) HG.out Try.underlying62 rfl HS.out ?_) | ((with_reducible refine gate_store (p := 2) rfl ?_); refine wpList_store_row rfl 62 (.tmp 2) (.tmp 18) rfl w.heap.size c rfl rfl 62 z HZZ.out HS.out HZ.out HC.out ?_))
      refine bodyPost_ret (v := .agg c) ?_ rfl ⟨c, rfl, HP.out.1, HP.out.2⟩
      exact results_cell_row rfl _ _ w.heap.size 62 c (0, 0) (.array 32 22) rfl HR.out Try.underlying62 rfl HS.out

theorem step_calls (s : CrcM.W) (w : World) : Calls Try.prog 35 #[.int .u32 (ui s), .int .u8 0] w fun e w' => e = .returned (.int .u32 (ui (CrcM.xs 8 s))) ∧ Drawn0 w w' := by
  obtain ⟨k, hk⟩ := Ev.rounds (step_ev s 0)
  rw [CrcM.step_zero] at hk
  exact Go.Proofs.Ytcfnpippmdijaaa.PAll.crc_step.calls k (ui s) 0 _ w hk
theorem shl_one (k : Nat) : ((2 : Int) ^ k % 4294967296) = ui (BitVec.ofNat 32 1 <<< k) := by
  unfold ui
  rw [BitVec.toNat_shiftLeft, Nat.shiftLeft_eq]
  have : ((2 : Int) ^ k) = ((2 ^ k : Nat) : Int) := by push_cast; rfl
  rw [this]
  simp
def joinTo (A : CrcM.W) (n j : Nat) : CrcM.W := CrcM.xs (8 * (n % 2 ^ j)) A
theorem joinTo_zero (A : CrcM.W) (n : Nat) : joinTo A n 0 = A := by unfold joinTo; rw [Nat.pow_zero, Nat.mod_one]; rfl
theorem joinTo_step (A : CrcM.W) (n j m : Nat) (h : n / 2 ^ j = m) : joinTo A n (j + 1) = if m % 2 = 1 then CrcM.xs (8 * 2 ^ j) (joinTo A n j) else joinTo A n j := by
  have hp := Nat.two_pow_pos j
  have e : n % 2 ^ (j + 1) = n % 2 ^ j + 2 ^ j * (m % 2) := by
    rw [← h, Nat.pow_succ, Nat.mod_mul]
  unfold joinTo
  by_cases h1 : m % 2 = 1
  · rw [if_pos h1, ← CrcM.xs_add, e, h1]; congr 1; omega
  · rw [if_neg h1, e, show m % 2 = 0 by omega]; rfl
theorem joinTo_end (A : CrcM.W) (n j : Nat) (h : n / 2 ^ j = 0) : joinTo A n j = CrcM.xs (8 * n) A := by
  unfold joinTo
  rw [Nat.mod_eq_of_lt ((Nat.div_eq_zero_iff.1 h).resolve_left (by have := Nat.two_pow_pos j; omega))]
def pw (e : Nat) (i : Nat) : CrcM.W := CrcM.xs e (BitVec.ofNat 32 1 <<< i)
section
attribute [local semireducible] app appTo
theorem appTo_pw (e : Nat) (v : CrcM.W) (k : Nat) : k ≤ 32 → appTo (pw e) v k = CrcM.xs e (CrcM.lows v k) := by
  induction k with
  | zero => intro _; rw [CrcM.of_zero]; rfl
  | succ k ih => intro hk; rw [CrcM.of_succ e v k (by omega), appTo, ih (by omega)]; rfl
theorem app_pw (e : Nat) (v : CrcM.W) : app (pw e) v = CrcM.xs e v := by
  unfold app; rw [appTo_pw e v 32 (by omega), CrcM.of_all]
end
theorem pw_twice (e : Nat) : (fun i => app (pw e) (pw e i)) = pw (2 * e) := by
  funext i
  rw [app_pw]
  unfold pw
  rw [← CrcM.xs_add]; congr 1; omega
theorem and1_i64 (m : Nat) (h : m < 9223372036854775808) : Go.bits .and .i64 (m : Int) 1 = ((m % 2 : Nat) : Int) := by
  show IntKind.i64.wrap ((BitVec.ofInt 64 (m : Int) &&& BitVec.ofInt 64 ((1 : Nat) : Int)).toNat : Int) = _
  rw [BitVec.toNat_and, BitVec.ofInt_natCast, BitVec.ofInt_natCast, BitVec.toNat_ofNat, BitVec.toNat_ofNat, Nat.mod_eq_of_lt (show m < 2 ^ 64 by omega), Nat.mod_eq_of_lt (show 1 < 2 ^ 64 by decide), Nat.and_one_is_mod]
  simp only [IntKind.wrap, IntKind.bits, IntKind.signed]
  simp
  split <;> omega
set_option maxHeartbeats 1000000 in
theorem join_any (A B : CrcM.W) (n : Nat) (hn : n ≤ 1099511627776) (w : World) :
    Calls Try.prog 29 #[.int .u32 (ui A), .int .u32 (ui B), .int .i64 n] w fun e w' => e = .returned (.tuple #[.int .u32 (ui (CrcM.join A B n)), .int .i64 0]) ∧ Below w.heap.size w w' := by
  go_enter Try.func29, Try.ntmps29
  go_wp2_with fail
  go_loopw [16] (fun i wr => ∃ k : Nat, k ≤ 32 ∧ i = .int .i64 k ∧ rowW wr w.heap.size (firsts (pw 8) (fun _ => BitVec.ofNat 32 0) k) ∧ Below w.heap.size w wr) (fun i _ => 32 - (intOf i).toNat)
  case atStart => 
    refine ⟨0, by omega, rfl, ?_, ?_⟩
    · exact rowW.zeroth (rowW.zeros w)
    · exact (Below.refl _ _).alloc (Nat.le_refl _) _
  case round =>
    obtain ⟨k, hk, rfl, hr, hbel⟩ := hrel
    by_cases hlt : k < 32
    · have hc1 := hr.cell k hlt
      have hc2 := World.rowIs.frozen hr k
      have HR := Lib.hid hr
      clear hr
      have hshl : ((2 : Int) ^ k % 4294967296) = ui (BitVec.ofNat 32 1 <<< k) := shl_one k
      have HSHL := Lib.hid hshl
      clear hshl
      go_wp2_with fail
      rw [HSHL.out]
      refine (step_calls _ _).mono ?_
      rintro e w' ⟨rfl, ⟨nd, rfl⟩⟩
      go_wp2_with fail
      refine ⟨⟨k + 1, by omega, by go_num, ?_, ?_⟩, by simp [intOf]; omega⟩
      · exact rowW.first (g := pw 8) (k := k) (w := wr.drewN nd) HR.out
      · exact (pw_below_drewN hbel nd).setCell (Nat.le_refl _) _
    · have hrow : rowW wr w.heap.size (pw 8) := by
        have hk32 : k = 32 := by omega
        subst hk32
        exact hr.all
      have hp0 := joinTo_zero A n
      have HROW := Lib.hid hrow
      clear hrow hr
      go_wp2_with fail
      obtain ⟨wo, rfl⟩ : ∃ wo : World, wo = wr := ⟨_, rfl⟩
      go_loopw [0, 2] (fun a m wq => ∃ j : Nat, a = .int .u32 (ui (joinTo A n j)) ∧ m = .int .i64 ((n / 2 ^ j : Nat) : Int) ∧ rowW wq w.heap.size (pw (8 * 2 ^ j)) ∧ Below w.heap.size w wq) (fun _ m _ => (intOf m).toNat)
      case atStart => exact ⟨0, by rw [hp0], by simp, HROW.out, hbel⟩
      case round =>
        obtain ⟨j, rfl, rfl, hrow, hb⟩ := hrel
        generalize hm : n / 2 ^ j = m
        have hmn : m ≤ 1099511627776 := by rw [← hm]; exact Nat.le_trans (Nat.div_le_self _ _) hn
        have HM := Lib.hid hm
        clear hm
        have hcells : ∀ i, i < 32 → wr.cell? ⟨w.heap.size, i, none⟩ = some (.int .u32 (ui (pw (8 * 2 ^ j) i))) := fun i hi => hrow.cell i hi
        have HCL := Lib.hid hcells
        clear hcells
        have HROW2 := Lib.hid hrow
        clear hrow
        by_cases hz : m = 0
        · subst hz
          have hfin : CrcM.xs (8 * n) A = joinTo A n j := (joinTo_end A n j HM.out).symm
          have HF := Lib.hid hfin
          clear hfin
          go_wp2_with fail
          go_ret2
          exact ⟨by unfold CrcM.join; rw [HF.out, xor_ui]; rfl, hb⟩
        · have hpos : 0 < m := by omega
          have h1 := and1_i64 m (by omega)
          have hst := joinTo_step A n j m HM.out
          have hdiv : ((n / 2 ^ (j + 1) : Nat) : Int) = (m : Int) / 2 := by
            rw [Nat.pow_succ, ← Nat.div_div_eq_div_mul, HM.out]; rfl
          have HDIV := Lib.hid hdiv
          clear hdiv
          by_cases hodd : m % 2 = 1
          · have ht : (Go.bits .and .i64 (m : Int) 1 == 1) = true := by rw [h1, hodd]; rfl
            rw [if_pos hodd] at hst
            have HST := Lib.hid hst
            clear hst h1 hodd
            go_wp2_with fail
            refine (of_any _ _ _ _ HCL.out).mono ?_
            rintro e w' ⟨rfl, rfl⟩
            go_wp2_with fail
            refine (twice_any _ _ _ (World.rowIs.lt HROW2.out) HCL.out).mono ?_
            rintro e w' ⟨c, rfl, harr, hbel2⟩
            rw [pw_twice] at harr
            obtain ⟨z, hz2, hza⟩ := (show rowW w' w.heap.size (pw (8 * 2 ^ j)) from World.rowIs.of_block HROW2.out (hbel2.block _ (World.rowIs.lt HROW2.out))).arr
            have hlaid := (show rowW w' w.heap.size (pw (8 * 2 ^ j)) from World.rowIs.of_block HROW2.out (hbel2.block _ (World.rowIs.lt HROW2.out))).laid harr
            have hbel3 : Below w.heap.size w (w'.setRow w.heap.size c) := below_setRow (hb.trans (hbel2.mono hb.size)) (Nat.le_refl _) c
            have hs : (Try.prog.info? 62).map (·.size) = some c.size := size62.trans (congrArg some harr.1.symm)
            have hsz : z.size = c.size := by rw [hza.1, harr.1]
            have h1c := harr.2.2
            have HB3 := Lib.hid hbel3
            have HS := Lib.hid hs
            have HZ := Lib.hid hsz
            have HZZ := Lib.hid hz2
            have HC := Lib.hid h1c
            have HL := Lib.hid hlaid
            clear hbel3 hs hsz hz2 h1c hlaid hza harr hbel2 hb
            go_wp2_with (first | ((with_reducible refine gate_store (p := 8) rfl ?_); refine wpList_store_row rfl 62 (.tmp 8) (.tmp 34) rfl w.heap.size c rfl rfl 62 z HZZ.out HS.out HZ.out HC.out ?_))
            refine ⟨⟨j + 1, ?_, by rw [HDIV.out], ?_, HB3.out⟩, by simp [intOf]; omega⟩
            · rw [HST.out, app_pw]
            · have := HL.out
              rw [show 2 * (8 * 2 ^ j) = 8 * 2 ^ (j + 1) by rw [Nat.pow_succ]; omega] at this
              exact this
          · have ht : (Go.bits .and .i64 (m : Int) 1 == 1) = false := by rw [h1, show m % 2 = 0 by omega]; rfl
            rw [if_neg hodd] at hst
            have HST := Lib.hid hst
            clear hst h1 hodd
            go_wp2_with fail
            refine (twice_any _ _ _ (World.rowIs.lt HROW2.out) HCL.out).mono ?_
            rintro e w' ⟨c, rfl, harr, hbel2⟩
            rw [pw_twice] at harr
            obtain ⟨z, hz2, hza⟩ := (show rowW w' w.heap.size (pw (8 * 2 ^ j)) from World.rowIs.of_block HROW2.out (hbel2.block _ (World.rowIs.lt HROW2.out))).arr
            have hlaid := (show rowW w' w.heap.size (pw (8 * 2 ^ j)) from World.rowIs.of_block HROW2.out (hbel2.block _ (World.rowIs.lt HROW2.out))).laid harr
            have hbel3 : Below w.heap.size w (w'.setRow w.heap.size c) := below_setRow (hb.trans (hbel2.mono hb.size)) (Nat.le_refl _) c
            have hs : (Try.prog.info? 62).map (·.size) = some c.size := size62.trans (congrArg some harr.1.symm)
            have hsz : z.size = c.size := by rw [hza.1, harr.1]
            have h1c := harr.2.2
            have HB3 := Lib.hid hbel3
            have HS := Lib.hid hs
            have HZ := Lib.hid hsz
            have HZZ := Lib.hid hz2
            have HC := Lib.hid h1c
            have HL := Lib.hid hlaid
            clear hbel3 hs hsz hz2 h1c hlaid hza harr hbel2 hb
            go_wp2_with (first | ((with_reducible refine gate_store (p := 8) rfl ?_); refine wpList_store_row rfl 62 (.tmp 8) (.tmp 34) rfl w.heap.size c rfl rfl 62 z HZZ.out HS.out HZ.out HC.out ?_))
            refine ⟨⟨j + 1, ?_, by rw [HDIV.out], ?_, HB3.out⟩, by simp [intOf]; omega⟩
            · rw [HST.out]
            · have := HL.out
              rw [show 2 * (8 * 2 ^ j) = 8 * 2 ^ (j + 1) by rw [Nat.pow_succ]; omega] at this
              exact this
set_option maxHeartbeats 1000000 in
theorem join_low (a b n : Int) (hn : n < 0) (w : World) :
    Calls Try.prog 29 #[.int .u32 a, .int .u32 b, .int .i64 n] w fun e w' => e = .returned (.tuple #[.int .u32 0, .int .i64 1]) ∧ Below w.heap.size w w' := by
  go_enter Try.func29, Try.ntmps29
  go_wp2_with fail
  go_ret2
  exact ⟨rfl, Below.refl _ _⟩
set_option maxHeartbeats 1000000 in
theorem join_high (a b n : Int) (hn : 1099511627776 < n) (w : World) :
    Calls Try.prog 29 #[.int .u32 a, .int .u32 b, .int .i64 n] w fun e w' => e = .returned (.tuple #[.int .u32 0, .int .i64 1]) ∧ Below w.heap.size w w' := by
  have h0 : ¬ n < 0 := by omega
  go_enter Try.func29, Try.ntmps29
  go_wp2_with fail
  go_ret2
  exact ⟨rfl, Below.refl _ _⟩
end Go.Proofs.Ytcfnpippmdijaaa.Join
namespace Go.Proofs.Ytcfnpippmdijaaa.PGiven
open Go.RowKit Go.Proofs.YtcfnpippmdijaaaW.PrintWords Go.Proofs.YtcfnpippmdijaaaW.PrintLast Go.Proofs.YtcfnpippmdijaaaW.PrintMore Go.Proofs.Ytcfnpippmdijaaa.Bridge Go.Proofs.Ytcfnpippmdijaaa.Join
/-- the complement of 32 bits, as the print has it. -/
theorem unary_xor_u32 (n : Int) : Op.unary .xor (.int .u32 n) = Op.intBits .xor .u32 4294967295 n := rfl
/-- a whole number as a word. -/
def iw (a : Int) : CrcM.W := BitVec.ofNat 32 a.toNat
theorem ui_iw (a : Int) (h : 0 ≤ a ∧ a ≤ 4294967295) : ui (iw a) = a := by unfold ui iw; rw [BitVec.toNat_ofNat]; omega
theorem iw_ui (x : CrcM.W) : iw (ui x) = x := by unfold ui iw; simp
def isU32 (a : Int) : Bool := decide (0 ≤ a) && decide (a ≤ 4294967295)
theorem isU32_ui (x : CrcM.W) : isU32 (ui x) = true := by unfold isU32; have := ui_range x; simp; omega
def crc_Join.f (a0 : Int) (a1 : Int) (a2 : Int) : Option (Int × Int) :=
  if a2 < 0 then some (0, 1) else if 1099511627776 < a2 then some (0, 1) else if (isU32 a0 && isU32 a1) = true then some (ui (CrcM.join (iw a0) (iw a1) a2.toNat), 0) else none
theorem crc_Join.calls (a0 : Int) (a1 : Int) (a2 : Int) (r1 : Int) (r2 : Int) (w : World) (h : crc_Join.f a0 a1 a2 = some (r1, r2)) :
    Calls Try.prog 29 #[.int .u32 a0, .int .u32 a1, .int .i64 a2] w fun e w' => e = .returned (.tuple #[.int .u32 r1, .int .i64 r2]) ∧ Below w.heap.size w w' := by
  unfold crc_Join.f at h
  by_cases h1 : a2 < 0
  · rw [if_pos h1] at h
    obtain ⟨rfl, rfl⟩ := Prod.mk.inj (Option.some.inj h)
    exact join_low a0 a1 a2 h1 w
  · rw [if_neg h1] at h
    by_cases h2 : 1099511627776 < a2
    · rw [if_pos h2] at h
      obtain ⟨rfl, rfl⟩ := Prod.mk.inj (Option.some.inj h)
      exact join_high a0 a1 a2 h2 w
    · rw [if_neg h2] at h
      by_cases h3 : (isU32 a0 && isU32 a1) = true
      · rw [if_pos h3] at h
        obtain ⟨rfl, rfl⟩ := Prod.mk.inj (Option.some.inj h)
        have h4 : (0 ≤ a0 ∧ a0 ≤ 4294967295) ∧ (0 ≤ a1 ∧ a1 ≤ 4294967295) := by simpa [isU32] using h3
        obtain ⟨n, rfl⟩ := Int.eq_ofNat_of_zero_le (show 0 ≤ a2 by omega)
        have := join_any (iw a0) (iw a1) n (by omega) w
        rw [ui_iw a0 h4.1, ui_iw a1 h4.2] at this
        exact this
      · rw [if_neg h3] at h
        exact absurd h (by simp)
end Go.Proofs.Ytcfnpippmdijaaa.PGiven
