/- One number appended to a row that is kept: the row reads on as it did, whether there was room or not. Nothing of a claim is in it. -/
import Derived.Test.YtdmliaodacaefaaWr
import Derived.Test.YtdmliaodacaefaaPlan
import Derived.Test.YtdmliaodacaefaaInts
import Derived.Deep.QuietTactic
import Derived.BigQuiet
namespace Go.Proofs.Ytdmliaodacaefaa.Wr
open Go.RowKit Go.Proofs.YtdmliaodacaefaaW.PrintWords Go.Proofs.YtdmliaodacaefaaW.PrintLast Go.Proofs.YtdmliaodacaefaaW.PrintMore Go.Proofs.Ytdmliaodacaefaa.Mem Go.Proofs.Ytdmliaodacaefaa.Sep
set_option linter.unusedVariables false
set_option linter.unusedSimpArgs false
/-- the run of an append to a row of one-cell elements: the new row, the old one, and what else stands. -/
theorem kept_run {P : Program} {w : World} {t ty e : TypeId} {i : TypeInfo} {z : Value} {bytes : Nat} (ht : P.underlying t = some (.slice e)) (hi : P.info? e = some i) (hz : i.zero = some z) (hs : i.size = 1) (hby : i.bytes = bytes) (hzs : z.cells.size = 1)
    {v : Value} {n : Nat} {xs : List Value} (hown : w.ownsRow 0 e 1 v n xs) {a : Addr} {u : Value} (hu : w.cell? a = some u) (h1 : u.oneCell' = true) (hl : (n + 1) * bytes ≤ 140737488355328) (hb0 : 0 < bytes) :
    ∃ v' w', (Builtin.append_ #[t, t] ty #[v, .slice (some a) 1 1]).run P w = .ok v' w' ∧ w'.ownsRow 0 e 1 v' (n + 1) (xs ++ [u]) ∧ w'.ownsRow 0 e 1 v n xs ∧ w.grownBy w' v.ownBlock ∧
      (v'.ownBlock = v.ownBlock ∨ ∃ b, v'.ownBlock = some b ∧ w.heap.size ≤ b) := by
  have hn : n + 1 ≤ 140737488355328 := Nat.le_trans (Nat.le_mul_of_pos_right _ hb0) hl
  have hmax : n + 1 ≤ maxLen := by unfold maxLen; omega
  have hnews : ∀ j u', [u][j]? = some u' → w.cell? (a.add j) = some u' := by
    intro j u' hj
    rcases j with _ | j
    · simp at hj
      subst hj
      rwa [show a.add 0 = a by unfold Addr.add; split <;> simp_all]
    · simp at hj
  have hlx : xs.length = n := by have := hown.1; omega
  have fresh : ∀ (old : Nat), ∃ C : Array Value, C.size = grownCap w (n + 1) old e * 1 ∧ C.toList.take ((n + 1) * 1) = xs ++ [u] ∧ C = xs.toArray ++ [u].toArray ++ Builtin.zeroCells z.cells (grownCap w (n + 1) old e - (n + 1)) := by
    intro old
    have hge := grownCap_ge w (n + 1) old e
    refine ⟨_, ?_, ?_, rfl⟩
    · rw [Array.size_append, Array.size_append, size_zeroCells, hzs]
      simp [hlx]
      omega
    · rw [Array.toList_append, Array.toList_append]
      exact List.take_left' (by simp [hlx])
  have made : ∀ (old : Nat) (C : Array Value), C.size = grownCap w (n + 1) old e * 1 → C.toList.take ((n + 1) * 1) = xs ++ [u] →
      (w.drew.alloc (.cells C e)).ownsRow 0 e 1 (.slice (some ⟨w.heap.size, 0, none⟩) (n + 1) (grownCap w (n + 1) old e)) (n + 1) (xs ++ [u]) :=
    fun old C h2 h3 => ⟨by simp [hlx], .inr ⟨w.heap.size, _, C, rfl, Nat.zero_le _, heap_alloc_new w.drew _, grownCap_ge _ _ _ _, grownCap_le_maxLen _ _ _ _ hmax, h2, h3⟩⟩
  have stays : ∀ C : Array Value, w.grownBy (w.drew.alloc (.cells C e)) none := fun C => ⟨rfl, rfl, rfl, by simp, fun k hk _ => heap_alloc_old w.drew _ hk⟩
  have any : ∀ (w' : World) (row : Option Nat), w.grownBy w' none → w.grownBy w' row := fun w' row h => ⟨h.os, h.tape, h.output, h.size, fun k hk _ => h.block k hk (by simp)⟩
  rcases hown.2 with ⟨rfl, rfl⟩ | ⟨g, cap, cur, rfl, _, hg, hnc, hcm, hcs, htake⟩
  · have hx : xs = [] := List.eq_nil_of_length_eq_zero hlx
    subst hx
    obtain ⟨C, c1, c2, c3⟩ := fresh 0
    have hr := run_append_nil (P := P) w t ty e i z ht hi hz a 1 1 [u] (by rw [hs]; rfl) hnews (by omega) (by omega) (by rw [hby]; simp only [Nat.zero_add] at hl; omega)
    refine ⟨_, _, hr, ?_, World.ownsRow_nil _ _ _ _, any _ _ (stays _), .inr ⟨w.heap.size, rfl, Nat.le_refl _⟩⟩
    have := made 0 C c1 c2
    rw [c3] at this
    simpa using this
  · by_cases hroom : n + 1 ≤ cap
    · have hr := run_append_room (P := P) w t ty e i ht hi g n cap cur hg a 1 1 [u] (by rw [hs]; rfl) hnews (by intro u' hu'; rw [List.mem_singleton.1 hu']; exact h1) hroom (by rw [hs, hcs]; simp; omega)
      rw [hs] at hr
      refine ⟨_, _, hr, ⟨by simp [hlx], .inr ⟨g, cap, _, rfl, Nat.zero_le _, setRow_heap w g cur _ e _ hg, hroom, hcm, ?_, ?_⟩⟩, ⟨hown.1, .inr ⟨g, cap, _, rfl, Nat.zero_le _, setRow_heap w g cur _ e _ hg, hnc, hcm, ?_, ?_⟩⟩, ⟨rfl, rfl, rfl, by simp, fun k _ hk => setRow_other w g k _ (fun e => hk (by simp [Value.ownBlock, e]))⟩, .inl rfl⟩
      · simp; omega
      · simp only [List.toList_toArray]
        rw [htake]
        exact List.take_left' (by simp [hlx])
      · simp; omega
      · simp only [List.toList_toArray]
        rw [htake, List.append_assoc]
        exact List.take_left' (by simp [hlx])
    · obtain ⟨C, c1, c2, c3⟩ := fresh cap
      have holds : ∀ j u', xs[j]? = some u' → w.cell? ((⟨g, 0, none⟩ : Addr).add j) = some u' := World.ownsRow.cells hown (g := g) rfl
      have hr := run_append_grow (P := P) w t ty e i z ht hi hz ⟨g, 0, none⟩ n cap xs (by rw [hs]; exact hown.1) holds a 1 1 [u] (by rw [hs]; rfl) hnews (by omega) (by omega) (growslice_fits (by omega) (by rw [hby]; exact hl))
      refine ⟨_, _, hr, ?_, ?_, any _ _ (stays _), .inr ⟨w.heap.size, rfl, Nat.le_refl _⟩⟩
      · have := made cap C c1 c2
        rw [c3] at this
        exact this
      · exact hown.kept (stays _) (.inr (by simp [Value.ownBlock]))
section
variable {ops : Array Oper} {o : Oper} {a : Act} {Q : Exit → Act → World → Prop} {Kc : Act → World → Prop} {W : World} {rest : List Oper}
/-- one number appended to a row that is kept. -/
theorem push_kept (hg : o.guard = none) (s x : Operand) (t e : TypeId) (k : IntKind) (bytes : Nat)
    (ho : o.op = .call { callee := .builtin .append, args := #[s, x], argTypes := #[t, t] })
    (ht : Try.prog.underlying t = some (.slice e)) (hinfo : (Try.prog.info? e).map (fun i => (i.zero, i.size, i.bytes)) = some (some (.int k 0), 1, bytes)) (hb0 : 0 < bytes)
    (v : Value) (xs : List Int) (p : Int) (hs : a.eval s = v) (hx : a.eval x = .slice (some ⟨W.heap.size, 0, none⟩) 1 1)
    (HO : Rw W e k v xs) (hl : (xs.length + 1) * bytes ≤ 140737488355328)
    (h : ∀ v1 w1, Rw w1 e k v1 (xs ++ [p]) → Rw w1 e k v xs → W.grownBy w1 v.ownBlock → (v1.ownBlock = v.ownBlock ∨ ∃ b, v1.ownBlock = some b ∧ W.heap.size ≤ b) → wpList Try.prog ops Q rest (a.put o.dst v1) w1) :
    wpList Try.prog ops Q (o :: rest) a (W.alloc (.cells #[.int k p] e)) := by
  obtain ⟨i0, hi, hzz⟩ := Option.map_eq_some_iff.1 hinfo
  simp only [Prod.mk.injEq] at hzz
  obtain ⟨hz0, hz1, hz2⟩ := hzz
  obtain ⟨h0, inner, hown, hr⟩ := HO
  have hlt := World.ownsRow.lt hown
  obtain ⟨v', w', hrun, g1, g2, g3, g4⟩ := kept_run (ty := o.type) ht hi hz0 hz1 hz2 rfl (hown.alloc (.cells #[.int k p] e)) (a := ⟨W.heap.size, 0, none⟩) (u := .int k p) (cell_of (heap_alloc_new W _) rfl) rfl hl hb0
  have hgW : W.grownBy w' v.ownBlock := ⟨g3.os, g3.tape, g3.output, Nat.le_trans (by simp) g3.size, fun b hb hn => (g3.block b (by simp; omega) hn).trans (heap_alloc_old W _ hb)⟩
  refine wpList_plain hg fun K hK => ?_
  unfold Oper.wp execOp
  simp only [ho, resolve, invoke, builtin, Sem.run_bind, Sem.run_pure, Result.andThen_ok, List.map_toArray, List.map_cons, List.map_nil, hs, hx, hrun]
  have hrep : ∀ {w1 : World}, Reps ((Kd.int k).M w1 0 (fun b => True ∧ some b ≠ v.ownBlock)) 1 xs inner := fun {w1} => hr.imp_ (fun _ _ hq => hq)
  refine hK _ _ (h v' w' ⟨fun _ _ => trivial, inner ++ [.int k p], by rw [List.length_append]; exact g1, ?_⟩ ⟨h0, inner, g2, hrep⟩ hgW (g4.imp id (fun ⟨b, e1, e2⟩ => ⟨b, e1, by simp at e2; omega⟩)))
  exact (hr.imp_ (fun _ _ hq => hq)).snoc rfl rfl
end
end Go.Proofs.Ytdmliaodacaefaa.Wr
/- WirePacksBack walked. -/
namespace Go.Proofs.Ytdmliaodacaefaa.Shape
open Go.RowKit Go.Proofs.YtdmliaodacaefaaW.PrintWords Go.Proofs.YtdmliaodacaefaaW.PrintLast Go.Proofs.YtdmliaodacaefaaW.PrintMore Go.Proofs.Ytdmliaodacaefaa.Mem Go.Proofs.Ytdmliaodacaefaa.Sep Go.Proofs.Ytdmliaodacaefaa.Bridge Go.Proofs.Ytdmliaodacaefaa.Wr Go.Proofs.Ytdmliaodacaefaa.Ops
set_option linter.unusedVariables false
set_option linter.unusedSimpArgs false
/-- the same numbers, by a walk. -/
theorem ints_same {w : World} {A A' : Option Addr} {c c' : Nat} {l : List Int} (hr : Kd.C (Kd.int .i64) w A l.length l) (hc : l.length ≤ c) (hr' : Kd.C (Kd.int .i64) w A' l.length l) (hc' : l.length ≤ c') (hl : l.length ≤ 100000) :
    Calls Try.prog 43 #[.slice A l.length c, .slice A' l.length c'] w fun e w' => e = .returned (.bool true) ∧ Drawn0 w w' := by
  have HR := Lib.hid hr
  have HR' := Lib.hid hr'
  have t0 : ((l.length : Int) != (l.length : Int)) = false := by simp
  clear hr hr'
  go_enter Try.func43, Try.ntmps43
  go_wp2_with fail
  go_loopw [5] (fun v5 wr => ∃ m : Nat, v5 = .int .i64 (m : Nat) ∧ m ≤ l.length ∧ Drawn0 w wr) (fun v5 _ => l.length - (intOf v5).toNat)
  case atStart => exact ⟨0, rfl, Nat.zero_le _, ⟨0, rfl⟩⟩
  case round =>
    obtain ⟨m, rfl, hm, ⟨k, rfl⟩⟩ := hrel
    by_cases hlt : m < l.length
    · obtain ⟨_, _, h3⟩ := Kd.reads_of_C (enc := Value.int .i64) (d := (0 : Int)) (h1 := fun _ => rfl) HR.out
      obtain ⟨ad, rfl, hcell⟩ := h3 (by omega)
      obtain ⟨_, _, h4⟩ := Kd.reads_of_C (enc := Value.int .i64) (d := (0 : Int)) (h1 := fun _ => rfl) HR'.out
      obtain ⟨ad', rfl, hcell'⟩ := h4 (by omega)
      have g1 := hcell m hlt
      have g2 := hcell' m hlt
      obtain ⟨y, hy⟩ : ∃ y, y = l.getD m 0 := ⟨_, rfl⟩
      rw [← hy] at g1 g2
      have ty : (y != y) = false := by simp
      have hmi : (m : Int) < (l.length : Int) := by omega
      clear h3 h4 hcell hcell' hy
      go_wp2_with fail
      go_quiet (fail)
      go_wp2_with fail
      exact ⟨⟨m + 1, by simp, by omega, ⟨_, rfl⟩⟩, by simp [intOf]; omega⟩
    · go_wp2_with fail
      go_ret
      exact ⟨rfl, ⟨k, rfl⟩⟩
theorem fit_eq (k : Nat) (v : Int) : PWire.amberlaw02_fit.f false (k : Int) v [] = some (fitI k v) := by
  unfold PWire.amberlaw02_fit.f fitI
  by_cases h1 : k = 1
  · rw [if_pos (by omega), if_pos h1]
  · rw [if_neg (by omega), if_neg h1]
    by_cases h2 : k = 2
    · rw [if_pos (by omega), if_pos h2]
      congr 1
      rw [IntKind.wrap_u16]
      unfold wrap64; omega
    · rw [if_neg (by omega), if_neg h2]
      by_cases h3 : k = 3
      · rw [if_pos (by omega), if_pos h3]
      · rw [if_neg (by omega), if_neg h3]
theorem fit47_calls (k : Nat) (v : Int) (w : World) : Calls Try.prog 47 #[.agg #[.bool false, .int .i64 (k : Int), .int .i64 v, .slice none 0 0]] w fun e w' => e = .returned (.int .i64 (fitI k v)) ∧ Below w.heap.size w w' :=
  (PWire.amberlaw02_fit.calls false (k : Int) v none 0 [] (fitI k v) w (Kd.C_nil _ w) (Nat.le_refl _) (fit_eq k v)).mono fun e w' h => h
/-- the bytes of a plan. -/
def wr_ (t : List UInt8) (vs : List Int) : List UInt8 := wr t [] [] vs
theorem drawn_below {w w' : World} (h : Drawn0 w w') : Below w.heap.size w w' := by
  obtain ⟨k, rfl⟩ := h
  exact pw_below_drewN (Below.refl _ _) k
/-- where the loop stands. -/
def Bk (nums : List Int) (ks : List Nat) (w1 : World) (v8 v9 : Value) (wr : World) : Prop :=
  ∃ m : Nat, v9 = .int .i64 (m : Nat) ∧ m ≤ ks.length ∧ (row 3 .i64 v8 (valsS nums 0 (ks.take m))).on wr (fun b => w1.heap.size ≤ b) ∧ Below w1.heap.size w1 wr
set_option maxRecDepth 100000 in
set_option maxHeartbeats 8000000 in
theorem back_walk (A1 : Option Addr) (c1 : Nat) (us : List Int) (A2 : Option Addr) (c2 : Nat) (nums : List Int) (w : World) (h1 : Ns.ok w ⟨A1, c1, us⟩) (h2 : Ns.ok w ⟨A2, c2, nums⟩) :
    Calls Try.prog 10 #[.slice A1 us.length c1, .slice A2 nums.length c2] w fun e w' => e = .returned (.bool true) ∧ Below w.heap.size w w' := by
  have hus : us.length ≤ 140737488351232 := by have h : us.length * 8 ≤ 140737488351232 := h1.len; omega
  have hnl : nums.length ≤ 140737488351232 := by have h : nums.length * 8 ≤ 140737488351232 := h2.len; omega
  obtain ⟨k, hk⟩ := Ev.rounds (plan_ev us hus)
  have hpc := PWire.amberlaw02_plan.calls k A1 c1 us _ _ _ w h1.read h1.cap hk
  have hok := (plan_ok us).1
  obtain ⟨q, hw, hf⟩ := plan_whole us
  have hb := plan_bal us
  have hfit : Fit nums := h2.fit
  have ha := vals_fit nums hfit (planS us).t (planS us).ks 0 hok.kinds (by have := hok.klen; omega)
  obtain ⟨x, hx⟩ : ∃ x, x = planS us := ⟨_, rfl⟩
  rw [← hx] at hpc hok hw hf hb ha
  obtain ⟨S, hS⟩ : ∃ S, S = strOfNums (bl x.t) := ⟨_, rfl⟩
  have hSt : S.data.toList = x.t := by rw [hS]; exact str_bl _
  have HPLAN : Hid (Calls Try.prog 46 #[.slice A1 us.length c1] w fun e w' => ∃ A c, e = .returned (.tuple #[.string S, .slice A x.ks.length c, .int .i64 (x.n : Nat)]) ∧ Rw w' 3 .i64 (.slice A x.ks.length c) (kl x.ks) ∧ (∀ b, (Value.slice A x.ks.length c).ownBlock = some b → w.heap.size ≤ b) ∧ Below w.heap.size w w') := Lib.hid (hpc.mono fun e w' h => by
    obtain ⟨v, he, hR, hbl⟩ := h
    have hRw : Rw w' 3 .i64 v (kl x.ks) := Rw.of hR
    obtain ⟨A, c, e1, _⟩ := hRw.reads
    rw [kl_length] at e1
    subst e1
    exact ⟨A, c, by rw [he, hS], hRw, fun b hb2 => (Kd.R_bound hR).1 b hb2 |>.2.1, hbl⟩)
  have HOK := Lib.hid hok
  have HX := Lib.hid hx
  clear hpc hx hS
  obtain ⟨vs, hvs⟩ : ∃ vs, vs = valsS nums 0 x.ks := ⟨_, rfl⟩
  rw [← hvs] at ha
  have HVS := Lib.hid hvs
  have hvl : vs.length = x.ks.length := by rw [hvs]; exact vals_length _ _ _
  obtain ⟨ks, hks⟩ : ∃ ks, ks = x.ks := ⟨_, rfl⟩
  have hkl : ks.length ≤ 51 := by rw [hks]; exact hok.klen
  rw [← hks] at HPLAN hvl HVS
  have H2 := Lib.hid h2
  have HKF := Lib.hid hok.kinds
  have HVL := Lib.hid hvl
  have HKS := Lib.hid hks
  have HW := Lib.hid hw
  have HF := Lib.hid hf
  have HBAL := Lib.hid hb
  have HA := Lib.hid ha
  have HST := Lib.hid hSt
  have HFIT := Lib.hid hfit
  have hxn : x.n ≤ 408 := by have h3 := bytes_le x.t; have h4 := hok.len; have h5 := hok.bytes; omega
  clear h1 h2 hk hvs hok hvl hks hw hf hb ha hSt hfit
  go_enter Try.func10, Try.ntmps10
  go_wp2_with fail
  refine HPLAN.out.mono ?_
  rintro e w1 ⟨Ak, ck, rfl, hkr, hkb, hbl⟩
  have HKR := Lib.hid hkr
  have HKB := Lib.hid hkb
  have HB1 := Lib.hid hbl
  clear hkr hkb hbl
  go_wp2_with fail
  go_loopw [8, 9] (fun v8 v9 wr => Bk nums ks w1 v8 v9 wr) (fun _ v9 _ => ks.length - (intOf v9).toNat)
  case atStart => exact ⟨0, rfl, Nat.zero_le _, ⟨Rw.nil _ _ _, fun b hb => by simp [Value.ownBlock] at hb⟩, Below.refl _ _⟩
  case round =>
    obtain ⟨m, rfl, hm, hrow, hbel⟩ := hrel
    have HROW := Lib.hid hrow
    have HBL := Lib.hid hbel
    clear hrow hbel
    by_cases hlt : m < ks.length
    · obtain ⟨g, ck', eA, _, hkc⟩ := HKR.out.some (by rw [kl_length]; omega)
      injection eA with eA e2 e3
      subst eA e3
      clear e2
      obtain ⟨_, _, hr3⟩ := Kd.reads_of_C (enc := Value.int .i64) (d := (0 : Int)) (h1 := fun _ => rfl) hkc
      obtain ⟨ad, eA, hcell⟩ := hr3 (by rw [kl_length]; omega)
      injection eA with eA
      subst eA
      have hkm := hcell m (by rw [kl_length]; omega)
      rw [add_one, show (kl ks).getD m 0 = ((ks[m] : Nat) : Int) by unfold kl; rw [List.getD_eq_getElem?_getD, List.getElem?_map, List.getElem?_eq_getElem hlt]; rfl] at hkm
      have kc : wr.cell? ⟨g, 0 + m, none⟩ = some (.int .i64 ((ks[m] : Nat) : Int)) := (HBL.out.cell (p := ⟨g, 0 + m, none⟩) (World.block_lt_of_cell? w1 _ hkm)).trans hkm
      rw [Nat.zero_add] at kc
      clear hkc hr3 hcell hkm
      by_cases hmn : m < nums.length
      · obtain ⟨_, _, hr4⟩ := Kd.reads_of_C (enc := Value.int .i64) (d := (0 : Int)) (h1 := fun _ => rfl) H2.out.read
        obtain ⟨ad, eA, hcell⟩ := hr4 (show 0 < nums.length by omega)
        have eA2 : A2 = some ad := eA
        subst eA2
        have hnm := hcell m hmn
        rw [show (Ns.mk (some ad) c2 nums).l.getD m 0 = nums[m] by show nums.getD m 0 = _; rw [List.getD_eq_getElem?_getD, List.getElem?_eq_getElem hmn]; rfl] at hnm
        have hlow : (ad.add m).block < w.heap.size := World.block_lt_of_cell? w _ hnm
        have nc : wr.cell? (ad.add m) = some (.int .i64 nums[m]) := ((HBL.out.cell (Nat.lt_of_lt_of_le hlow HB1.out.size)).trans (HB1.out.cell hlow)).trans hnm
        clear hr4 hcell hnm hlow eA
        go_wp2_with fail
        refine (fit47_calls ks[m] nums[m] _).mono ?_
        rintro e w2 ⟨rfl, hb2⟩
        have HR2 : Hid ((row 3 .i64 u8 (valsS nums 0 (ks.take m))).on w2 (fun b => w1.heap.size ≤ b)) := Lib.hid (Asr.below HROW.out hb2)
        have HB2 := Lib.hid (HBL.out.trans (hb2.mono HBL.out.size))
        have HLEN := Lib.hid (show ((valsS nums 0 (ks.take m)).length + 1) * 8 ≤ 140737488355328 by rw [vals_length, List.length_take]; omega)
        have HSN := Lib.hid (show valsS nums 0 (ks.take (m + 1)) = valsS nums 0 (ks.take m) ++ [fitI ks[m] nums[m]] by
          rw [List.take_succ_eq_append_getElem hlt, vals_snoc]
          have hlm : (ks.take m).length = m := by rw [List.length_take]; omega
          simp only [hlm, Nat.zero_add]
          rw [dif_pos hmn])
        clear hb2
        go_wp2_with (first | ((with_reducible refine gate_builtin (b := .append) (xs := #[.tmp 43, .tmp 51]) rfl ?_); refine push_list rfl (.tmp 43) (.tmp 51) 58 3 .i64 8 rfl Try.underlying58 Wr.info3 (by decide) u8 (valsS nums 0 (ks.take m)) (fitI ks[m] nums[m]) rfl rfl HR2.out.1 HLEN.out ?_; intro v1 w3 ho1 hg1 hat1; have T3 := Lib.hid (turn_row HR2.out ho1 hg1 hat1); clear ho1 hg1 hat1))
        exact ⟨⟨m + 1, by simp, by omega, by rw [HSN.out]; exact (row 3 .i64 v1 _).up T3.out.2 (fun b hb => by rcases hb with h | h; exact h; exact Nat.le_trans HB2.out.size h), T3.out.1.below HB2.out (fun b hb => hb) HB2.out.size⟩, by simp [intOf]; omega⟩
      · go_wp2_with fail
        refine (fit47_calls ks[m] (m : Int) _).mono ?_
        rintro e w2 ⟨rfl, hb2⟩
        have HR2 : Hid ((row 3 .i64 u8 (valsS nums 0 (ks.take m))).on w2 (fun b => w1.heap.size ≤ b)) := Lib.hid (Asr.below HROW.out hb2)
        have HB2 := Lib.hid (HBL.out.trans (hb2.mono HBL.out.size))
        have HLEN := Lib.hid (show ((valsS nums 0 (ks.take m)).length + 1) * 8 ≤ 140737488355328 by rw [vals_length, List.length_take]; omega)
        have HSN := Lib.hid (show valsS nums 0 (ks.take (m + 1)) = valsS nums 0 (ks.take m) ++ [fitI ks[m] (m : Int)] by
          rw [List.take_succ_eq_append_getElem hlt, vals_snoc]
          have hlm : (ks.take m).length = m := by rw [List.length_take]; omega
          simp only [hlm, Nat.zero_add]
          rw [dif_neg hmn])
        clear hb2
        go_wp2_with (first | ((with_reducible refine gate_builtin (b := .append) (xs := #[.tmp 43, .tmp 51]) rfl ?_); refine push_list rfl (.tmp 43) (.tmp 51) 58 3 .i64 8 rfl Try.underlying58 Wr.info3 (by decide) u8 (valsS nums 0 (ks.take m)) (fitI ks[m] (m : Int)) rfl rfl HR2.out.1 HLEN.out ?_; intro v1 w3 ho1 hg1 hat1; have T3 := Lib.hid (turn_row HR2.out ho1 hg1 hat1); clear ho1 hg1 hat1))
        exact ⟨⟨m + 1, by simp, by omega, by rw [HSN.out]; exact (row 3 .i64 v1 _).up T3.out.2 (fun b hb => by rcases hb with h | h; exact h; exact Nat.le_trans HB2.out.size h), T3.out.1.below HB2.out (fun b hb => hb) HB2.out.size⟩, by simp [intOf]; omega⟩
    · have hmk : m = ks.length := by omega
      subst hmk
      have HR8 : Hid ((row 3 .i64 u8 vs).on wr (fun b => w1.heap.size ≤ b)) := Lib.hid (by have h := HROW.out; rw [List.take_length, ← HVS.out] at h; exact h)
      obtain ⟨A8, c8, e8, hc8, hr8⟩ := HR8.out.1.reads
      subst e8
      have HC8 := Lib.hid hr8
      clear hr8
      obtain ⟨out, hout⟩ : ∃ out, out = wr_ x.t vs := ⟨_, rfl⟩
      have HOUT := Lib.hid hout
      have hol : out.length = x.n := by rw [hout]; unfold wr_; rw [wr_length]; exact HOK.out.bytes
      have HOL := Lib.hid hol
      have tlen : (((bl out).length : Int) != (x.n : Int)) = false := by rw [bl_length, hol]; simp
      have HSS := Lib.hid (show S.size ≤ 140737488351232 by have h1 := HOK.out.len; have h2 : S.data.toList.length = x.t.length := by rw [HST.out]
                                                            have h3 : S.size = S.data.toList.length := rfl
                                                            omega)
      have hvl : vs.length ≤ 51 := by rw [HVL.out]; exact hkl
      have hbo : (bl out).length ≤ 408 := by rw [bl_length]; omega
      have HPA : Hid (∀ W A c, Kd.C (Kd.int .i64) W A vs.length vs → vs.length ≤ c → Calls Try.prog 44 #[.string S, .slice A vs.length c] W (fun e w' => Wr.Told W w' e (out, 0))) := Lib.hid (fun W A c hr hc => by
        have h := packP_calls S HSS.out A c vs W hr hc (by omega) (allFit_fit _ _ HA.out).1
        rw [HST.out, pack_plan HW.out HF.out HBAL.out HA.out (by have := HOK.out.len; omega)] at h
        rw [HOUT.out]
        exact h)
      have HPB : Hid (∀ W A c (zs : List Int), Kd.C (Kd.int .i64) W A zs.length zs → zs.length ≤ c → zs.length ≤ 1000 → Fit zs → ¬ zs.length = vs.length → Calls Try.prog 44 #[.string S, .slice A zs.length c] W (fun e w' => Wr.Told W w' e ([], 25))) := Lib.hid (fun W A c zs hr hc hl hf hne => by
        have h := packP_calls S HSS.out A c zs W hr hc (by omega) hf
        rw [HST.out, pack_count_bad HW.out HF.out (by rw [← (allFit_fit _ _ HA.out).2]; exact hne)] at h
        exact h)
      have HUX : Hid (∀ W A c (ys : List UInt8) res, unpackS x.t ys = res → Kd.C (Kd.int .u8) W A (bl ys).length (bl ys) → (bl ys).length ≤ c → ys.length ≤ 1000 → Calls Try.prog 41 #[.string S, .slice A (bl ys).length c] W (Gave W res)) := Lib.hid (fun W A c ys res he hr hc hl => by
        have h := unpackP_calls S HSS.out A c ys W hr hc (by omega)
        rw [HST.out, he] at h
        exact h)
      have HU1 := Lib.hid (show unpackS x.t out = (vs, 0) by have h := unpack_plan [] HW.out HF.out HBAL.out HA.out; rw [List.append_nil, if_pos rfl] at h; rw [HOUT.out]; exact h)
      have HU2 := Lib.hid (show unpackS x.t (out ++ [0]) = ([], 22) by have h := unpack_plan [0] HW.out HF.out HBAL.out HA.out; rw [if_neg (by simp)] at h; rw [HOUT.out]; exact h)
      have HU3 := Lib.hid (show 0 < x.n → unpackS x.t out.dropLast = ([], 20) from fun h0 => by rw [HOUT.out]; exact unpack_short HW.out HF.out HBAL.out HA.out (by rw [HOK.out.bytes]; exact h0))
      clear hout hol
      go_wp2_with fail
      refine (HPA.out _ A8 c8 HC8.out hc8).mono ?_
      rintro e w3 ⟨v11, rfl, hn3⟩
      obtain ⟨A11, c11, e11, hc11, hr11⟩ := hn3.1.reads
      subst e11
      have HN3 := Lib.hid hn3
      have HC11 := Lib.hid hr11
      have HB3 := Lib.hid hn3.2.2
      have HU := Lib.hid (HUX.out w3 A11 c11 out _ HU1.out hr11 hc11 (by rw [bl_length] at hbo; omega))
      clear hn3 hr11
      go_wp2_with fail
      refine HU.out.mono ?_
      rintro e w4 ⟨v13, rfl, hn4, hb4⟩
      obtain ⟨A13, c13, e13, hc13, hr13⟩ := hn4.1.reads
      subst e13
      have HB4 := Lib.hid hb4
      have HC84 := Lib.hid (Kd.C_below (Kd.C_below HC8.out HB3.out) hb4)
      have HI := Lib.hid (ints_same hr13 hc13 HC84.out hc8 (Nat.le_trans hvl (by decide)))
      clear hn4 hr13 hb4
      go_wp2_with fail
      refine HI.out.mono ?_
      rintro e w5 ⟨rfl, hd5⟩
      have HB35 : Hid (Below w3.heap.size w3 w5) := Lib.hid (HB4.out.trans ((drawn_below hd5).mono HB4.out.size))
      have HB05 : Hid (Below w.heap.size w w5) := Lib.hid (HB1.out.trans ((HBL.out.mono HB1.out.size).trans ((HB3.out.trans (HB35.out.mono HB3.out.size)).mono (Nat.le_trans HB1.out.size HBL.out.size))))
      have HR85 : Hid (Rw w5 3 .i64 (.slice A8 vs.length c8) vs) := Lib.hid (HR8.out.1.step (fun b hb hl => (HB35.out.block b (Nat.lt_of_lt_of_le hl HB3.out.size)).trans (HB3.out.block b hl)))
      have HR115 : Hid (Rw w5 5 .u8 (.slice A11 (bl out).length c11) (bl out)) := Lib.hid (HN3.out.1.step (fun b hb hl => HB35.out.block b hl))
      have HNE : Hid (∀ b, (Value.slice A11 (bl out).length c11).ownBlock = some b → some b ≠ (Value.slice A8 vs.length c8).ownBlock) := Lib.hid (fun b hb e => by have h1 := HN3.out.2.1 b hb; have h2 := HR8.out.1.lt b e.symm; omega)
      have HLENV := Lib.hid (show (vs.length + 1) * 8 ≤ 140737488355328 by omega)
      obtain ⟨zs, hzs⟩ : ∃ zs, zs = vs ++ [(0 : Int)] := ⟨_, rfl⟩
      have hzl : zs.length ≤ 52 := by rw [hzs, List.length_append]; simp; omega
      have HZS := Lib.hid hzs
      have HZF : Hid (Fit zs) := Lib.hid (by
        intro y hy
        rw [hzs] at hy
        rcases List.mem_append.1 hy with h | h
        · exact (allFit_fit _ _ HA.out).1 y h
        · have : y = 0 := by simpa using h
          omega)
      have HZN := Lib.hid (show ¬ zs.length = vs.length by rw [hzs, List.length_append]; simp)
      clear hzs hd5
      go_wp2_with (first | ((with_reducible refine gate_builtin (b := .append) (xs := #[.tmp 83, .tmp 84]) rfl ?_); refine push_kept rfl (.tmp 83) (.tmp 84) 58 3 .i64 8 rfl Try.underlying58 Wr.info3 (by decide) (.slice A8 vs.length c8) vs 0 rfl rfl HR85.out HLENV.out ?_; intro v85 w6 ho1 hk1 hg1 hat1; rw [← HZS.out] at ho1; obtain ⟨A85, c85, e85, hc85, hr85⟩ := ho1.reads; subst e85; have HC85 := Lib.hid hr85; have HK6 := Lib.hid hk1; have HG6 := Lib.hid hg1; clear ho1 hk1 hg1 hat1 hr85))
      refine (HPB.out w6 A85 c85 zs HC85.out hc85 (by omega) HZF.out HZN.out).mono ?_
      rintro e w7 ⟨v86, rfl, hn7⟩
      have HB67 := Lib.hid hn7.2.2
      have HB06 : Hid (Below w.heap.size w w6) := Lib.hid ((grown_only HG6.out).below HB05.out (fun b hb => by have h1 := HR8.out.2 b hb; have h2 := HB1.out.size; omega) HB05.out.size)
      have HB07 := Lib.hid (HB06.out.trans (HB67.out.mono HB06.out.size))
      have HR87 : Hid (Rw w7 3 .i64 (.slice A8 vs.length c8) vs) := Lib.hid (HK6.out.step (fun b hb hl => HB67.out.block b hl))
      have HR117 : Hid (Rw w7 5 .u8 (.slice A11 (bl out).length c11) (bl out)) := Lib.hid ((HR115.out.step (fun b hb hl => HG6.out.block b hl (HNE.out b hb))).step (fun b hb hl => HB67.out.block b hl))
      clear hn7
      by_cases hv0 : 0 < vs.length
      · have tv : decide ((0 : Int) < (vs.length : Int)) = true := by simp only [decide_eq_true_eq]; omega
        obtain ⟨es, hes⟩ : ∃ es, es = vs.take (vs.length - 1) := ⟨_, rfl⟩
        have hel : es.length = vs.length - 1 := by rw [hes, List.length_take]; omega
        have hcutv : ∀ wx, (Instr.slice 58 (.slice A8 vs.length c8) none (some (.int .i64 ((vs.length : Int) - 1))) none).run Try.prog wx = .ok (.slice A8 es.length c8) wx := fun wx => by
          obtain ⟨i, g1, g2⟩ := i3
          have h := cut_to (P := Try.prog) 58 3 .i64 Try.underlying58 g1 A8 vs.length c8 ((vs.length : Int) - 1) (by omega) (by omega) hc8 wx
          rw [show (((vs.length : Int) - 1).toNat) = es.length by omega] at h
          exact h
        have HCE : Hid (Kd.C (Kd.int .i64) w7 A8 es.length es) := Lib.hid (by
          obtain ⟨A, c, e1, _, h3⟩ := HR87.out.reads
          injection e1 with e1 _ _
          subst e1
          have h4 := C_take h3 (vs.length - 1) (by omega)
          rw [← hes, ← hel] at h4
          exact h4)
        have HEF : Hid (Fit es) := Lib.hid (fun y hy => (allFit_fit _ _ HA.out).1 y (List.mem_of_mem_take (hes ▸ hy)))
        have HEN := Lib.hid (show ¬ es.length = vs.length by omega)
        have hle8 : es.length ≤ c8 := by omega
        have hle9 : es.length ≤ 1000 := by omega
        have HEL := Lib.hid hel
        clear hes hel
        go_wp2_with fail
        refine (HPB.out w7 A8 c8 es HCE.out hle8 hle9 HEF.out HEN.out).mono ?_
        rintro e w77 ⟨v94, rfl, hn77⟩
        have HB77 := Lib.hid hn77.2.2
        have HB077 := Lib.hid (HB07.out.trans (HB77.out.mono HB07.out.size))
        have HR1177 : Hid (Rw w77 5 .u8 (.slice A11 (bl out).length c11) (bl out)) := Lib.hid (HR117.out.step (fun b hb hl => HB77.out.block b hl))
        clear hn77
        have HC11z : Hid (Kd.C (Kd.int .u8) w77 A11 (bl out).length (bl out)) := Lib.hid (by obtain ⟨A, c, e1, _, h3⟩ := HR1177.out.reads; injection e1 with e1 _ _; subst e1; exact h3)
        have HL1 := Lib.hid (show (([] : List Int).length + (bl out).length) * 1 ≤ 140737488355328 by simp; omega)
        have HL2 := Lib.hid (show ((bl out).length + 1) * 1 ≤ 140737488355328 by omega)
        obtain ⟨ys, hys⟩ : ∃ ys, ys = out ++ [(0 : UInt8)] := ⟨_, rfl⟩
        have hyl : ys.length ≤ 409 := by rw [hys, List.length_append]; rw [bl_length] at hbo; simp; omega
        have HYB := Lib.hid (show bl out ++ [0] = bl ys by rw [hys, bl_append]; rfl)
        have HUY := Lib.hid (show unpackS x.t ys = ([], 22) by rw [hys]; exact HU2.out)
        clear hys
        by_cases hz : (bl out).length = 0
        · have tz : (((bl out).length : Int) == 0) = true := by simp [hz]
          have HZ := Lib.hid hz
          clear hz
          go_wp2_with (first | ((with_reducible refine gate_builtin (b := .append) (xs := #[.const (.slice none 0 0), .tmp 106]) rfl ?_); refine app_list rfl (.const (.slice none 0 0)) (.tmp 106) 27 5 .u8 1 rfl Try.underlying27 Wr.info5 (by decide) (.slice none 0 0) [] (bl out) A11 (bl out).length c11 rfl rfl (Rw.nil _ _ _) HC11z.out HL1.out ?_; intro v107 w8 ho1 hg1 hat1; (have ho2 : Rw w8 5 .u8 v107 (bl out) := ho1); have HO8 := Lib.hid ho2; have HG8 := Lib.hid hg1; have HAT8 := Lib.hid hat1; clear ho1 ho2 hg1 hat1) | ((with_reducible refine gate_builtin (b := .append) (xs := #[.tmp 107, .tmp 108]) rfl ?_); refine push_list rfl (.tmp 107) (.tmp 108) 27 5 .u8 1 rfl Try.underlying27 Wr.info5 (by decide) v107 (bl out) 0 rfl rfl HO8.out HL2.out ?_; intro v109 w9 ho1 hg1 hat1; rw [HYB.out] at ho1; obtain ⟨A109, c109, e109, hc109, hr109⟩ := ho1.reads; subst e109; have HC109 := Lib.hid hr109; have HG9 := Lib.hid hg1; clear ho1 hg1 hat1 hr109))
          have HB08 : Hid (Below w.heap.size w w8) := Lib.hid ((grown_only HG8.out).below HB077.out (fun b hb => by simp [Value.ownBlock] at hb) HB077.out.size)
          have HO : Hid (Only w77 w8 (fun b => False)) := Lib.hid ((grown_only HG8.out).mono (fun b hb _ => by simp [Value.ownBlock] at hb))
          have HN107 : Hid (∀ b, v107.ownBlock = some b → w77.heap.size ≤ b) := Lib.hid (fun b hb => by rcases HAT8.out with h | ⟨b', h, hle⟩; (rw [h] at hb; simp [Value.ownBlock] at hb); (rw [h] at hb; injection hb with hb; omega))
          have HB09 : Hid (Below w.heap.size w w9) := Lib.hid ((grown_only HG9.out).below HB08.out (fun b hb => Nat.le_trans HB077.out.size (HN107.out b hb)) HB08.out.size)
          refine (HUX.out w9 A109 c109 ys _ HUY.out HC109.out hc109 (by omega)).mono ?_
          rintro e w10 ⟨v18, rfl, hn10, hb10⟩
          have HB910 := Lib.hid hb10
          clear hn10 hb10
          go_wp2_with fail
          go_ret
          exact ⟨rfl, HB09.out.trans (HB910.out.mono HB09.out.size)⟩
        · have tz : (((bl out).length : Int) == 0) = false := by simp [hz]
          have HX0 := Lib.hid (show 0 < x.n by rw [← HOL.out, ← bl_length out]; omega)
          obtain ⟨ds, hds⟩ : ∃ ds, ds = out.dropLast := ⟨_, rfl⟩
          have hdl : (bl ds).length = (bl out).length - 1 := by rw [hds, bl_length, bl_length, List.length_dropLast]
          have HDL := Lib.hid (show ds.length ≤ 1000 by rw [hds, List.length_dropLast]; rw [bl_length] at hbo; omega)
          have hcut : ∀ wx, (Instr.slice 27 (.slice A11 (bl out).length c11) none (some (.int .i64 (((bl out).length : Int) - 1))) none).run Try.prog wx = .ok (.slice A11 (bl ds).length c11) wx := fun wx => by
            obtain ⟨i, g1, g2⟩ := i5
            have h := cut_to (P := Try.prog) 27 5 .i64 Try.underlying27 g1 A11 (bl out).length c11 (((bl out).length : Int) - 1) (by omega) (by omega) hc11 wx
            rw [show ((((bl out).length : Int) - 1).toNat) = (bl ds).length by omega] at h
            exact h
          have HTK := Lib.hid (show (bl out).take (bl ds).length = bl ds by rw [hdl, hds, bl_take, bl_length, ← List.dropLast_eq_take])
          have HUD := Lib.hid (show unpackS x.t ds = ([], 20) by rw [hds]; exact HU3.out HX0.out)
          have hdle : (bl ds).length ≤ (bl out).length := by omega
          have HDLE := Lib.hid hdl
          clear hds hdl
          have HZ := Lib.hid hz
          clear hz
          go_wp2_with (first | ((with_reducible refine gate_builtin (b := .append) (xs := #[.const (.slice none 0 0), .tmp 106]) rfl ?_); refine app_list rfl (.const (.slice none 0 0)) (.tmp 106) 27 5 .u8 1 rfl Try.underlying27 Wr.info5 (by decide) (.slice none 0 0) [] (bl out) A11 (bl out).length c11 rfl rfl (Rw.nil _ _ _) HC11z.out HL1.out ?_; intro v107 w8 ho1 hg1 hat1; (have ho2 : Rw w8 5 .u8 v107 (bl out) := ho1); have HO8 := Lib.hid ho2; have HG8 := Lib.hid hg1; have HAT8 := Lib.hid hat1; clear ho1 ho2 hg1 hat1) | ((with_reducible refine gate_builtin (b := .append) (xs := #[.tmp 107, .tmp 108]) rfl ?_); refine push_list rfl (.tmp 107) (.tmp 108) 27 5 .u8 1 rfl Try.underlying27 Wr.info5 (by decide) v107 (bl out) 0 rfl rfl HO8.out HL2.out ?_; intro v109 w9 ho1 hg1 hat1; rw [HYB.out] at ho1; obtain ⟨A109, c109, e109, hc109, hr109⟩ := ho1.reads; subst e109; have HC109 := Lib.hid hr109; have HG9 := Lib.hid hg1; clear ho1 hg1 hat1 hr109))
          have HB08 : Hid (Below w.heap.size w w8) := Lib.hid ((grown_only HG8.out).below HB077.out (fun b hb => by simp [Value.ownBlock] at hb) HB077.out.size)
          have HO : Hid (Only w77 w8 (fun b => False)) := Lib.hid ((grown_only HG8.out).mono (fun b hb _ => by simp [Value.ownBlock] at hb))
          have HN107 : Hid (∀ b, v107.ownBlock = some b → w77.heap.size ≤ b) := Lib.hid (fun b hb => by rcases HAT8.out with h | ⟨b', h, hle⟩; (rw [h] at hb; simp [Value.ownBlock] at hb); (rw [h] at hb; injection hb with hb; omega))
          have HB09 : Hid (Below w.heap.size w w9) := Lib.hid ((grown_only HG9.out).below HB08.out (fun b hb => Nat.le_trans HB077.out.size (HN107.out b hb)) HB08.out.size)
          refine (HUX.out w9 A109 c109 ys _ HUY.out HC109.out hc109 (by omega)).mono ?_
          rintro e w10 ⟨v18, rfl, hn10, hb10⟩
          have HB910 := Lib.hid hb10
          clear hn10 hb10
          go_wp2_with fail
          have HR9 : Hid (Rw w9 5 .u8 (.slice A11 (bl out).length c11) (bl out)) := Lib.hid ((HR1177.out.only HO.out (fun b hb h => h)).step (fun b hb hl => HG9.out.block b hl (fun e => by have h1 := HN107.out b e.symm; have h2 := HR1177.out.lt b hb; omega)))
          have HC10 : Hid (Kd.C (Kd.int .u8) w10 A11 (bl ds).length (bl ds)) := Lib.hid (by
            obtain ⟨A, c, e1, _, h3⟩ := HR9.out.reads
            injection e1 with e1 _ _
            subst e1
            have h4 := C_take (Kd.C_below h3 HB910.out) (bl ds).length hdle
            rw [HTK.out] at h4
            exact h4)
          refine (HUX.out w10 A11 c11 ds _ HUD.out HC10.out (Nat.le_trans hdle hc11) HDL.out).mono ?_
          rintro e w11 ⟨v20, rfl, hn11, hb11⟩
          obtain ⟨A20, c20, e20, _, _⟩ := hn11.1.reads
          subst e20
          have HB1011 := Lib.hid hb11
          clear hn11 hb11
          go_wp2_with fail
          go_ret
          exact ⟨rfl, (HB09.out.trans (HB910.out.mono HB09.out.size)).trans (HB1011.out.mono (Nat.le_trans HB09.out.size HB910.out.size))⟩
      · have tv : decide ((0 : Int) < (vs.length : Int)) = false := by simp only [decide_eq_false_iff_not]; omega
        have HC11z : Hid (Kd.C (Kd.int .u8) w7 A11 (bl out).length (bl out)) := Lib.hid (by obtain ⟨A, c, e1, _, h3⟩ := HR117.out.reads; injection e1 with e1 _ _; subst e1; exact h3)
        have HL1 := Lib.hid (show (([] : List Int).length + (bl out).length) * 1 ≤ 140737488355328 by simp; omega)
        have HL2 := Lib.hid (show ((bl out).length + 1) * 1 ≤ 140737488355328 by omega)
        obtain ⟨ys, hys⟩ : ∃ ys, ys = out ++ [(0 : UInt8)] := ⟨_, rfl⟩
        have hyl : ys.length ≤ 409 := by rw [hys, List.length_append]; rw [bl_length] at hbo; simp; omega
        have HYB := Lib.hid (show bl out ++ [0] = bl ys by rw [hys, bl_append]; rfl)
        have HUY := Lib.hid (show unpackS x.t ys = ([], 22) by rw [hys]; exact HU2.out)
        clear hys
        by_cases hz : (bl out).length = 0
        · have tz : (((bl out).length : Int) == 0) = true := by simp [hz]
          have HZ := Lib.hid hz
          clear hz
          go_wp2_with (first | ((with_reducible refine gate_builtin (b := .append) (xs := #[.const (.slice none 0 0), .tmp 106]) rfl ?_); refine app_list rfl (.const (.slice none 0 0)) (.tmp 106) 27 5 .u8 1 rfl Try.underlying27 Wr.info5 (by decide) (.slice none 0 0) [] (bl out) A11 (bl out).length c11 rfl rfl (Rw.nil _ _ _) HC11z.out HL1.out ?_; intro v107 w8 ho1 hg1 hat1; (have ho2 : Rw w8 5 .u8 v107 (bl out) := ho1); have HO8 := Lib.hid ho2; have HG8 := Lib.hid hg1; have HAT8 := Lib.hid hat1; clear ho1 ho2 hg1 hat1) | ((with_reducible refine gate_builtin (b := .append) (xs := #[.tmp 107, .tmp 108]) rfl ?_); refine push_list rfl (.tmp 107) (.tmp 108) 27 5 .u8 1 rfl Try.underlying27 Wr.info5 (by decide) v107 (bl out) 0 rfl rfl HO8.out HL2.out ?_; intro v109 w9 ho1 hg1 hat1; rw [HYB.out] at ho1; obtain ⟨A109, c109, e109, hc109, hr109⟩ := ho1.reads; subst e109; have HC109 := Lib.hid hr109; have HG9 := Lib.hid hg1; clear ho1 hg1 hat1 hr109))
          have HB08 : Hid (Below w.heap.size w w8) := Lib.hid ((grown_only HG8.out).below HB07.out (fun b hb => by simp [Value.ownBlock] at hb) HB07.out.size)
          have HO : Hid (Only w7 w8 (fun b => False)) := Lib.hid ((grown_only HG8.out).mono (fun b hb _ => by simp [Value.ownBlock] at hb))
          have HN107 : Hid (∀ b, v107.ownBlock = some b → w7.heap.size ≤ b) := Lib.hid (fun b hb => by rcases HAT8.out with h | ⟨b', h, hle⟩; (rw [h] at hb; simp [Value.ownBlock] at hb); (rw [h] at hb; injection hb with hb; omega))
          have HB09 : Hid (Below w.heap.size w w9) := Lib.hid ((grown_only HG9.out).below HB08.out (fun b hb => Nat.le_trans HB07.out.size (HN107.out b hb)) HB08.out.size)
          refine (HUX.out w9 A109 c109 ys _ HUY.out HC109.out hc109 (by omega)).mono ?_
          rintro e w10 ⟨v18, rfl, hn10, hb10⟩
          have HB910 := Lib.hid hb10
          clear hn10 hb10
          go_wp2_with fail
          go_ret
          exact ⟨rfl, HB09.out.trans (HB910.out.mono HB09.out.size)⟩
        · have tz : (((bl out).length : Int) == 0) = false := by simp [hz]
          have HX0 := Lib.hid (show 0 < x.n by rw [← HOL.out, ← bl_length out]; omega)
          obtain ⟨ds, hds⟩ : ∃ ds, ds = out.dropLast := ⟨_, rfl⟩
          have hdl : (bl ds).length = (bl out).length - 1 := by rw [hds, bl_length, bl_length, List.length_dropLast]
          have HDL := Lib.hid (show ds.length ≤ 1000 by rw [hds, List.length_dropLast]; rw [bl_length] at hbo; omega)
          have hcut : ∀ wx, (Instr.slice 27 (.slice A11 (bl out).length c11) none (some (.int .i64 (((bl out).length : Int) - 1))) none).run Try.prog wx = .ok (.slice A11 (bl ds).length c11) wx := fun wx => by
            obtain ⟨i, g1, g2⟩ := i5
            have h := cut_to (P := Try.prog) 27 5 .i64 Try.underlying27 g1 A11 (bl out).length c11 (((bl out).length : Int) - 1) (by omega) (by omega) hc11 wx
            rw [show ((((bl out).length : Int) - 1).toNat) = (bl ds).length by omega] at h
            exact h
          have HTK := Lib.hid (show (bl out).take (bl ds).length = bl ds by rw [hdl, hds, bl_take, bl_length, ← List.dropLast_eq_take])
          have HUD := Lib.hid (show unpackS x.t ds = ([], 20) by rw [hds]; exact HU3.out HX0.out)
          have hdle : (bl ds).length ≤ (bl out).length := by omega
          have HDLE := Lib.hid hdl
          clear hds hdl
          have HZ := Lib.hid hz
          clear hz
          go_wp2_with (first | ((with_reducible refine gate_builtin (b := .append) (xs := #[.const (.slice none 0 0), .tmp 106]) rfl ?_); refine app_list rfl (.const (.slice none 0 0)) (.tmp 106) 27 5 .u8 1 rfl Try.underlying27 Wr.info5 (by decide) (.slice none 0 0) [] (bl out) A11 (bl out).length c11 rfl rfl (Rw.nil _ _ _) HC11z.out HL1.out ?_; intro v107 w8 ho1 hg1 hat1; (have ho2 : Rw w8 5 .u8 v107 (bl out) := ho1); have HO8 := Lib.hid ho2; have HG8 := Lib.hid hg1; have HAT8 := Lib.hid hat1; clear ho1 ho2 hg1 hat1) | ((with_reducible refine gate_builtin (b := .append) (xs := #[.tmp 107, .tmp 108]) rfl ?_); refine push_list rfl (.tmp 107) (.tmp 108) 27 5 .u8 1 rfl Try.underlying27 Wr.info5 (by decide) v107 (bl out) 0 rfl rfl HO8.out HL2.out ?_; intro v109 w9 ho1 hg1 hat1; rw [HYB.out] at ho1; obtain ⟨A109, c109, e109, hc109, hr109⟩ := ho1.reads; subst e109; have HC109 := Lib.hid hr109; have HG9 := Lib.hid hg1; clear ho1 hg1 hat1 hr109))
          have HB08 : Hid (Below w.heap.size w w8) := Lib.hid ((grown_only HG8.out).below HB07.out (fun b hb => by simp [Value.ownBlock] at hb) HB07.out.size)
          have HO : Hid (Only w7 w8 (fun b => False)) := Lib.hid ((grown_only HG8.out).mono (fun b hb _ => by simp [Value.ownBlock] at hb))
          have HN107 : Hid (∀ b, v107.ownBlock = some b → w7.heap.size ≤ b) := Lib.hid (fun b hb => by rcases HAT8.out with h | ⟨b', h, hle⟩; (rw [h] at hb; simp [Value.ownBlock] at hb); (rw [h] at hb; injection hb with hb; omega))
          have HB09 : Hid (Below w.heap.size w w9) := Lib.hid ((grown_only HG9.out).below HB08.out (fun b hb => Nat.le_trans HB07.out.size (HN107.out b hb)) HB08.out.size)
          refine (HUX.out w9 A109 c109 ys _ HUY.out HC109.out hc109 (by omega)).mono ?_
          rintro e w10 ⟨v18, rfl, hn10, hb10⟩
          have HB910 := Lib.hid hb10
          clear hn10 hb10
          go_wp2_with fail
          have HR9 : Hid (Rw w9 5 .u8 (.slice A11 (bl out).length c11) (bl out)) := Lib.hid ((HR117.out.only HO.out (fun b hb h => h)).step (fun b hb hl => HG9.out.block b hl (fun e => by have h1 := HN107.out b e.symm; have h2 := HR117.out.lt b hb; omega)))
          have HC10 : Hid (Kd.C (Kd.int .u8) w10 A11 (bl ds).length (bl ds)) := Lib.hid (by
            obtain ⟨A, c, e1, _, h3⟩ := HR9.out.reads
            injection e1 with e1 _ _
            subst e1
            have h4 := C_take (Kd.C_below h3 HB910.out) (bl ds).length hdle
            rw [HTK.out] at h4
            exact h4)
          refine (HUX.out w10 A11 c11 ds _ HUD.out HC10.out (Nat.le_trans hdle hc11) HDL.out).mono ?_
          rintro e w11 ⟨v20, rfl, hn11, hb11⟩
          obtain ⟨A20, c20, e20, _, _⟩ := hn11.1.reads
          subst e20
          have HB1011 := Lib.hid hb11
          clear hn11 hb11
          go_wp2_with fail
          go_ret
          exact ⟨rfl, (HB09.out.trans (HB910.out.mono HB09.out.size)).trans (HB1011.out.mono (Nat.le_trans HB09.out.size HB910.out.size))⟩
end Go.Proofs.Ytdmliaodacaefaa.Shape
