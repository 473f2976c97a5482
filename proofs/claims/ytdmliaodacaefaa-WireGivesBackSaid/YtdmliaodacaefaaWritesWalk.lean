/- WireWrites walked: two writers and two of the reference, step by step. -/
import Derived.Test.YtdmliaodacaefaaDuo
import Derived.Test.YtdmliaodacaefaaOps
namespace Go.Proofs.Ytdmliaodacaefaa.Wr
open Go.RowKit Go.Proofs.YtdmliaodacaefaaW.PrintWords Go.Proofs.YtdmliaodacaefaaW.PrintLast Go.Proofs.YtdmliaodacaefaaW.PrintMore Go.Proofs.Ytdmliaodacaefaa.Mem Go.Proofs.Ytdmliaodacaefaa.Sep Go.Proofs.Ytdmliaodacaefaa.Bridge Go.Proofs.Ytdmliaodacaefaa.Ops
set_option linter.unusedVariables false
set_option linter.unusedSimpArgs false
/-- several, each in blocks of its own, none of them elder than w0; nothing elder has turned. -/
structure Since (w0 : World) (l : List Asr) (w : World) : Prop where
  all : All l w (fun b => w0.heap.size ≤ b)
  below : Below w0.heap.size w0 w
section
variable {w0 w w1 : World} {l : List Asr} {P : Asr}
theorem Since.start (w0 : World) : Since w0 [] w0 := ⟨All.nil _ _, Below.refl _ _⟩
theorem Since.pick (h : Since w0 l w) (i : Nat) (hi : i < l.length) : ∃ F1, l[i].on w F1 ∧ (∀ b, F1 b → w0.heap.size ≤ b) ∧ ∀ w1 P', Turn w w1 F1 P' → Since w0 (l.set i P') w1 := by
  obtain ⟨F1, h1, h2, h3⟩ := All.pick h.all i hi
  refine ⟨F1, h1, h2, fun w1 P' ht => ⟨All.up (h3 w1 P' ht.1 ht.2) (fun b hb => ?_), ht.1.below h.below h2 h.below.size⟩⟩
  rcases hb with hb | hb
  · exact hb
  · exact Nat.le_trans h.below.size hb
theorem Since.add (h : Since w0 l w) (hb : Below w.heap.size w w1) (hP : P.on w1 (fun b => w.heap.size ≤ b)) : Since w0 (l ++ [P]) w1 :=
  ⟨All.up (All.add h.all hb hP) (fun b hb2 => by
    rcases hb2 with hb2 | hb2
    · exact hb2
    · exact Nat.le_trans h.below.size hb2), h.below.trans (hb.mono h.below.size)⟩
theorem Since.boxed (h : Since w0 l w) (O : Obj) : Since w0 (l ++ [box w.heap.size O]) (w.alloc O) :=
  h.add (below_alloc (Below.refl _ _) O) ⟨heap_alloc_new w O, Nat.le_refl _⟩
theorem Since.drawn (h : Since w0 l w) (hd : Drawn0 w w1) : Since w0 l w1 := by
  obtain ⟨k, rfl⟩ := hd
  exact ⟨All.keep h.all (fun _ _ _ => rfl), pw_below_drewN h.below k⟩
theorem Since.after (h : Since w0 l w) (hb : Below w.heap.size w w1) : Since w0 l w1 := ⟨All.below h.all hb, h.below.trans (hb.mono h.below.size)⟩
theorem Since.drop {l' : List Asr} (h : Since w0 (l ++ l') w) : Since w0 l w := ⟨All.drop h.all, h.below⟩
theorem Since.heap {b : Nat} {O : Obj} (h : Since w0 l w) (i : Nat) (hi : i < l.length) (e : l[i] = box b O) : w.heap[b]? = some O := by
  obtain ⟨F1, h1, _⟩ := All.at_ h.all i hi
  rw [e] at h1
  exact h1.1
theorem Since.at_ (h : Since w0 l w) (i : Nat) (hi : i < l.length) : ∃ F1, l[i].on w F1 ∧ (∀ b, F1 b → w0.heap.size ≤ b) := All.at_ h.all i hi
/-- four, as two pairs. -/
theorem Since.pairs {P Q R S : Asr} (h : Since w0 [P, Q, R, S] w) : Since w0 [Sep.all [P, Q], Sep.all [R, S]] w := by
  obtain ⟨⟨Fs, h1, h2, h3⟩, hb⟩ := h
  have g0 : P.on w (Fs 0) := h1 0 (by simp)
  have g1 : Q.on w (Fs 1) := h1 1 (by simp)
  have g2 : R.on w (Fs 2) := h1 2 (by simp)
  have g3 : S.on w (Fs 3) := h1 3 (by simp)
  refine ⟨⟨fun i b => if i = 0 then Fs 0 b ∨ Fs 1 b else if i = 1 then Fs 2 b ∨ Fs 3 b else False, fun i hi => ?_, fun i j b hne hi hj => ?_, fun i b hb2 => ?_⟩, hb⟩
  · have hi' : i = 0 ∨ i = 1 := by simp at hi; omega
    rcases hi' with e | e <;> subst e
    · refine ⟨fun k => if k = 0 then Fs 0 else if k = 1 then Fs 1 else fun _ => False, fun k hk => ?_, fun k j b hne hk hj => ?_, fun k b hk => ?_⟩
      · have hk' : k = 0 ∨ k = 1 := by simp at hk; omega
        rcases hk' with e | e <;> subst e
        · exact g0
        · exact g1
      · by_cases e0 : k = 0
        · by_cases e1 : j = 1
          · subst e0; subst e1
            exact h2 0 1 b (by omega) hk hj
          · have : ¬ j = 0 := fun h => hne (e0.trans h.symm)
            simp [e1, this] at hj
        · by_cases e1 : k = 1
          · by_cases e2 : j = 0
            · subst e1; subst e2
              exact h2 1 0 b (by omega) hk hj
            · have : ¬ j = 1 := fun h => hne (e1.trans h.symm)
              simp [e2, this] at hj
          · simp [e0, e1] at hk
      · by_cases e0 : k = 0
        · simp [e0] at hk; exact .inl hk
        · by_cases e1 : k = 1
          · simp [e1] at hk; exact .inr hk
          · simp [e0, e1] at hk
    · refine ⟨fun k => if k = 0 then Fs 2 else if k = 1 then Fs 3 else fun _ => False, fun k hk => ?_, fun k j b hne hk hj => ?_, fun k b hk => ?_⟩
      · have hk' : k = 0 ∨ k = 1 := by simp at hk; omega
        rcases hk' with e | e <;> subst e
        · exact g2
        · exact g3
      · by_cases e0 : k = 0
        · by_cases e1 : j = 1
          · subst e0; subst e1
            exact h2 2 3 b (by omega) hk hj
          · have : ¬ j = 0 := fun h => hne (e0.trans h.symm)
            simp [e1, this] at hj
        · by_cases e1 : k = 1
          · by_cases e2 : j = 0
            · subst e1; subst e2
              exact h2 3 2 b (by omega) hk hj
            · have : ¬ j = 1 := fun h => hne (e1.trans h.symm)
              simp [e2, this] at hj
          · simp [e0, e1] at hk
      · by_cases e0 : k = 0
        · simp [e0] at hk; exact .inl hk
        · by_cases e1 : k = 1
          · simp [e1] at hk; exact .inr hk
          · simp [e0, e1] at hk
  · by_cases e0 : i = 0
    · have e1 : ¬ j = 0 := fun h => hne (e0.trans h.symm)
      by_cases e2 : j = 1
      · subst e0; subst e2
        simp at hi hj
        rcases hi with hi | hi <;> rcases hj with hj | hj
        · exact h2 0 2 b (by omega) hi hj
        · exact h2 0 3 b (by omega) hi hj
        · exact h2 1 2 b (by omega) hi hj
        · exact h2 1 3 b (by omega) hi hj
      · simp [e1, e2] at hj
    · by_cases e1 : i = 1
      · have e2 : ¬ j = 1 := fun h => hne (e1.trans h.symm)
        by_cases e3 : j = 0
        · subst e1; subst e3
          simp at hi hj
          rcases hi with hi | hi <;> rcases hj with hj | hj
          · exact h2 2 0 b (by omega) hi hj
          · exact h2 2 1 b (by omega) hi hj
          · exact h2 3 0 b (by omega) hi hj
          · exact h2 3 1 b (by omega) hi hj
        · simp [e2, e3] at hj
      · simp [e0, e1] at hi
  · by_cases e0 : i = 0
    · subst e0
      simp at hb2
      rcases hb2 with h | h
      · exact h3 0 b h
      · exact h3 1 b h
    · by_cases e1 : i = 1
      · subst e1
        simp at hb2
        rcases hb2 with h | h
        · exact h3 2 b h
        · exact h3 3 b h
      · simp [e0, e1] at hb2
end
/-- what came in lies apart from what is new. -/
theorem Sl.apart {W w : World} {s : Sl} {F1 : Blks} (h : s.ok W) (h1 : ∀ b, F1 b → W.heap.size ≤ b) (hb : Below W.heap.size W w) : 0 < (bl s.l).length → ∀ x, s.A = some x → ¬ F1 x.block ∧ x.block < w.heap.size := by
  intro h0 x hx
  have h2 := h.old h0 x hx
  refine ⟨fun hF => ?_, ?_⟩
  · have := h1 _ hF
    omega
  · have := hb.size
    omega
set_option maxHeartbeats 4000000 in
theorem writes_walk (n1 n2 : Int) (A : Option Addr) (len cap : Nat) (ops : List OpR) (w : World) (h : Script w A len ops) :
    Calls Try.prog 3 #[.int .i64 n1, .int .i64 n2, .slice A len cap] w fun e w' => e = .returned (.bool true) ∧ Below w.heap.size w w' := by
  have H := Lib.hid h
  have HM := Lib.hid h.max
  clear h
  go_enter Try.func3, Try.ntmps3
  go_wp2_with fail
  refine (neww_calls _ _).mono ?_
  rintro e w1 ⟨rfl, h1, hb1⟩
  have S1 : Hid (Since w [st objW w.heap.size (WS.new (clip n1))] w1) := Lib.hid ((Since.start w).add hb1 h1)
  clear h1 hb1
  go_wp2_with fail
  refine (newr_calls _ _).mono ?_
  rintro e w2 ⟨rfl, h2, hb2⟩
  have S2 : Hid (Since w [st objW w.heap.size (WS.new (clip n1)), st objV w1.heap.size (WS.new (clip n1))] w2) := Lib.hid (S1.out.add hb2 h2)
  clear h2 hb2
  go_wp2_with fail
  refine (neww_calls _ _).mono ?_
  rintro e w3 ⟨rfl, h3, hb3⟩
  have S3 : Hid (Since w [st objW w.heap.size (WS.new (clip n1)), st objV w1.heap.size (WS.new (clip n1)), st objW w2.heap.size (WS.new (clip n2))] w3) := Lib.hid (S2.out.add hb3 h3)
  clear h3 hb3
  go_wp2_with fail
  refine (newr_calls _ _).mono ?_
  rintro e w4 ⟨rfl, h4, hb4⟩
  have S4 : Hid (Since w [duo w.heap.size w1.heap.size (WS.new (clip n1)), duo w2.heap.size w3.heap.size (WS.new (clip n2))] w4) := Lib.hid (Since.pairs (S3.out.add hb4 h4))
  clear h4 hb4 S1 S2 S3
  obtain ⟨a, ha⟩ : ∃ a, a = w.heap.size := ⟨_, rfl⟩
  obtain ⟨r, hr⟩ : ∃ a, a = w1.heap.size := ⟨_, rfl⟩
  obtain ⟨b, hb⟩ : ∃ a, a = w2.heap.size := ⟨_, rfl⟩
  obtain ⟨q, hq⟩ : ∃ a, a = w3.heap.size := ⟨_, rfl⟩
  rw [← ha, ← hr, ← hb, ← hq] at S4
  rw [← ha, ← hr, ← hb, ← hq]
  clear ha hr hb hq
  go_wp2_with fail
  go_loopw [11, 12] (fun v11 v12 wr => ∃ (k : Nat) (s1 s2 : WS), v11 = .int .i64 k ∧ k ≤ len ∧ Since w [duo a r s1, duo b q s2] wr) (fun v _ _ => len - (intOf v).toNat)
  case atStart => exact ⟨0, _, _, rfl, Nat.zero_le _, S4.out⟩
  case round =>
    obtain ⟨k, s1, s2, rfl, hk, hs⟩ := hrel
    have HS := Lib.hid hs
    clear hs
    by_cases hlt : k < len
    · obtain ⟨xb, xo, rfl, o, _, c0, c1, c2, c3, hok, hrng⟩ := H.out.cells HS.out.below k hlt
      have hkm : k ≤ 140737488351232 := Nat.le_trans hk HM.out
      obtain ⟨otwo, okind, on, oA, oc, ol⟩ := o
      dsimp only [Sl.val] at c0 c1 c2 c3 hok hrng
      have HOK := Lib.hid hok
      have HRNG := Lib.hid hrng
      have HLT := Lib.hid (show k < len from hlt)
      have HB := Lib.hid (HS.out.boxed (.cells #[.bool otwo, .int .i64 okind, .int .i64 on, .slice oA (bl ol).length oc] 29))
      clear hok hrng
      cases otwo
      · go_wp2_with fail
        obtain ⟨F1, g1, hu1, k1⟩ := Since.pick HB.out 0 (by simp)
        refine (writes_calls a r s1 false okind on oA oc ol g1 HRNG.out (Kd.C_below HOK.out.read HB.out.below) HOK.out.cap HOK.out.len (Sl.apart HOK.out hu1 HB.out.below)).mono ?_
        rintro e w5 ⟨rfl, ht⟩
        have HS1 : Hid (Since w ([duo a r (s1.step okind on ol), duo b q s2] ++ [box wr.heap.size (.cells #[.bool false, .int .i64 okind, .int .i64 on, .slice oA (bl ol).length oc] 29)]) w5) := Lib.hid (k1 _ _ ht)
        clear g1 hu1 k1 ht
        go_wp2_with fail
        have hlt := HLT.out
        exact ⟨⟨k + 1, _, _, by simp, by omega, HS1.out.drop⟩, by simp [intOf]; omega⟩
      · go_wp2_with fail
        obtain ⟨F1, g1, hu1, k1⟩ := Since.pick HB.out 1 (by simp)
        refine (writes_calls b q s2 true okind on oA oc ol g1 HRNG.out (Kd.C_below HOK.out.read HB.out.below) HOK.out.cap HOK.out.len (Sl.apart HOK.out hu1 HB.out.below)).mono ?_
        rintro e w5 ⟨rfl, ht⟩
        have HS1 : Hid (Since w ([duo a r s1, duo b q (s2.step okind on ol)] ++ [box wr.heap.size (.cells #[.bool true, .int .i64 okind, .int .i64 on, .slice oA (bl ol).length oc] 29)]) w5) := Lib.hid (k1 _ _ ht)
        have hbx := Since.heap (l := [duo a r s1, duo b q (s2.step okind on ol), box wr.heap.size (.cells #[.bool true, .int .i64 okind, .int .i64 on, .slice oA (bl ol).length oc] 29)]) HS1.out 2 (by simp) rfl
        have d0 : w5.cell? ⟨wr.heap.size, 0, none⟩ = some (.bool true) := cell_of hbx rfl
        clear g1 hu1 k1 ht hbx
        go_wp2_with fail
        have hlt := HLT.out
        exact ⟨⟨k + 1, _, _, by simp, by omega, HS1.out.drop⟩, by simp [intOf]; omega⟩
    · clear hk
      go_wp2_with fail
      obtain ⟨F1, g1, hu1, k1⟩ := Since.pick HS.out 0 (by simp)
      refine (written_calls a r s1 g1).mono ?_
      rintro e w5 ⟨rfl, ht⟩
      have HS1 : Hid (Since w [duo a r s1, duo b q s2] w5) := Lib.hid (k1 _ _ ht)
      clear g1 hu1 k1 ht
      go_wp2_with fail
      obtain ⟨F2, g2, hu2, k2⟩ := Since.pick HS1.out 1 (by simp)
      refine (written_calls b q s2 g2).mono ?_
      rintro e w6 ⟨rfl, ht⟩
      have HS2 : Hid (Since w [duo a r s1, duo b q s2] w6) := Lib.hid (k2 _ _ ht)
      clear g2 hu2 k2 ht
      go_wp2_with fail
      go_ret
      exact ⟨by simp, HS2.out.below⟩
end Go.Proofs.Ytdmliaodacaefaa.Wr
