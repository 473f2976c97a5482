/- Function parse: the units of a shape, or the panic. By a walk, by induction on what is left of the text. -/
import Derived.Test.YtdmliaodacaefaaShape
import Derived.Outline
import Derived.WalkLawsBesides
namespace Go.Proofs.Ytdmliaodacaefaa.Shape
open Go.RowKit Go.Proofs.YtdmliaodacaefaaW.PrintWords Go.Proofs.YtdmliaodacaefaaW.PrintLast Go.Proofs.YtdmliaodacaefaaW.PrintMore Go.Proofs.Ytdmliaodacaefaa.Mem Go.Proofs.Ytdmliaodacaefaa.Sep Go.Proofs.Ytdmliaodacaefaa.Bridge Go.Proofs.Ytdmliaodacaefaa.Wr
set_option linter.unusedVariables false
set_option linter.unusedSimpArgs false
/-- the panic of a text that is no shape. -/
def bad : Ending := .panicked [{ v := .iface 44 (.int .i64 24), recovered := false }]
/-- what parse comes to. -/
def ParsePost (t : List UInt8) (i d : Nat) (w : World) (e : Ending) (w' : World) : Prop :=
  Below w.heap.size w w' ∧ ((par t i d = none ∧ e = bad) ∨ ∃ us j v, par t i d = some (us, j) ∧ e = .returned (.tuple #[v, .int .i64 (j : Nat)]) ∧ Units w' (fun b => w.heap.size ≤ b) v us)
/-- where a round stands. -/
def At (t : List UInt8) (i d B : Nat) (w : World) (v1 v8 : Value) (wr : World) : Prop :=
  ∃ (k : Nat) (us : List U), v1 = .int .i64 (k : Nat) ∧ Grow wr B v8 us ∧ par t i d = behind us (par t k d) ∧ i ≤ k ∧ k ≤ t.length ∧ us.length ≤ k ∧ Below B w wr
theorem getT (s : ByteArray) (k : Nat) (h : k < s.size) (h' : k < s.data.toList.length) : s.data.toList[k] = s[k] := rfl
theorem post_end {t : List UInt8} {i d k : Nat} {w wr : World} {us : List U} {v : Value} (hp : par t i d = behind us (par t k d)) (hk : par t k d = some ([], k)) (hg : Grow wr w.heap.size v us) (hb : Below w.heap.size w wr) :
    ParsePost t i d w (.returned (.tuple #[v, .int .i64 (k : Nat)])) wr := by
  refine ⟨hb, .inr ⟨us, k, v, ?_, rfl, hg.units⟩⟩
  rw [hp, hk]
  show some (us ++ [], k) = _
  rw [List.append_nil]
theorem post_bad {t : List UInt8} {i d k : Nat} {w wr : World} {us : List U} (hp : par t i d = behind us (par t k d)) (hk : par t k d = none) (hb : Below w.heap.size w wr) : ParsePost t i d w bad wr := by
  refine ⟨hb, .inl ⟨?_, rfl⟩⟩
  rw [hp, hk]
  rfl
set_option maxRecDepth 100000 in
set_option maxHeartbeats 4000000 in
theorem parse_calls (s : ByteArray) (hs : s.size ≤ 64) (n : Nat) : ∀ (i d : Nat) (w : World), s.data.toList.length - i < n → i ≤ s.data.toList.length → d ≤ 4 → 
    Calls Try.prog 103 #[.string s, .int .i64 i, .int .i64 d] w (ParsePost s.data.toList i d w) := by
  induction n with
  | zero => intro i d w hn; omega
  | succ n ih =>
    intro i d w hn hi hd
    have HN := Lib.hid hn
    have HI := Lib.hid hi
    have HIH := Lib.hid ih
    clear hn ih
    go_enter Try.func103, Try.ntmps103
    go_wp2_with fail
    go_loopw [1, 8] (fun v1 v8 wr => At s.data.toList i d w.heap.size w v1 v8 wr) (fun v1 _ _ => s.size - (intOf v1).toNat)
    case atStart => exact ⟨i, [], rfl, Grow.nil _ _, (behind_nil _).symm, Nat.le_refl _, HI.out, Nat.zero_le _, Below.refl _ _⟩
    case round =>
      obtain ⟨k, us, rfl, hgr, hpar, hik, hkl, hul, hb⟩ := hrel
      have HB := Lib.hid hb
      have HP := Lib.hid hpar
      have HGR := Lib.hid hgr
      have HUL := Lib.hid hul
      have HKL := Lib.hid hkl
      have HIK := Lib.hid hik
      obtain ⟨a8, c8, rfl, hc8⟩ := hgr.slice
      clear hb hpar hgr hul hkl hik
      by_cases hlt : k < s.size
      · have htk := getT s k hlt hlt
        have HTK := Lib.hid htk
        clear htk
        have hkb : (k : Int) < 64 := by omega
        by_cases h41 : s[k] = 41
        · have t41 : ((s[k].toNat : Int) != 41) = false := by rw [h41]; rfl
          have H41 := Lib.hid h41
          clear h41
          go_wp2_with fail
          go_ret2
          exact post_end HP.out (par_close (show k < s.data.toList.length from hlt) (by rw [HTK.out]; exact H41.out)) HGR.out HB.out
        · have t41 : ((s[k].toNat : Int) != 41) = true := by
            simp only [bne_iff_ne, ne_eq]; intro e; exact h41 (UInt8.toNat_inj.1 (by show s[k].toNat = 41; omega))
          have H41 := Lib.hid h41
          clear h41
          by_cases hdig : isDigit s[k] = true
          case pos =>
            have hd1 : decide ((50 : Int) ≤ (s[k].toNat : Int)) = true := by unfold isDigit at hdig; simp at hdig ⊢; omega
            have hd2 : decide ((s[k].toNat : Int) ≤ 57) = true := by unfold isDigit at hdig; simp at hdig ⊢; omega
            have HDIG := Lib.hid hdig
            clear hdig
            have HLET := Lib.hid (show let_ s.data.toList[k] k = k + 1 by rw [HTK.out]; unfold let_; rw [if_pos HDIG.out])
            obtain ⟨m, hm⟩ : ∃ m : Nat, ((s[k].toNat : Int) - 48) % 256 = (m : Int) := ⟨(((s[k].toNat : Int) - 48) % 256).toNat, by omega⟩
            have HTIM := Lib.hid (show tim s.data.toList[k] = m by rw [HTK.out]; unfold tim; rw [if_pos HDIG.out]; simp only [decide_eq_true_eq] at hd1 hd2; omega)
            by_cases hp : k + 1 < s.size
            case neg =>
              have tp : ((k : Int) + 1 == (s.size : Int)) = true := by simp only [beq_iff_eq]; omega
              have HPP := Lib.hid hp
              clear hp
              go_wp2_with fail
              exact ⟨rfl, post_bad HP.out (par_cut (show k < s.data.toList.length from hlt) (by rw [HTK.out]; exact H41.out) (by rw [HLET.out]; exact HPP.out)) (below_alloc HB.out _)⟩
            case pos =>
              have tp : ((k : Int) + 1 == (s.size : Int)) = false := by simp only [beq_eq_false_iff_ne, ne_eq]; omega
              have HGET := Lib.hid (show ∀ (h : let_ s.data.toList[k] k < s.data.toList.length), s.data.toList[let_ s.data.toList[k] k] = s[k + 1] from fun h => by have e := HLET.out; simp only [e]; rfl)
              have HKL2 := Lib.hid (show let_ s.data.toList[k] k < s.data.toList.length by rw [HLET.out]; exact hp)
              have HK1 := Lib.hid (show ¬ s.data.toList[k] = 41 by rw [HTK.out]; exact H41.out)
              have HW := Lib.hid (show wr.heap.size + 0 = wr.heap.size from rfl)
              by_cases h98 : s[k + 1] = 98
              case pos =>
                have hc : (s[k + 1].toNat : Int) = 98 := by rw [h98]; rfl
                have HPN := Lib.hid (par_letter (d := d) (show k < s.data.toList.length from hlt) HK1.out HKL2.out (by rw [HGET.out]; rw [h98]; rfl))
                have HPQ := Lib.hid (show par s.data.toList k d = behind [.mk 98 m []] (par s.data.toList (k + 1 + 1) d) by have h := HPN.out; rw [HGET.out, HTIM.out, h98] at h; rw [h, HLET.out])
                clear h98 HPN
                have HGA := Lib.hid (HGR.out.below (below_alloc (Below.refl _ _) (.cells #[.int .u8 98, .int .i64 m, .slice none 0 0] 108)))
                go_wp2_with (first | ((with_reducible refine gate_builtin (b := .append) (xs := #[.tmp 79, .tmp 81]) rfl ?_); refine append_unit (w := w) (B := w.heap.size) rfl (.tmp 79) (.tmp 81) rfl _ us 98 m [] (.slice none 0 0) 98 (m : Int) rfl rfl (wr.heap.size + 1) (alloc_size _ _) rfl rfl HGA.out (Units.nil _ _) (below_alloc HB.out _) (Nat.le_trans HB.out.size (below_alloc (Below.refl _ _) _).size) (by have := HUL.out; omega) ?_; intro a1 c1 w1 hg1 hb1; have HG1 := Lib.hid hg1; have HB1 := Lib.hid hb1; clear hg1 hb1))
                refine ⟨⟨k + 1 + 1, us ++ [.mk 98 m []], by simp, HG1.out, by rw [HP.out, HPQ.out, behind_behind], by have := HIK.out; omega, by show k + 1 + 1 ≤ s.size; omega, by have := HUL.out; simp; omega, HB1.out⟩, by simp [intOf]; omega⟩
              case neg =>
                have t98 : ((s[k + 1].toNat : Int) == 98) = false := by simp only [beq_eq_false_iff_ne, ne_eq]; intro e; exact h98 (UInt8.toNat_inj.1 (by show s[k + 1].toNat = 98; omega))
                by_cases h104 : s[k + 1] = 104
                case pos =>
                  have hc : (s[k + 1].toNat : Int) = 104 := by rw [h104]; rfl
                  have HPN := Lib.hid (par_letter (d := d) (show k < s.data.toList.length from hlt) HK1.out HKL2.out (by rw [HGET.out]; rw [h104]; rfl))
                  have HPQ := Lib.hid (show par s.data.toList k d = behind [.mk 104 m []] (par s.data.toList (k + 1 + 1) d) by have h := HPN.out; rw [HGET.out, HTIM.out, h104] at h; rw [h, HLET.out])
                  clear h104 HPN
                  have HGA := Lib.hid (HGR.out.below (below_alloc (Below.refl _ _) (.cells #[.int .u8 104, .int .i64 m, .slice none 0 0] 108)))
                  go_wp2_with (first | ((with_reducible refine gate_builtin (b := .append) (xs := #[.tmp 79, .tmp 81]) rfl ?_); refine append_unit (w := w) (B := w.heap.size) rfl (.tmp 79) (.tmp 81) rfl _ us 104 m [] (.slice none 0 0) 104 (m : Int) rfl rfl (wr.heap.size + 1) (alloc_size _ _) rfl rfl HGA.out (Units.nil _ _) (below_alloc HB.out _) (Nat.le_trans HB.out.size (below_alloc (Below.refl _ _) _).size) (by have := HUL.out; omega) ?_; intro a1 c1 w1 hg1 hb1; have HG1 := Lib.hid hg1; have HB1 := Lib.hid hb1; clear hg1 hb1))
                  refine ⟨⟨k + 1 + 1, us ++ [.mk 104 m []], by simp, HG1.out, by rw [HP.out, HPQ.out, behind_behind], by have := HIK.out; omega, by show k + 1 + 1 ≤ s.size; omega, by have := HUL.out; simp; omega, HB1.out⟩, by simp [intOf]; omega⟩
                case neg =>
                  have t104 : ((s[k + 1].toNat : Int) == 104) = false := by simp only [beq_eq_false_iff_ne, ne_eq]; intro e; exact h104 (UInt8.toNat_inj.1 (by show s[k + 1].toNat = 104; omega))
                  by_cases h119 : s[k + 1] = 119
                  case pos =>
                    have hc : (s[k + 1].toNat : Int) = 119 := by rw [h119]; rfl
                    have HPN := Lib.hid (par_letter (d := d) (show k < s.data.toList.length from hlt) HK1.out HKL2.out (by rw [HGET.out]; rw [h119]; rfl))
                    have HPQ := Lib.hid (show par s.data.toList k d = behind [.mk 119 m []] (par s.data.toList (k + 1 + 1) d) by have h := HPN.out; rw [HGET.out, HTIM.out, h119] at h; rw [h, HLET.out])
                    clear h119 HPN
                    have HGA := Lib.hid (HGR.out.below (below_alloc (Below.refl _ _) (.cells #[.int .u8 119, .int .i64 m, .slice none 0 0] 108)))
                    go_wp2_with (first | ((with_reducible refine gate_builtin (b := .append) (xs := #[.tmp 79, .tmp 81]) rfl ?_); refine append_unit (w := w) (B := w.heap.size) rfl (.tmp 79) (.tmp 81) rfl _ us 119 m [] (.slice none 0 0) 119 (m : Int) rfl rfl (wr.heap.size + 1) (alloc_size _ _) rfl rfl HGA.out (Units.nil _ _) (below_alloc HB.out _) (Nat.le_trans HB.out.size (below_alloc (Below.refl _ _) _).size) (by have := HUL.out; omega) ?_; intro a1 c1 w1 hg1 hb1; have HG1 := Lib.hid hg1; have HB1 := Lib.hid hb1; clear hg1 hb1))
                    refine ⟨⟨k + 1 + 1, us ++ [.mk 119 m []], by simp, HG1.out, by rw [HP.out, HPQ.out, behind_behind], by have := HIK.out; omega, by show k + 1 + 1 ≤ s.size; omega, by have := HUL.out; simp; omega, HB1.out⟩, by simp [intOf]; omega⟩
                  case neg =>
                    have t119 : ((s[k + 1].toNat : Int) == 119) = false := by simp only [beq_eq_false_iff_ne, ne_eq]; intro e; exact h119 (UInt8.toNat_inj.1 (by show s[k + 1].toNat = 119; omega))
                    by_cases h108 : s[k + 1] = 108
                    case pos =>
                      have hc : (s[k + 1].toNat : Int) = 108 := by rw [h108]; rfl
                      have HPN := Lib.hid (par_letter (d := d) (show k < s.data.toList.length from hlt) HK1.out HKL2.out (by rw [HGET.out]; rw [h108]; rfl))
                      have HPQ := Lib.hid (show par s.data.toList k d = behind [.mk 108 m []] (par s.data.toList (k + 1 + 1) d) by have h := HPN.out; rw [HGET.out, HTIM.out, h108] at h; rw [h, HLET.out])
                      clear h108 HPN
                      have HGA := Lib.hid (HGR.out.below (below_alloc (Below.refl _ _) (.cells #[.int .u8 108, .int .i64 m, .slice none 0 0] 108)))
                      go_wp2_with (first | ((with_reducible refine gate_builtin (b := .append) (xs := #[.tmp 79, .tmp 81]) rfl ?_); refine append_unit (w := w) (B := w.heap.size) rfl (.tmp 79) (.tmp 81) rfl _ us 108 m [] (.slice none 0 0) 108 (m : Int) rfl rfl (wr.heap.size + 1) (alloc_size _ _) rfl rfl HGA.out (Units.nil _ _) (below_alloc HB.out _) (Nat.le_trans HB.out.size (below_alloc (Below.refl _ _) _).size) (by have := HUL.out; omega) ?_; intro a1 c1 w1 hg1 hb1; have HG1 := Lib.hid hg1; have HB1 := Lib.hid hb1; clear hg1 hb1))
                      refine ⟨⟨k + 1 + 1, us ++ [.mk 108 m []], by simp, HG1.out, by rw [HP.out, HPQ.out, behind_behind], by have := HIK.out; omega, by show k + 1 + 1 ≤ s.size; omega, by have := HUL.out; simp; omega, HB1.out⟩, by simp [intOf]; omega⟩
                    case neg =>
                      have t108 : ((s[k + 1].toNat : Int) == 108) = false := by simp only [beq_eq_false_iff_ne, ne_eq]; intro e; exact h108 (UInt8.toNat_inj.1 (by show s[k + 1].toNat = 108; omega))
                      by_cases h40 : s[k + 1] = 40
                      case neg =>
                        have t40 : ((s[k + 1].toNat : Int) == 40) = false := by simp only [beq_eq_false_iff_ne, ne_eq]; intro e; exact h40 (UInt8.toNat_inj.1 (by show s[k + 1].toNat = 40; omega))
                        have HPN := Lib.hid (par_bad (d := d) (show k < s.data.toList.length from hlt) HK1.out HKL2.out (by rw [HGET.out]; unfold isLetter; simp [h98, h104, h119, h108]) (by rw [HGET.out]; exact h40))
                        clear h98 h104 h119 h108 h40
                        go_wp2_with fail
                        exact ⟨rfl, post_bad HP.out HPN.out (below_alloc HB.out _)⟩
                      case pos =>
                        have hc : (s[k + 1].toNat : Int) = 40 := by rw [h40]; rfl
                        have HC40 := Lib.hid (show s.data.toList[let_ s.data.toList[k] k]'HKL2.out = 40 by rw [HGET.out]; exact h40)
                        clear h98 h104 h119 h108 h40
                        by_cases hd4 : d = 4
                        case pos =>
                          subst hd4
                          have HPN := Lib.hid (par_deep (d := 4) (show k < s.data.toList.length from hlt) HK1.out HKL2.out HC40.out rfl)
                          go_wp2_with fail
                          exact ⟨rfl, post_bad HP.out HPN.out (below_alloc HB.out _)⟩
                        case neg =>
                          have td : ((d : Int) == 4) = false := by simp only [beq_eq_false_iff_ne, ne_eq]; omega
                          have hd5 : d + 1 ≤ 4 := by omega
                          have HPO := Lib.hid (par_open (show k < s.data.toList.length from hlt) HK1.out HKL2.out HC40.out hd4)
                          have HREC := Lib.hid (HIH.out (k + 1 + 1) (d + 1) (wr.alloc (.cells #[.int .u8 40, .int .i64 m, .slice none 0 0] 108)) (by have := HN.out; have := HIK.out; have : k < s.data.toList.length := hlt; omega) (show k + 1 + 1 ≤ s.size by omega) hd5)
                          clear hd4
                          cases hpar1 : par s.data.toList (k + 1 + 1) (d + 1) with
                          | none =>
                            have HPN := Lib.hid (show par s.data.toList k d = none by have h := HPO.out; simp only [HLET.out, hpar1] at h; exact h)
                            have HREC2 := Lib.hid (HREC.out.mono (R' := fun e w' => e = bad ∧ Below (wr.alloc (.cells #[.int .u8 40, .int .i64 m, .slice none 0 0] 108)).heap.size (wr.alloc (.cells #[.int .u8 40, .int .i64 m, .slice none 0 0] 108)) w') (fun e w' h => by rcases h.2 with h2 | ⟨us, j, v, h2, _⟩; exact ⟨h2.2, h.1⟩; rw [hpar1] at h2; cases h2))
                            clear hpar1 HREC HPO
                            go_wp2_with fail
                            refine HREC2.out.mono ?_
                            rintro e w2 ⟨rfl, hb2⟩
                            have HB2 := Lib.hid hb2
                            clear hb2
                            unfold bad
                            go_wp2_with fail
                            exact ⟨rfl, post_bad HP.out HPN.out ((below_alloc HB.out _).trans (HB2.out.mono (Nat.le_trans HB.out.size (below_alloc (Below.refl _ _) _).size)))⟩
                          | some r =>
                            obtain ⟨g, j⟩ := r
                            have hjl := par_le hpar1 (show k + 1 + 1 ≤ s.data.toList.length from hp)
                            have hgood := par_good (s.data.toList.length + 1) _ (d + 1) g j (by omega) (show k + 1 + 1 ≤ s.data.toList.length from hp) hd5 hpar1
                            have HJL := Lib.hid hjl.1
                            have HJS := Lib.hid hjl.2.1
                            have HPN := Lib.hid (show par s.data.toList k d = if j < s.data.toList.length then behind [.mk 40 m g] (par s.data.toList (j + 1) d) else none by have h := HPO.out; simp only [HLET.out, HTIM.out, hpar1] at h; exact h)
                            have HREC2 := Lib.hid (HREC.out.mono (R' := fun e w' => (∃ a c, e = .returned (.tuple #[.slice a g.length c, .int .i64 (j : Nat)]) ∧ Units w' (fun b => (wr.alloc (.cells #[.int .u8 40, .int .i64 m, .slice none 0 0] 108)).heap.size ≤ b) (.slice a g.length c) g) ∧ Below (wr.alloc (.cells #[.int .u8 40, .int .i64 m, .slice none 0 0] 108)).heap.size (wr.alloc (.cells #[.int .u8 40, .int .i64 m, .slice none 0 0] 108)) w') (fun e w' h => by rcases h.2 with h2 | ⟨us, j', v, h2, h3, h4⟩; (rw [hpar1] at h2; cases h2.1); rw [hpar1] at h2; simp only [Option.some.injEq, Prod.mk.injEq] at h2; obtain ⟨rfl, rfl⟩ := h2; obtain ⟨a, c, e1, h5⟩ := h4; subst e1; exact ⟨⟨a, c, h3, a, c, rfl, h5⟩, h.1⟩))
                            have hj64 : j ≤ 64 := Nat.le_trans hjl.2.1 hs
                            clear hpar1 HREC HPO hjl hgood
                            by_cases hjlt : j < s.size
                            case neg =>
                              have tj : ((j : Int) == (s.size : Int)) = true := by have : j ≤ s.size := HJS.out; simp only [beq_iff_eq]; omega
                              have HPM := Lib.hid (show par s.data.toList k d = none by have h := HPN.out; rw [if_neg (show ¬ j < s.data.toList.length from hjlt)] at h; exact h)
                              have HJLT := Lib.hid hjlt
                              clear hjlt HPN
                              go_wp2_with fail
                              refine HREC2.out.mono ?_
                              rintro e w2 ⟨⟨ag, cg, rfl, hug⟩, hb2⟩
                              have hblk : w2.heap[wr.heap.size]? = some (.cells #[.int .u8 40, .int .i64 m, .slice none 0 0] 108 (0, 0)) := (hb2.block _ (by simp)).trans (heap_alloc_new wr _)
                              have x0 : w2.cell? ⟨wr.heap.size, 0, none⟩ = some (.int .u8 40) := cell_of hblk rfl
                              have x1 : w2.cell? ⟨wr.heap.size, 1, none⟩ = some (.int .i64 m) := cell_of hblk rfl
                              have x2 : w2.cell? ⟨wr.heap.size, 2, none⟩ = some (.slice none 0 0) := cell_of hblk rfl
                              have y2 := frozen_of hblk 2
                              have HGW := Lib.hid (group_world HB.out.size HB.out hb2 HGR.out hug)
                              clear hblk hug hb2 HREC2
                              go_wp2_with fail
                              exact ⟨rfl, post_bad HP.out HPM.out HGW.out.2.2.1⟩
                            case pos =>
                              have tj : ((j : Int) == (s.size : Int)) = false := by simp only [beq_eq_false_iff_ne, ne_eq]; omega
                              have HPM := Lib.hid (show par s.data.toList k d = behind [.mk 40 m g] (par s.data.toList (j + 1) d) by have h := HPN.out; rw [if_pos (show j < s.data.toList.length from hjlt)] at h; exact h)
                              have HJLT := Lib.hid hjlt
                              clear hjlt HPN
                              go_wp2_with fail
                              refine HREC2.out.mono ?_
                              rintro e w2 ⟨⟨ag, cg, rfl, hug⟩, hb2⟩
                              have hblk : w2.heap[wr.heap.size]? = some (.cells #[.int .u8 40, .int .i64 m, .slice none 0 0] 108 (0, 0)) := (hb2.block _ (by simp)).trans (heap_alloc_new wr _)
                              have x0 : w2.cell? ⟨wr.heap.size, 0, none⟩ = some (.int .u8 40) := cell_of hblk rfl
                              have x1 : w2.cell? ⟨wr.heap.size, 1, none⟩ = some (.int .i64 m) := cell_of hblk rfl
                              have x2 : w2.cell? ⟨wr.heap.size, 2, none⟩ = some (.slice none 0 0) := cell_of hblk rfl
                              have y2 := frozen_of hblk 2
                              have HGW := Lib.hid (group_world HB.out.size HB.out hb2 HGR.out hug)
                              clear hblk hug hb2 HREC2
                              go_wp2_with (first | ((with_reducible refine gate_builtin (b := .append) (xs := #[.tmp 79, .tmp 81]) rfl ?_); refine append_unit (w := w) (B := w.heap.size) rfl (.tmp 79) (.tmp 81) rfl _ us 40 m g (.slice ag g.length cg) 40 (m : Int) rfl rfl w2.heap.size (setCell_size _ _ _) rfl rfl HGW.out.1 HGW.out.2.1 HGW.out.2.2.1 HGW.out.2.2.2 (by have := HUL.out; omega) ?_; intro a1 c1 w1 hg1 hb1; have HG1 := Lib.hid hg1; have HB1 := Lib.hid hb1; clear hg1 hb1))
                              refine ⟨⟨j + 1, us ++ [.mk 40 m g], by simp, HG1.out, by rw [HP.out, HPM.out, behind_behind], by have := HIK.out; have := HJL.out; omega, by have := HJLT.out; show j + 1 ≤ s.size; omega, by have := HUL.out; have := HJL.out; simp; omega, HB1.out⟩, by have := HJL.out; have := HJLT.out; simp [intOf]; omega⟩
          case neg =>
            by_cases hd1b : (50 : Int) ≤ (s[k].toNat : Int)
            case pos =>
              have hd1 : decide ((50 : Int) ≤ (s[k].toNat : Int)) = true := decide_eq_true hd1b
              have hd2 : decide ((s[k].toNat : Int) ≤ 57) = false := by unfold isDigit at hdig; simp at hdig ⊢; omega
              have HDIG := Lib.hid hdig
              clear hdig hd1b
              have HLET := Lib.hid (show let_ s.data.toList[k] k = k by rw [HTK.out]; unfold let_; rw [if_neg HDIG.out])
              have HTIM := Lib.hid (show tim s.data.toList[k] = 1 by rw [HTK.out]; unfold tim; rw [if_neg HDIG.out])
              have hp : k < s.size := hlt
              have tp : ((k : Int) == (s.size : Int)) = false := by simp only [beq_eq_false_iff_ne, ne_eq]; omega
              have HGET := Lib.hid (show ∀ (h : let_ s.data.toList[k] k < s.data.toList.length), s.data.toList[let_ s.data.toList[k] k] = s[k] from fun h => by have e := HLET.out; simp only [e]; rfl)
              have HKL2 := Lib.hid (show let_ s.data.toList[k] k < s.data.toList.length by rw [HLET.out]; exact hp)
              have HK1 := Lib.hid (show ¬ s.data.toList[k] = 41 by rw [HTK.out]; exact H41.out)
              have HW := Lib.hid (show wr.heap.size + 0 = wr.heap.size from rfl)
              by_cases h98 : s[k] = 98
              case pos =>
                have hc : (s[k].toNat : Int) = 98 := by rw [h98]; rfl
                have HPN := Lib.hid (par_letter (d := d) (show k < s.data.toList.length from hlt) HK1.out HKL2.out (by rw [HGET.out]; rw [h98]; rfl))
                have HPQ := Lib.hid (show par s.data.toList k d = behind [.mk 98 1 []] (par s.data.toList (k + 1) d) by have h := HPN.out; rw [HGET.out, HTIM.out, h98] at h; rw [h, HLET.out])
                clear h98 HPN
                have HGA := Lib.hid (HGR.out.below (below_alloc (Below.refl _ _) (.cells #[.int .u8 98, .int .i64 1, .slice none 0 0] 108)))
                go_wp2_with (first | ((with_reducible refine gate_builtin (b := .append) (xs := #[.tmp 79, .tmp 81]) rfl ?_); refine append_unit (w := w) (B := w.heap.size) rfl (.tmp 79) (.tmp 81) rfl _ us 98 1 [] (.slice none 0 0) 98 1 rfl rfl (wr.heap.size + 1) (alloc_size _ _) rfl rfl HGA.out (Units.nil _ _) (below_alloc HB.out _) (Nat.le_trans HB.out.size (below_alloc (Below.refl _ _) _).size) (by have := HUL.out; omega) ?_; intro a1 c1 w1 hg1 hb1; have HG1 := Lib.hid hg1; have HB1 := Lib.hid hb1; clear hg1 hb1))
                refine ⟨⟨k + 1, us ++ [.mk 98 1 []], by simp, HG1.out, by rw [HP.out, HPQ.out, behind_behind], by have := HIK.out; omega, by show k + 1 ≤ s.size; omega, by have := HUL.out; simp; omega, HB1.out⟩, by simp [intOf]; omega⟩
              case neg =>
                have t98 : ((s[k].toNat : Int) == 98) = false := by simp only [beq_eq_false_iff_ne, ne_eq]; intro e; exact h98 (UInt8.toNat_inj.1 (by show s[k].toNat = 98; omega))
                by_cases h104 : s[k] = 104
                case pos =>
                  have hc : (s[k].toNat : Int) = 104 := by rw [h104]; rfl
                  have HPN := Lib.hid (par_letter (d := d) (show k < s.data.toList.length from hlt) HK1.out HKL2.out (by rw [HGET.out]; rw [h104]; rfl))
                  have HPQ := Lib.hid (show par s.data.toList k d = behind [.mk 104 1 []] (par s.data.toList (k + 1) d) by have h := HPN.out; rw [HGET.out, HTIM.out, h104] at h; rw [h, HLET.out])
                  clear h104 HPN
                  have HGA := Lib.hid (HGR.out.below (below_alloc (Below.refl _ _) (.cells #[.int .u8 104, .int .i64 1, .slice none 0 0] 108)))
                  go_wp2_with (first | ((with_reducible refine gate_builtin (b := .append) (xs := #[.tmp 79, .tmp 81]) rfl ?_); refine append_unit (w := w) (B := w.heap.size) rfl (.tmp 79) (.tmp 81) rfl _ us 104 1 [] (.slice none 0 0) 104 1 rfl rfl (wr.heap.size + 1) (alloc_size _ _) rfl rfl HGA.out (Units.nil _ _) (below_alloc HB.out _) (Nat.le_trans HB.out.size (below_alloc (Below.refl _ _) _).size) (by have := HUL.out; omega) ?_; intro a1 c1 w1 hg1 hb1; have HG1 := Lib.hid hg1; have HB1 := Lib.hid hb1; clear hg1 hb1))
                  refine ⟨⟨k + 1, us ++ [.mk 104 1 []], by simp, HG1.out, by rw [HP.out, HPQ.out, behind_behind], by have := HIK.out; omega, by show k + 1 ≤ s.size; omega, by have := HUL.out; simp; omega, HB1.out⟩, by simp [intOf]; omega⟩
                case neg =>
                  have t104 : ((s[k].toNat : Int) == 104) = false := by simp only [beq_eq_false_iff_ne, ne_eq]; intro e; exact h104 (UInt8.toNat_inj.1 (by show s[k].toNat = 104; omega))
                  by_cases h119 : s[k] = 119
                  case pos =>
                    have hc : (s[k].toNat : Int) = 119 := by rw [h119]; rfl
                    have HPN := Lib.hid (par_letter (d := d) (show k < s.data.toList.length from hlt) HK1.out HKL2.out (by rw [HGET.out]; rw [h119]; rfl))
                    have HPQ := Lib.hid (show par s.data.toList k d = behind [.mk 119 1 []] (par s.data.toList (k + 1) d) by have h := HPN.out; rw [HGET.out, HTIM.out, h119] at h; rw [h, HLET.out])
                    clear h119 HPN
                    have HGA := Lib.hid (HGR.out.below (below_alloc (Below.refl _ _) (.cells #[.int .u8 119, .int .i64 1, .slice none 0 0] 108)))
                    go_wp2_with (first | ((with_reducible refine gate_builtin (b := .append) (xs := #[.tmp 79, .tmp 81]) rfl ?_); refine append_unit (w := w) (B := w.heap.size) rfl (.tmp 79) (.tmp 81) rfl _ us 119 1 [] (.slice none 0 0) 119 1 rfl rfl (wr.heap.size + 1) (alloc_size _ _) rfl rfl HGA.out (Units.nil _ _) (below_alloc HB.out _) (Nat.le_trans HB.out.size (below_alloc (Below.refl _ _) _).size) (by have := HUL.out; omega) ?_; intro a1 c1 w1 hg1 hb1; have HG1 := Lib.hid hg1; have HB1 := Lib.hid hb1; clear hg1 hb1))
                    refine ⟨⟨k + 1, us ++ [.mk 119 1 []], by simp, HG1.out, by rw [HP.out, HPQ.out, behind_behind], by have := HIK.out; omega, by show k + 1 ≤ s.size; omega, by have := HUL.out; simp; omega, HB1.out⟩, by simp [intOf]; omega⟩
                  case neg =>
                    have t119 : ((s[k].toNat : Int) == 119) = false := by simp only [beq_eq_false_iff_ne, ne_eq]; intro e; exact h119 (UInt8.toNat_inj.1 (by show s[k].toNat = 119; omega))
                    by_cases h108 : s[k] = 108
                    case pos =>
                      have hc : (s[k].toNat : Int) = 108 := by rw [h108]; rfl
                      have HPN := Lib.hid (par_letter (d := d) (show k < s.data.toList.length from hlt) HK1.out HKL2.out (by rw [HGET.out]; rw [h108]; rfl))
                      have HPQ := Lib.hid (show par s.data.toList k d = behind [.mk 108 1 []] (par s.data.toList (k + 1) d) by have h := HPN.out; rw [HGET.out, HTIM.out, h108] at h; rw [h, HLET.out])
                      clear h108 HPN
                      have HGA := Lib.hid (HGR.out.below (below_alloc (Below.refl _ _) (.cells #[.int .u8 108, .int .i64 1, .slice none 0 0] 108)))
                      go_wp2_with (first | ((with_reducible refine gate_builtin (b := .append) (xs := #[.tmp 79, .tmp 81]) rfl ?_); refine append_unit (w := w) (B := w.heap.size) rfl (.tmp 79) (.tmp 81) rfl _ us 108 1 [] (.slice none 0 0) 108 1 rfl rfl (wr.heap.size + 1) (alloc_size _ _) rfl rfl HGA.out (Units.nil _ _) (below_alloc HB.out _) (Nat.le_trans HB.out.size (below_alloc (Below.refl _ _) _).size) (by have := HUL.out; omega) ?_; intro a1 c1 w1 hg1 hb1; have HG1 := Lib.hid hg1; have HB1 := Lib.hid hb1; clear hg1 hb1))
                      refine ⟨⟨k + 1, us ++ [.mk 108 1 []], by simp, HG1.out, by rw [HP.out, HPQ.out, behind_behind], by have := HIK.out; omega, by show k + 1 ≤ s.size; omega, by have := HUL.out; simp; omega, HB1.out⟩, by simp [intOf]; omega⟩
                    case neg =>
                      have t108 : ((s[k].toNat : Int) == 108) = false := by simp only [beq_eq_false_iff_ne, ne_eq]; intro e; exact h108 (UInt8.toNat_inj.1 (by show s[k].toNat = 108; omega))
                      by_cases h40 : s[k] = 40
                      case neg =>
                        have t40 : ((s[k].toNat : Int) == 40) = false := by simp only [beq_eq_false_iff_ne, ne_eq]; intro e; exact h40 (UInt8.toNat_inj.1 (by show s[k].toNat = 40; omega))
                        have HPN := Lib.hid (par_bad (d := d) (show k < s.data.toList.length from hlt) HK1.out HKL2.out (by rw [HGET.out]; unfold isLetter; simp [h98, h104, h119, h108]) (by rw [HGET.out]; exact h40))
                        clear h98 h104 h119 h108 h40
                        go_wp2_with fail
                        exact ⟨rfl, post_bad HP.out HPN.out (below_alloc HB.out _)⟩
                      case pos =>
                        have hc : (s[k].toNat : Int) = 40 := by rw [h40]; rfl
                        have HC40 := Lib.hid (show s.data.toList[let_ s.data.toList[k] k]'HKL2.out = 40 by rw [HGET.out]; exact h40)
                        clear h98 h104 h119 h108 h40
                        by_cases hd4 : d = 4
                        case pos =>
                          subst hd4
                          have HPN := Lib.hid (par_deep (d := 4) (show k < s.data.toList.length from hlt) HK1.out HKL2.out HC40.out rfl)
                          go_wp2_with fail
                          exact ⟨rfl, post_bad HP.out HPN.out (below_alloc HB.out _)⟩
                        case neg =>
                          have td : ((d : Int) == 4) = false := by simp only [beq_eq_false_iff_ne, ne_eq]; omega
                          have hd5 : d + 1 ≤ 4 := by omega
                          have HPO := Lib.hid (par_open (show k < s.data.toList.length from hlt) HK1.out HKL2.out HC40.out hd4)
                          have HREC := Lib.hid (HIH.out (k + 1) (d + 1) (wr.alloc (.cells #[.int .u8 40, .int .i64 1, .slice none 0 0] 108)) (by have := HN.out; have := HIK.out; have : k < s.data.toList.length := hlt; omega) (show k + 1 ≤ s.size by omega) hd5)
                          clear hd4
                          cases hpar1 : par s.data.toList (k + 1) (d + 1) with
                          | none =>
                            have HPN := Lib.hid (show par s.data.toList k d = none by have h := HPO.out; simp only [HLET.out, hpar1] at h; exact h)
                            have HREC2 := Lib.hid (HREC.out.mono (R' := fun e w' => e = bad ∧ Below (wr.alloc (.cells #[.int .u8 40, .int .i64 1, .slice none 0 0] 108)).heap.size (wr.alloc (.cells #[.int .u8 40, .int .i64 1, .slice none 0 0] 108)) w') (fun e w' h => by rcases h.2 with h2 | ⟨us, j, v, h2, _⟩; exact ⟨h2.2, h.1⟩; rw [hpar1] at h2; cases h2))
                            clear hpar1 HREC HPO
                            go_wp2_with fail
                            refine HREC2.out.mono ?_
                            rintro e w2 ⟨rfl, hb2⟩
                            have HB2 := Lib.hid hb2
                            clear hb2
                            unfold bad
                            go_wp2_with fail
                            exact ⟨rfl, post_bad HP.out HPN.out ((below_alloc HB.out _).trans (HB2.out.mono (Nat.le_trans HB.out.size (below_alloc (Below.refl _ _) _).size)))⟩
                          | some r =>
                            obtain ⟨g, j⟩ := r
                            have hjl := par_le hpar1 (show k + 1 ≤ s.data.toList.length from hp)
                            have hgood := par_good (s.data.toList.length + 1) _ (d + 1) g j (by omega) (show k + 1 ≤ s.data.toList.length from hp) hd5 hpar1
                            have HJL := Lib.hid hjl.1
                            have HJS := Lib.hid hjl.2.1
                            have HPN := Lib.hid (show par s.data.toList k d = if j < s.data.toList.length then behind [.mk 40 1 g] (par s.data.toList (j + 1) d) else none by have h := HPO.out; simp only [HLET.out, HTIM.out, hpar1] at h; exact h)
                            have HREC2 := Lib.hid (HREC.out.mono (R' := fun e w' => (∃ a c, e = .returned (.tuple #[.slice a g.length c, .int .i64 (j : Nat)]) ∧ Units w' (fun b => (wr.alloc (.cells #[.int .u8 40, .int .i64 1, .slice none 0 0] 108)).heap.size ≤ b) (.slice a g.length c) g) ∧ Below (wr.alloc (.cells #[.int .u8 40, .int .i64 1, .slice none 0 0] 108)).heap.size (wr.alloc (.cells #[.int .u8 40, .int .i64 1, .slice none 0 0] 108)) w') (fun e w' h => by rcases h.2 with h2 | ⟨us, j', v, h2, h3, h4⟩; (rw [hpar1] at h2; cases h2.1); rw [hpar1] at h2; simp only [Option.some.injEq, Prod.mk.injEq] at h2; obtain ⟨rfl, rfl⟩ := h2; obtain ⟨a, c, e1, h5⟩ := h4; subst e1; exact ⟨⟨a, c, h3, a, c, rfl, h5⟩, h.1⟩))
                            have hj64 : j ≤ 64 := Nat.le_trans hjl.2.1 hs
                            clear hpar1 HREC HPO hjl hgood
                            by_cases hjlt : j < s.size
                            case neg =>
                              have tj : ((j : Int) == (s.size : Int)) = true := by have : j ≤ s.size := HJS.out; simp only [beq_iff_eq]; omega
                              have HPM := Lib.hid (show par s.data.toList k d = none by have h := HPN.out; rw [if_neg (show ¬ j < s.data.toList.length from hjlt)] at h; exact h)
                              have HJLT := Lib.hid hjlt
                              clear hjlt HPN
                              go_wp2_with fail
                              refine HREC2.out.mono ?_
                              rintro e w2 ⟨⟨ag, cg, rfl, hug⟩, hb2⟩
                              have hblk : w2.heap[wr.heap.size]? = some (.cells #[.int .u8 40, .int .i64 1, .slice none 0 0] 108 (0, 0)) := (hb2.block _ (by simp)).trans (heap_alloc_new wr _)
                              have x0 : w2.cell? ⟨wr.heap.size, 0, none⟩ = some (.int .u8 40) := cell_of hblk rfl
                              have x1 : w2.cell? ⟨wr.heap.size, 1, none⟩ = some (.int .i64 1) := cell_of hblk rfl
                              have x2 : w2.cell? ⟨wr.heap.size, 2, none⟩ = some (.slice none 0 0) := cell_of hblk rfl
                              have y2 := frozen_of hblk 2
                              have HGW := Lib.hid (group_world HB.out.size HB.out hb2 HGR.out hug)
                              clear hblk hug hb2 HREC2
                              go_wp2_with fail
                              exact ⟨rfl, post_bad HP.out HPM.out HGW.out.2.2.1⟩
                            case pos =>
                              have tj : ((j : Int) == (s.size : Int)) = false := by simp only [beq_eq_false_iff_ne, ne_eq]; omega
                              have HPM := Lib.hid (show par s.data.toList k d = behind [.mk 40 1 g] (par s.data.toList (j + 1) d) by have h := HPN.out; rw [if_pos (show j < s.data.toList.length from hjlt)] at h; exact h)
                              have HJLT := Lib.hid hjlt
                              clear hjlt HPN
                              go_wp2_with fail
                              refine HREC2.out.mono ?_
                              rintro e w2 ⟨⟨ag, cg, rfl, hug⟩, hb2⟩
                              have hblk : w2.heap[wr.heap.size]? = some (.cells #[.int .u8 40, .int .i64 1, .slice none 0 0] 108 (0, 0)) := (hb2.block _ (by simp)).trans (heap_alloc_new wr _)
                              have x0 : w2.cell? ⟨wr.heap.size, 0, none⟩ = some (.int .u8 40) := cell_of hblk rfl
                              have x1 : w2.cell? ⟨wr.heap.size, 1, none⟩ = some (.int .i64 1) := cell_of hblk rfl
                              have x2 : w2.cell? ⟨wr.heap.size, 2, none⟩ = some (.slice none 0 0) := cell_of hblk rfl
                              have y2 := frozen_of hblk 2
                              have HGW := Lib.hid (group_world HB.out.size HB.out hb2 HGR.out hug)
                              clear hblk hug hb2 HREC2
                              go_wp2_with (first | ((with_reducible refine gate_builtin (b := .append) (xs := #[.tmp 79, .tmp 81]) rfl ?_); refine append_unit (w := w) (B := w.heap.size) rfl (.tmp 79) (.tmp 81) rfl _ us 40 1 g (.slice ag g.length cg) 40 1 rfl rfl w2.heap.size (setCell_size _ _ _) rfl rfl HGW.out.1 HGW.out.2.1 HGW.out.2.2.1 HGW.out.2.2.2 (by have := HUL.out; omega) ?_; intro a1 c1 w1 hg1 hb1; have HG1 := Lib.hid hg1; have HB1 := Lib.hid hb1; clear hg1 hb1))
                              refine ⟨⟨j + 1, us ++ [.mk 40 1 g], by simp, HG1.out, by rw [HP.out, HPM.out, behind_behind], by have := HIK.out; have := HJL.out; omega, by have := HJLT.out; show j + 1 ≤ s.size; omega, by have := HUL.out; have := HJL.out; simp; omega, HB1.out⟩, by have := HJL.out; have := HJLT.out; simp [intOf]; omega⟩
            case neg =>
              have hd1 : decide ((50 : Int) ≤ (s[k].toNat : Int)) = false := decide_eq_false hd1b
              have HDIG := Lib.hid hdig
              clear hdig hd1b
              have HLET := Lib.hid (show let_ s.data.toList[k] k = k by rw [HTK.out]; unfold let_; rw [if_neg HDIG.out])
              have HTIM := Lib.hid (show tim s.data.toList[k] = 1 by rw [HTK.out]; unfold tim; rw [if_neg HDIG.out])
              have hp : k < s.size := hlt
              have tp : ((k : Int) == (s.size : Int)) = false := by simp only [beq_eq_false_iff_ne, ne_eq]; omega
              have HGET := Lib.hid (show ∀ (h : let_ s.data.toList[k] k < s.data.toList.length), s.data.toList[let_ s.data.toList[k] k] = s[k] from fun h => by have e := HLET.out; simp only [e]; rfl)
              have HKL2 := Lib.hid (show let_ s.data.toList[k] k < s.data.toList.length by rw [HLET.out]; exact hp)
              have HK1 := Lib.hid (show ¬ s.data.toList[k] = 41 by rw [HTK.out]; exact H41.out)
              have HW := Lib.hid (show wr.heap.size + 0 = wr.heap.size from rfl)
              by_cases h98 : s[k] = 98
              case pos =>
                have hc : (s[k].toNat : Int) = 98 := by rw [h98]; rfl
                have HPN := Lib.hid (par_letter (d := d) (show k < s.data.toList.length from hlt) HK1.out HKL2.out (by rw [HGET.out]; rw [h98]; rfl))
                have HPQ := Lib.hid (show par s.data.toList k d = behind [.mk 98 1 []] (par s.data.toList (k + 1) d) by have h := HPN.out; rw [HGET.out, HTIM.out, h98] at h; rw [h, HLET.out])
                clear h98 HPN
                have HGA := Lib.hid (HGR.out.below (below_alloc (Below.refl _ _) (.cells #[.int .u8 98, .int .i64 1, .slice none 0 0] 108)))
                go_wp2_with (first | ((with_reducible refine gate_builtin (b := .append) (xs := #[.tmp 79, .tmp 81]) rfl ?_); refine append_unit (w := w) (B := w.heap.size) rfl (.tmp 79) (.tmp 81) rfl _ us 98 1 [] (.slice none 0 0) 98 1 rfl rfl (wr.heap.size + 1) (alloc_size _ _) rfl rfl HGA.out (Units.nil _ _) (below_alloc HB.out _) (Nat.le_trans HB.out.size (below_alloc (Below.refl _ _) _).size) (by have := HUL.out; omega) ?_; intro a1 c1 w1 hg1 hb1; have HG1 := Lib.hid hg1; have HB1 := Lib.hid hb1; clear hg1 hb1))
                refine ⟨⟨k + 1, us ++ [.mk 98 1 []], by simp, HG1.out, by rw [HP.out, HPQ.out, behind_behind], by have := HIK.out; omega, by show k + 1 ≤ s.size; omega, by have := HUL.out; simp; omega, HB1.out⟩, by simp [intOf]; omega⟩
              case neg =>
                have t98 : ((s[k].toNat : Int) == 98) = false := by simp only [beq_eq_false_iff_ne, ne_eq]; intro e; exact h98 (UInt8.toNat_inj.1 (by show s[k].toNat = 98; omega))
                by_cases h104 : s[k] = 104
                case pos =>
                  have hc : (s[k].toNat : Int) = 104 := by rw [h104]; rfl
                  have HPN := Lib.hid (par_letter (d := d) (show k < s.data.toList.length from hlt) HK1.out HKL2.out (by rw [HGET.out]; rw [h104]; rfl))
                  have HPQ := Lib.hid (show par s.data.toList k d = behind [.mk 104 1 []] (par s.data.toList (k + 1) d) by have h := HPN.out; rw [HGET.out, HTIM.out, h104] at h; rw [h, HLET.out])
                  clear h104 HPN
                  have HGA := Lib.hid (HGR.out.below (below_alloc (Below.refl _ _) (.cells #[.int .u8 104, .int .i64 1, .slice none 0 0] 108)))
                  go_wp2_with (first | ((with_reducible refine gate_builtin (b := .append) (xs := #[.tmp 79, .tmp 81]) rfl ?_); refine append_unit (w := w) (B := w.heap.size) rfl (.tmp 79) (.tmp 81) rfl _ us 104 1 [] (.slice none 0 0) 104 1 rfl rfl (wr.heap.size + 1) (alloc_size _ _) rfl rfl HGA.out (Units.nil _ _) (below_alloc HB.out _) (Nat.le_trans HB.out.size (below_alloc (Below.refl _ _) _).size) (by have := HUL.out; omega) ?_; intro a1 c1 w1 hg1 hb1; have HG1 := Lib.hid hg1; have HB1 := Lib.hid hb1; clear hg1 hb1))
                  refine ⟨⟨k + 1, us ++ [.mk 104 1 []], by simp, HG1.out, by rw [HP.out, HPQ.out, behind_behind], by have := HIK.out; omega, by show k + 1 ≤ s.size; omega, by have := HUL.out; simp; omega, HB1.out⟩, by simp [intOf]; omega⟩
                case neg =>
                  have t104 : ((s[k].toNat : Int) == 104) = false := by simp only [beq_eq_false_iff_ne, ne_eq]; intro e; exact h104 (UInt8.toNat_inj.1 (by show s[k].toNat = 104; omega))
                  by_cases h119 : s[k] = 119
                  case pos =>
                    have hc : (s[k].toNat : Int) = 119 := by rw [h119]; rfl
                    have HPN := Lib.hid (par_letter (d := d) (show k < s.data.toList.length from hlt) HK1.out HKL2.out (by rw [HGET.out]; rw [h119]; rfl))
                    have HPQ := Lib.hid (show par s.data.toList k d = behind [.mk 119 1 []] (par s.data.toList (k + 1) d) by have h := HPN.out; rw [HGET.out, HTIM.out, h119] at h; rw [h, HLET.out])
                    clear h119 HPN
                    have HGA := Lib.hid (HGR.out.below (below_alloc (Below.refl _ _) (.cells #[.int .u8 119, .int .i64 1, .slice none 0 0] 108)))
                    go_wp2_with (first | ((with_reducible refine gate_builtin (b := .append) (xs := #[.tmp 79, .tmp 81]) rfl ?_); refine append_unit (w := w) (B := w.heap.size) rfl (.tmp 79) (.tmp 81) rfl _ us 119 1 [] (.slice none 0 0) 119 1 rfl rfl (wr.heap.size + 1) (alloc_size _ _) rfl rfl HGA.out (Units.nil _ _) (below_alloc HB.out _) (Nat.le_trans HB.out.size (below_alloc (Below.refl _ _) _).size) (by have := HUL.out; omega) ?_; intro a1 c1 w1 hg1 hb1; have HG1 := Lib.hid hg1; have HB1 := Lib.hid hb1; clear hg1 hb1))
                    refine ⟨⟨k + 1, us ++ [.mk 119 1 []], by simp, HG1.out, by rw [HP.out, HPQ.out, behind_behind], by have := HIK.out; omega, by show k + 1 ≤ s.size; omega, by have := HUL.out; simp; omega, HB1.out⟩, by simp [intOf]; omega⟩
                  case neg =>
                    have t119 : ((s[k].toNat : Int) == 119) = false := by simp only [beq_eq_false_iff_ne, ne_eq]; intro e; exact h119 (UInt8.toNat_inj.1 (by show s[k].toNat = 119; omega))
                    by_cases h108 : s[k] = 108
                    case pos =>
                      have hc : (s[k].toNat : Int) = 108 := by rw [h108]; rfl
                      have HPN := Lib.hid (par_letter (d := d) (show k < s.data.toList.length from hlt) HK1.out HKL2.out (by rw [HGET.out]; rw [h108]; rfl))
                      have HPQ := Lib.hid (show par s.data.toList k d = behind [.mk 108 1 []] (par s.data.toList (k + 1) d) by have h := HPN.out; rw [HGET.out, HTIM.out, h108] at h; rw [h, HLET.out])
                      clear h108 HPN
                      have HGA := Lib.hid (HGR.out.below (below_alloc (Below.refl _ _) (.cells #[.int .u8 108, .int .i64 1, .slice none 0 0] 108)))
                      go_wp2_with (first | ((with_reducible refine gate_builtin (b := .append) (xs := #[.tmp 79, .tmp 81]) rfl ?_); refine append_unit (w := w) (B := w.heap.size) rfl (.tmp 79) (.tmp 81) rfl _ us 108 1 [] (.slice none 0 0) 108 1 rfl rfl (wr.heap.size + 1) (alloc_size _ _) rfl rfl HGA.out (Units.nil _ _) (below_alloc HB.out _) (Nat.le_trans HB.out.size (below_alloc (Below.refl _ _) _).size) (by have := HUL.out; omega) ?_; intro a1 c1 w1 hg1 hb1; have HG1 := Lib.hid hg1; have HB1 := Lib.hid hb1; clear hg1 hb1))
                      refine ⟨⟨k + 1, us ++ [.mk 108 1 []], by simp, HG1.out, by rw [HP.out, HPQ.out, behind_behind], by have := HIK.out; omega, by show k + 1 ≤ s.size; omega, by have := HUL.out; simp; omega, HB1.out⟩, by simp [intOf]; omega⟩
                    case neg =>
                      have t108 : ((s[k].toNat : Int) == 108) = false := by simp only [beq_eq_false_iff_ne, ne_eq]; intro e; exact h108 (UInt8.toNat_inj.1 (by show s[k].toNat = 108; omega))
                      by_cases h40 : s[k] = 40
                      case neg =>
                        have t40 : ((s[k].toNat : Int) == 40) = false := by simp only [beq_eq_false_iff_ne, ne_eq]; intro e; exact h40 (UInt8.toNat_inj.1 (by show s[k].toNat = 40; omega))
                        have HPN := Lib.hid (par_bad (d := d) (show k < s.data.toList.length from hlt) HK1.out HKL2.out (by rw [HGET.out]; unfold isLetter; simp [h98, h104, h119, h108]) (by rw [HGET.out]; exact h40))
                        clear h98 h104 h119 h108 h40
                        go_wp2_with fail
                        exact ⟨rfl, post_bad HP.out HPN.out (below_alloc HB.out _)⟩
                      case pos =>
                        have hc : (s[k].toNat : Int) = 40 := by rw [h40]; rfl
                        have HC40 := Lib.hid (show s.data.toList[let_ s.data.toList[k] k]'HKL2.out = 40 by rw [HGET.out]; exact h40)
                        clear h98 h104 h119 h108 h40
                        by_cases hd4 : d = 4
                        case pos =>
                          subst hd4
                          have HPN := Lib.hid (par_deep (d := 4) (show k < s.data.toList.length from hlt) HK1.out HKL2.out HC40.out rfl)
                          go_wp2_with fail
                          exact ⟨rfl, post_bad HP.out HPN.out (below_alloc HB.out _)⟩
                        case neg =>
                          have td : ((d : Int) == 4) = false := by simp only [beq_eq_false_iff_ne, ne_eq]; omega
                          have hd5 : d + 1 ≤ 4 := by omega
                          have HPO := Lib.hid (par_open (show k < s.data.toList.length from hlt) HK1.out HKL2.out HC40.out hd4)
                          have HREC := Lib.hid (HIH.out (k + 1) (d + 1) (wr.alloc (.cells #[.int .u8 40, .int .i64 1, .slice none 0 0] 108)) (by have := HN.out; have := HIK.out; have : k < s.data.toList.length := hlt; omega) (show k + 1 ≤ s.size by omega) hd5)
                          clear hd4
                          cases hpar1 : par s.data.toList (k + 1) (d + 1) with
                          | none =>
                            have HPN := Lib.hid (show par s.data.toList k d = none by have h := HPO.out; simp only [HLET.out, hpar1] at h; exact h)
                            have HREC2 := Lib.hid (HREC.out.mono (R' := fun e w' => e = bad ∧ Below (wr.alloc (.cells #[.int .u8 40, .int .i64 1, .slice none 0 0] 108)).heap.size (wr.alloc (.cells #[.int .u8 40, .int .i64 1, .slice none 0 0] 108)) w') (fun e w' h => by rcases h.2 with h2 | ⟨us, j, v, h2, _⟩; exact ⟨h2.2, h.1⟩; rw [hpar1] at h2; cases h2))
                            clear hpar1 HREC HPO
                            go_wp2_with fail
                            refine HREC2.out.mono ?_
                            rintro e w2 ⟨rfl, hb2⟩
                            have HB2 := Lib.hid hb2
                            clear hb2
                            unfold bad
                            go_wp2_with fail
                            exact ⟨rfl, post_bad HP.out HPN.out ((below_alloc HB.out _).trans (HB2.out.mono (Nat.le_trans HB.out.size (below_alloc (Below.refl _ _) _).size)))⟩
                          | some r =>
                            obtain ⟨g, j⟩ := r
                            have hjl := par_le hpar1 (show k + 1 ≤ s.data.toList.length from hp)
                            have hgood := par_good (s.data.toList.length + 1) _ (d + 1) g j (by omega) (show k + 1 ≤ s.data.toList.length from hp) hd5 hpar1
                            have HJL := Lib.hid hjl.1
                            have HJS := Lib.hid hjl.2.1
                            have HPN := Lib.hid (show par s.data.toList k d = if j < s.data.toList.length then behind [.mk 40 1 g] (par s.data.toList (j + 1) d) else none by have h := HPO.out; simp only [HLET.out, HTIM.out, hpar1] at h; exact h)
                            have HREC2 := Lib.hid (HREC.out.mono (R' := fun e w' => (∃ a c, e = .returned (.tuple #[.slice a g.length c, .int .i64 (j : Nat)]) ∧ Units w' (fun b => (wr.alloc (.cells #[.int .u8 40, .int .i64 1, .slice none 0 0] 108)).heap.size ≤ b) (.slice a g.length c) g) ∧ Below (wr.alloc (.cells #[.int .u8 40, .int .i64 1, .slice none 0 0] 108)).heap.size (wr.alloc (.cells #[.int .u8 40, .int .i64 1, .slice none 0 0] 108)) w') (fun e w' h => by rcases h.2 with h2 | ⟨us, j', v, h2, h3, h4⟩; (rw [hpar1] at h2; cases h2.1); rw [hpar1] at h2; simp only [Option.some.injEq, Prod.mk.injEq] at h2; obtain ⟨rfl, rfl⟩ := h2; obtain ⟨a, c, e1, h5⟩ := h4; subst e1; exact ⟨⟨a, c, h3, a, c, rfl, h5⟩, h.1⟩))
                            have hj64 : j ≤ 64 := Nat.le_trans hjl.2.1 hs
                            clear hpar1 HREC HPO hjl hgood
                            by_cases hjlt : j < s.size
                            case neg =>
                              have tj : ((j : Int) == (s.size : Int)) = true := by have : j ≤ s.size := HJS.out; simp only [beq_iff_eq]; omega
                              have HPM := Lib.hid (show par s.data.toList k d = none by have h := HPN.out; rw [if_neg (show ¬ j < s.data.toList.length from hjlt)] at h; exact h)
                              have HJLT := Lib.hid hjlt
                              clear hjlt HPN
                              go_wp2_with fail
                              refine HREC2.out.mono ?_
                              rintro e w2 ⟨⟨ag, cg, rfl, hug⟩, hb2⟩
                              have hblk : w2.heap[wr.heap.size]? = some (.cells #[.int .u8 40, .int .i64 1, .slice none 0 0] 108 (0, 0)) := (hb2.block _ (by simp)).trans (heap_alloc_new wr _)
                              have x0 : w2.cell? ⟨wr.heap.size, 0, none⟩ = some (.int .u8 40) := cell_of hblk rfl
                              have x1 : w2.cell? ⟨wr.heap.size, 1, none⟩ = some (.int .i64 1) := cell_of hblk rfl
                              have x2 : w2.cell? ⟨wr.heap.size, 2, none⟩ = some (.slice none 0 0) := cell_of hblk rfl
                              have y2 := frozen_of hblk 2
                              have HGW := Lib.hid (group_world HB.out.size HB.out hb2 HGR.out hug)
                              clear hblk hug hb2 HREC2
                              go_wp2_with fail
                              exact ⟨rfl, post_bad HP.out HPM.out HGW.out.2.2.1⟩
                            case pos =>
                              have tj : ((j : Int) == (s.size : Int)) = false := by simp only [beq_eq_false_iff_ne, ne_eq]; omega
                              have HPM := Lib.hid (show par s.data.toList k d = behind [.mk 40 1 g] (par s.data.toList (j + 1) d) by have h := HPN.out; rw [if_pos (show j < s.data.toList.length from hjlt)] at h; exact h)
                              have HJLT := Lib.hid hjlt
                              clear hjlt HPN
                              go_wp2_with fail
                              refine HREC2.out.mono ?_
                              rintro e w2 ⟨⟨ag, cg, rfl, hug⟩, hb2⟩
                              have hblk : w2.heap[wr.heap.size]? = some (.cells #[.int .u8 40, .int .i64 1, .slice none 0 0] 108 (0, 0)) := (hb2.block _ (by simp)).trans (heap_alloc_new wr _)
                              have x0 : w2.cell? ⟨wr.heap.size, 0, none⟩ = some (.int .u8 40) := cell_of hblk rfl
                              have x1 : w2.cell? ⟨wr.heap.size, 1, none⟩ = some (.int .i64 1) := cell_of hblk rfl
                              have x2 : w2.cell? ⟨wr.heap.size, 2, none⟩ = some (.slice none 0 0) := cell_of hblk rfl
                              have y2 := frozen_of hblk 2
                              have HGW := Lib.hid (group_world HB.out.size HB.out hb2 HGR.out hug)
                              clear hblk hug hb2 HREC2
                              go_wp2_with (first | ((with_reducible refine gate_builtin (b := .append) (xs := #[.tmp 79, .tmp 81]) rfl ?_); refine append_unit (w := w) (B := w.heap.size) rfl (.tmp 79) (.tmp 81) rfl _ us 40 1 g (.slice ag g.length cg) 40 1 rfl rfl w2.heap.size (setCell_size _ _ _) rfl rfl HGW.out.1 HGW.out.2.1 HGW.out.2.2.1 HGW.out.2.2.2 (by have := HUL.out; omega) ?_; intro a1 c1 w1 hg1 hb1; have HG1 := Lib.hid hg1; have HB1 := Lib.hid hb1; clear hg1 hb1))
                              refine ⟨⟨j + 1, us ++ [.mk 40 1 g], by simp, HG1.out, by rw [HP.out, HPM.out, behind_behind], by have := HIK.out; have := HJL.out; omega, by have := HJLT.out; show j + 1 ≤ s.size; omega, by have := HUL.out; have := HJL.out; simp; omega, HB1.out⟩, by have := HJL.out; have := HJLT.out; simp [intOf]; omega⟩
      · go_wp2_with fail
        go_ret2
        exact post_end HP.out (par_end hlt) HGR.out HB.out
end Go.Proofs.Ytdmliaodacaefaa.Shape
/- Function read: the units of a whole shape, and how many letters it has; or the panic. By a walk. -/
namespace Go.Proofs.Ytdmliaodacaefaa.Shape
open Go.RowKit Go.Proofs.YtdmliaodacaefaaW.PrintWords Go.Proofs.YtdmliaodacaefaaW.PrintLast Go.Proofs.YtdmliaodacaefaaW.PrintMore Go.Proofs.Ytdmliaodacaefaa.Mem Go.Proofs.Ytdmliaodacaefaa.Sep Go.Proofs.Ytdmliaodacaefaa.Bridge Go.Proofs.Ytdmliaodacaefaa.Wr
set_option linter.unusedVariables false
set_option linter.unusedSimpArgs false
/-- the units of a text that is a shape. -/
def whole (t : List UInt8) : Option (List U) :=
  if t.length ≤ 64 then
    match par t 0 0 with
    | none => none
    | some r => if r.2 < t.length then none else if 256 < (countL r.1).1 then none else some r.1
  else none
def ReadPost (t : List UInt8) (w : World) (e : Ending) (w' : World) : Prop :=
  Below w.heap.size w w' ∧ ((whole t = none ∧ e = bad) ∨ ∃ us v, whole t = some us ∧ e = .returned (.tuple #[v, .int .i64 ((countL us).2 : Nat)]) ∧ Units w' (fun b => w.heap.size ≤ b) v us)
theorem whole_good {t : List UInt8} {us : List U} (h : whole t = some us) : goodL us ∧ fineL us ∧ deepL us ≤ 5 ∧ (countL us).1 ≤ 256 ∧ t.length ≤ 64 := by
  unfold whole at h
  split at h
  · rename_i hl
    cases hp : par t 0 0 with
    | none => rw [hp] at h; cases h
    | some r =>
      obtain ⟨us1, j⟩ := r
      rw [hp] at h
      simp only at h
      split at h
      · cases h
      · split at h
        · cases h
        · rename_i h256
          injection h with h
          subst h
          have hg := par_good (t.length + 1) 0 0 us1 j (by omega) (Nat.zero_le _) (by omega) hp
          exact ⟨hg.good, hg.fine, by have := hg.deep; omega, by omega, hl⟩
  · cases h
set_option maxHeartbeats 1000000 in
theorem read_calls (s : ByteArray) (hs : s.size ≤ 140737488351232) (w : World) : Calls Try.prog 84 #[.string s] w (ReadPost s.data.toList w) := by
  by_cases hl : s.size ≤ 64
  · have t0 : decide ((64 : Int) < (s.size : Int)) = false := by simp only [decide_eq_false_iff_not]; omega
    have t0b : decide ((s.size : Int) > 64) = false := by simp only [decide_eq_false_iff_not]; omega
    have HPC := Lib.hid (parse_calls s hl (s.data.toList.length + 1) 0 0 w (by omega) (Nat.zero_le _) (by omega))
    cases hp : par s.data.toList 0 0 with
    | none =>
      have HW := Lib.hid (show whole s.data.toList = none by unfold whole; rw [if_pos (show s.data.toList.length ≤ 64 from hl), hp])
      have HREC := Lib.hid (HPC.out.mono (R' := fun e w' => e = bad ∧ Below w.heap.size w w') (fun e w' h => by rcases h.2 with h2 | ⟨us, j, v, h2, _⟩; exact ⟨h2.2, h.1⟩; rw [hp] at h2; cases h2))
      clear hp HPC
      go_enter Try.func84, Try.ntmps84
      go_wp2_with fail
      refine HREC.out.mono ?_
      rintro e w2 ⟨rfl, hb2⟩
      have HB2 := Lib.hid hb2
      clear hb2
      unfold bad
      go_wp2_with fail
      exact ⟨rfl, HB2.out, .inl ⟨HW.out, rfl⟩⟩
    | some r =>
      obtain ⟨us, j⟩ := r
      have hle := par_le hp (Nat.zero_le _)
      have hg := par_good (s.data.toList.length + 1) 0 0 us j (by omega) (Nat.zero_le _) (by omega) hp
      have hj : j ≤ s.size := hle.2.1
      have HGOOD := Lib.hid hg.good
      have HDEEP := Lib.hid hg.deep
      have hu1 : (countL us).1 ≤ 59049 * 64 := Nat.le_trans hg.units (Nat.mul_le_mul (by decide) (by omega))
      have hu2 : (countL us).2 ≤ 59049 * 64 := Nat.le_trans (letters_leL us) hu1
      have hul : us.length ≤ 64 := by have := hg.len; omega
      have HREC := Lib.hid (HPC.out.mono (R' := fun e w' => (∃ a c, e = .returned (.tuple #[.slice a us.length c, .int .i64 (j : Nat)]) ∧ Units w' (fun b => w.heap.size ≤ b) (.slice a us.length c) us) ∧ Below w.heap.size w w') (fun e w' h => by rcases h.2 with h2 | ⟨us, j', v, h2, h3, h4⟩; (rw [hp] at h2; cases h2.1); rw [hp] at h2; simp only [Option.some.injEq, Prod.mk.injEq] at h2; obtain ⟨rfl, rfl⟩ := h2; obtain ⟨a, c, e1, h5⟩ := h4; subst e1; exact ⟨⟨a, c, h3, a, c, rfl, h5⟩, h.1⟩))
      have HWH := Lib.hid (show whole s.data.toList = if j < s.data.toList.length then none else if 256 < (countL us).1 then none else some us by unfold whole; rw [if_pos (show s.data.toList.length ≤ 64 from hl), hp])
      obtain ⟨n1, hn1⟩ : ∃ n1, n1 = (countL us).1 := ⟨_, rfl⟩
      obtain ⟨n2, hn2⟩ : ∃ n2, n2 = (countL us).2 := ⟨_, rfl⟩
      rw [← hn1] at hu1
      rw [← hn2] at hu2
      have HN1 := Lib.hid hn1
      have HN2 := Lib.hid hn2
      clear hp HPC hg hle hn1 hn2
      have HCC := Lib.hid (fun (w2 : World) (a : Option Addr) (c : Nat) (hU : Units w2 (fun b => w.heap.size ≤ b) (.slice a us.length c) us) => count_calls 6 us _ _ w2 (by have := HDEEP.out; omega) HGOOD.out hU (by omega) (by rw [← HN1.out]; omega) (by rw [← HN2.out]; omega))
      by_cases hjl : j < s.size
      · have t1 : decide ((j : Int) < (s.size : Int)) = true := by simp only [decide_eq_true_eq]; omega
        have HW := Lib.hid (show whole s.data.toList = none by rw [HWH.out, if_pos (show j < s.data.toList.length from hjl)])
        clear HWH
        go_enter Try.func84, Try.ntmps84
        go_wp2_with fail
        refine HREC.out.mono ?_
        rintro e w2 ⟨⟨a, c, rfl, hU⟩, hb2⟩
        have HB2 := Lib.hid hb2
        have HU2 := Lib.hid hU
        clear hb2 hU
        go_wp2_with fail
        refine (HCC.out w2 a c HU2.out).mono ?_
        rintro e w3 ⟨rfl, hb3⟩
        have HB3 := Lib.hid hb3
        clear hb3
        go_wp2_with fail
        exact ⟨rfl, HB2.out.trans (HB3.out.mono HB2.out.size), .inl ⟨HW.out, rfl⟩⟩
      · have t1 : decide ((j : Int) < (s.size : Int)) = false := by simp only [decide_eq_false_iff_not]; omega
        by_cases hbig : 256 < n1
        · have HW := Lib.hid (show whole s.data.toList = none by rw [HWH.out, if_neg (show ¬ j < s.data.toList.length from hjl), if_pos (by rw [← HN1.out]; exact hbig)])
          clear HWH
          go_enter Try.func84, Try.ntmps84
          go_wp2_with fail
          refine HREC.out.mono ?_
          rintro e w2 ⟨⟨a, c, rfl, hU⟩, hb2⟩
          have HB2 := Lib.hid hb2
          have HU2 := Lib.hid hU
          clear hb2 hU
          go_wp2_with fail
          refine (HCC.out w2 a c HU2.out).mono ?_
          rw [← HN1.out, ← HN2.out]
          rintro e w3 ⟨rfl, hb3⟩
          have HB3 := Lib.hid hb3
          clear hb3
          go_wp2_with fail
          exact ⟨rfl, HB2.out.trans (HB3.out.mono HB2.out.size), .inl ⟨HW.out, rfl⟩⟩
        · have HW := Lib.hid (show whole s.data.toList = some us by rw [HWH.out, if_neg (show ¬ j < s.data.toList.length from hjl), if_neg (by rw [← HN1.out]; exact hbig)])
          clear HWH
          go_enter Try.func84, Try.ntmps84
          go_wp2_with fail
          refine HREC.out.mono ?_
          rintro e w2 ⟨⟨a, c, rfl, hU⟩, hb2⟩
          have HB2 := Lib.hid hb2
          have HU2 := Lib.hid hU
          clear hb2 hU
          go_wp2_with fail
          refine (HCC.out w2 a c HU2.out).mono ?_
          rw [← HN1.out, ← HN2.out]
          rintro e w3 ⟨rfl, hb3⟩
          have HB3 := Lib.hid hb3
          clear hb3
          go_wp2_with fail
          go_ret2
          exact ⟨HB2.out.trans (HB3.out.mono HB2.out.size), .inr ⟨us, _, HW.out, by rw [← HN2.out]; rfl, HU2.out.below HB3.out⟩⟩
  · have t0 : decide ((64 : Int) < (s.size : Int)) = true := by simp only [decide_eq_true_eq]; omega
    have HW := Lib.hid (show whole s.data.toList = none by unfold whole; rw [if_neg (show ¬ s.data.toList.length ≤ 64 from hl)])
    go_enter Try.func84, Try.ntmps84
    go_wp2_with fail
    exact ⟨rfl, Below.refl _ _, .inl ⟨HW.out, rfl⟩⟩
end Go.Proofs.Ytdmliaodacaefaa.Shape
