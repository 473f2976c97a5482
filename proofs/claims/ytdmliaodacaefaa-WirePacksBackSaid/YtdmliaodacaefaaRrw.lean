/- The reference's writer, call by call, for every state. By walks. -/
import Derived.Test.YtdmliaodacaefaaWrs
import Derived.Test.YtdmliaodacaefaaWro
namespace Go.Proofs.Ytdmliaodacaefaa.Wr
open Go.RowKit Go.Proofs.YtdmliaodacaefaaW.PrintWords Go.Proofs.YtdmliaodacaefaaW.PrintLast Go.Proofs.YtdmliaodacaefaaW.PrintMore Go.Proofs.Ytdmliaodacaefaa.Mem Go.Proofs.Ytdmliaodacaefaa.Sep Go.Proofs.Ytdmliaodacaefaa.Bridge
set_option linter.unusedVariables false
set_option linter.unusedSimpArgs false
section
variable {m : ObjOf} {w w' : World} {a i : Nat} {vo vp : Value} {s : WS} {u : Value} {F : Blks}
/-- an error is laid. -/
theorem turn_errV (h : IsO objV w a vo vp s) (hF : ∀ b, foot a vo vp b → F b) (e : Int) : Turn w (w.setCell ⟨a, 3, none⟩ (.int .i64 e)) F (st objV a (s.fail e)) :=
  ⟨(Only.refl w F).setCell (p := ⟨a, 3, none⟩) (.inl (hF a (.inl rfl))) _, vo, vp, IsO.put_ (heap_set h.blk _) h.out h.opn h.ne1 h.ne2 h.ne3 ⟨h.ok.len, h.ok.lim, h.ok.nest, h.ok.inn⟩, fun b hb => .inl (hF b hb)⟩
/-- bytes were appended and stored back. -/
theorem turn_outV {v1 : Value} {w1 : World} {l : List UInt8} (h : IsO objV w a vo vp s) (hF : ∀ b, foot a vo vp b → F b) (ho : Rw w1 5 .u8 v1 (bl (s.out ++ l))) (hg : w.grownBy w1 vo.ownBlock)
    (hat : v1.ownBlock = vo.ownBlock ∨ ∃ b, v1.ownBlock = some b ∧ w.heap.size ≤ b) (hl : s.out.length + l.length ≤ s.lim) : Turn w (w1.setCell ⟨a, 1, none⟩ v1) F (st objV a (s.with_ (s.out ++ l))) := by
  have hon := grown_only hg
  have hblk : w1.heap[a]? = some (objV vo vp s) := (hon.block a (block_lt h.blk) h.ne1).trans h.blk
  have hne : v1.ownBlock ≠ some a := by
    intro e
    rcases hat with h3 | ⟨b, h3, h4⟩
    · exact h.ne1 (h3.symm.trans e)
    · have : b = a := Option.some.inj (h3.symm.trans e)
      have := block_lt h.blk
      omega
  have hp : Rw w1 3 .i64 vp (nl s.opn) := h.opn.only hon (fun b hb hv => h.ne3 b hv hb)
  refine ⟨(hon.mono (fun b hb _ => hF b (.inr (.inl hb)))).setCell (p := ⟨a, 1, none⟩) (.inl (hF a (.inl rfl))) _, v1, vp, IsO.put_ (heap_set hblk _) ho hp hne h.ne2 ?_ ⟨by simp [WS.with_]; omega, h.ok.lim, h.ok.nest, fun x hx => by have := h.ok.inn x hx; simp [WS.with_]; omega⟩, ?_⟩
  · intro b hb hb2
    rcases hat with h3 | ⟨b', h3, h4⟩
    · exact h.ne3 b (h3.symm.trans hb) hb2
    · have : b' = b := Option.some.inj (h3.symm.trans hb)
      have := h.opn.lt b hb2
      omega
  · rintro b (rfl | hb | hb)
    · exact .inl (hF b (.inl rfl))
    · rcases hat with h3 | ⟨b', h3, h4⟩
      · exact .inl (hF b (.inr (.inl (h3.symm.trans hb))))
      · have : b' = b := Option.some.inj (h3.symm.trans hb)
        exact .inr (by omega)
    · exact .inl (hF b (.inr (.inr hb)))
end
/-- a place was appended and stored back. -/
theorem turn_opnV {w w1 : World} {a : Nat} {vo vp v1 : Value} {s : WS} {F : Blks} {q : List Nat} (h : IsO objV w a vo vp s) (hF : ∀ b, foot a vo vp b → F b) (ho : Rw w1 3 .i64 v1 (nl q)) (hg : w.grownBy w1 vp.ownBlock)
    (hat : v1.ownBlock = vp.ownBlock ∨ ∃ b, v1.ownBlock = some b ∧ w.heap.size ≤ b) (hq : q.length ≤ 4) (hi : ∀ x ∈ q, x ≤ s.out.length) : Turn w (w1.setCell ⟨a, 2, none⟩ v1) F (st objV a { s with opn := q }) := by
  have hon := grown_only hg
  have hblk : w1.heap[a]? = some (objV vo vp s) := (hon.block a (block_lt h.blk) h.ne2).trans h.blk
  have hne : v1.ownBlock ≠ some a := by
    intro e
    rcases hat with h3 | ⟨b, h3, h4⟩
    · exact h.ne2 (h3.symm.trans e)
    · have : b = a := Option.some.inj (h3.symm.trans e)
      have := block_lt h.blk
      omega
  have hp : Rw w1 5 .u8 vo (bl s.out) := h.out.only hon (fun b hb hv => h.ne3 b hb hv)
  refine ⟨(hon.mono (fun b hb _ => hF b (.inr (.inr hb)))).setCell (p := ⟨a, 2, none⟩) (.inl (hF a (.inl rfl))) _, vo, v1, IsO.put_ (heap_set hblk _) hp ho h.ne1 hne ?_ ⟨h.ok.len, h.ok.lim, hq, hi⟩, ?_⟩
  · intro b hb hb2
    rcases hat with h3 | ⟨b', h3, h4⟩
    · exact h.ne3 b hb (h3.symm.trans hb2)
    · have : b' = b := Option.some.inj (h3.symm.trans hb2)
      have := h.out.lt b hb
      omega
  · rintro b (rfl | hb | hb)
    · exact .inl (hF b (.inl rfl))
    · exact .inl (hF b (.inr (.inl hb)))
    · rcases hat with h3 | ⟨b', h3, h4⟩
      · exact .inl (hF b (.inr (.inr (h3.symm.trans hb))))
      · have : b' = b := Option.some.inj (h3.symm.trans hb)
        exact .inr (by omega)
theorem pop_opnV {w : World} {a : Nat} {vo : Value} {s : WS} {F : Blks} {A : Option Addr} {n d : Nat} {q : List Nat} (h : IsO objV w a vo (.slice A n d) s) (hF : ∀ b, foot a vo (.slice A n d) b → F b) (k : Nat) (hk : k ≤ n) (hq : q = s.opn.take k) :
    Turn w (w.setCell ⟨a, 2, none⟩ (.slice A k d)) F (st objV a { s with opn := q }) := by
  have hn : n = (nl s.opn).length := (Kd.R_reads' h.opn).1
  have hR : Rw w 3 .i64 (.slice A k d) (nl q) := by
    have h1 := Kd.R_take h.opn (show k ≤ (nl s.opn).length by omega)
    rw [hq]
    have h2 : (nl s.opn).take k = nl (s.opn.take k) := by simp [nl, List.map_take]
    rwa [h2] at h1
  have hown : ∀ b, (Value.slice A k d).ownBlock = some b → (Value.slice A n d).ownBlock = some b := fun b hb => by cases A <;> exact hb
  refine ⟨(Only.refl w F).setCell (p := ⟨a, 2, none⟩) (.inl (hF a (.inl rfl))) _, vo, .slice A k d, IsO.put_ (heap_set h.blk _) h.out hR h.ne1 (fun e => h.ne2 (hown a e)) (fun b hb hb2 => h.ne3 b hb (hown b hb2)) ⟨h.ok.len, h.ok.lim, ?_, ?_⟩, ?_⟩
  · have := h.ok.nest
    rw [hq, List.length_take]
    omega
  · intro x hx
    rw [hq] at hx
    exact h.ok.inn x (List.mem_of_mem_take hx)
  · rintro b (rfl | hb | hb)
    · exact .inl (hF b (.inl rfl))
    · exact .inl (hF b (.inr (.inl hb)))
    · exact .inl (hF b (.inr (.inr (hown b hb))))

/-- bytes that can be read, cell by cell. -/
theorem C_cells {w : World} {A : Option Addr} {l : List UInt8} (h : Kd.C (Kd.int .u8) w A (bl l).length (bl l)) (h0 : 0 < l.length) : ∃ b o, A = some ⟨b, o, none⟩ ∧ ∀ i (hi : i < l.length), w.cell? ⟨b, o + i, none⟩ = some (.int .u8 (l[i].toNat : Int)) := by
  have hr := Kd.reads_of_C (enc := Value.int .u8) (d := (0 : Int)) (h1 := fun _ => rfl) h
  obtain ⟨ad, e1, hc⟩ := hr.2.2 (by rw [bl_length]; exact h0)
  have h00 := hc 0 (by rw [bl_length]; exact h0)
  obtain ⟨b, o, spot⟩ := ad
  have hspot : spot = none := by simpa [Addr.add] using World.cell?_spot h00
  subst hspot
  refine ⟨b, o, e1, fun i hi => ?_⟩
  have h1 := hc i (by rw [bl_length]; exact hi)
  have h2 : (⟨b, o, none⟩ : Addr).add i = ⟨b, o + i, none⟩ := by by_cases h : i = 0 <;> simp [Addr.add, h]
  rw [h2] at h1
  rw [h1]
  congr 2
  have h3 := rd_bl l i hi
  exact h3
theorem take_one (l : List UInt8) (i : Nat) (h : i < l.length) : l.take (i + 1) = l.take i ++ [l[i]] := List.take_succ_eq_append_getElem h
set_option maxHeartbeats 2000000 in
theorem rput_calls {w : World} {F : Blks} (a : Nat) (s : WS) (A : Option Addr) (c : Nat) (l : List UInt8) (h : (st objV a s).on w F) (hr : Kd.C (Kd.int .u8) w A (bl l).length (bl l)) (hc : (bl l).length ≤ c) (hl : l.length ≤ 140737488351232) (hA : 0 < (bl l).length → ∀ x, A = some x → ¬ F x.block) :
    Calls Try.prog 100 #[.pointer (some ⟨a, 0, none⟩), .slice A (bl l).length c] w fun e w' => e = .returned (.tuple #[]) ∧ Turn w w' F (st objV a (s.put l)) := by
  have H := Lib.hid h
  have HR := Lib.hid hr
  have HA := Lib.hid hA
  have HL := Lib.hid hl
  obtain ⟨vo, vp, hI, hF⟩ := h
  obtain ⟨A0, c0, rfl, _, _⟩ := hI.out.reads
  have d0 : w.cell? ⟨a, 0, none⟩ = some (.int .i64 s.lim) := cell_of hI.blk rfl
  have d1 : w.cell? ⟨a, 1, none⟩ = some (.slice A0 (bl s.out).length c0) := cell_of hI.blk rfl
  have d3 : w.cell? ⟨a, 3, none⟩ = some (.int .i64 s.err) := cell_of hI.blk rfl
  have f3 := frozen_of hI.blk 3
  have HI := Lib.hid hI
  have HF := Lib.hid hF
  have hbl := bl_length l
  have hbs := bl_length s.out
  have hl1 := hI.ok.len
  have hl2 := hI.ok.lim
  have hx1 : ((bl s.out).length : Int) ≤ 1048576 := by omega
  have hx2 : ((bl l).length : Int) ≤ 140737488351232 := by omega
  clear hI hF hr hA hl
  by_cases he : s.err = 0
  · have t0 : (s.err != 0) = false := by simp [he]
    by_cases hroom : s.out.length + l.length ≤ s.lim
    · have t1 : ¬ (s.lim : Int) < ((bl s.out).length : Int) + ((bl l).length : Int) := by omega
      have E := Lib.hid (show s.put l = s.with_ (s.out ++ l) by unfold WS.put; rw [if_pos he, if_pos hroom])
      have HROOM := Lib.hid hroom
      have HBL := Lib.hid hbl
      clear he hroom hbl hbs hl1
      go_enter Try.func100, Try.ntmps100
      go_wp2_with fail
      go_quiet (fail)
      go_wp2_with fail
      clear d0 d1 d3 f3 t0 t1
      go_loopw [4] (fun v4 wr => ∃ i : Nat, v4 = .int .i64 i ∧ i ≤ l.length ∧ Turn w wr F (st objV a (s.with_ (s.out ++ l.take i)))) (fun v _ => l.length - (intOf v).toNat)
      case atStart => exact ⟨0, rfl, Nat.zero_le _, by rw [List.take_zero, List.append_nil]; exact Turn.drewN H.out _⟩
      case round =>
        obtain ⟨i, rfl, hi, ht⟩ := hrel
        have HT := Lib.hid ht
        clear ht
        by_cases hlt : i < l.length
        · obtain ⟨b, o, hAe, hcells⟩ := C_cells (C_only HR.out HT.out.1 HA.out) (by omega)
          subst hAe
          have hcell := hcells i hlt
          obtain ⟨out1, hout1⟩ : ∃ x, x = s.out ++ l.take i := ⟨_, rfl⟩
          have ht1 := HT.out
          rw [← hout1] at ht1
          obtain ⟨vo1, vp1, hI1, hF1⟩ := ht1.2
          clear ht1
          obtain ⟨A1, c1, rfl, _, _⟩ := hI1.out.reads
          obtain ⟨B1, d1, rfl, _, _⟩ := hI1.opn.reads
          have e1 : wr.cell? ⟨a, 1, none⟩ = some (.slice A1 (bl out1).length c1) := cell_of hI1.blk rfl
          have hA1 : ∀ ob : Obj, (wr.alloc ob).cell? ⟨a, 1, none⟩ = some (.slice A1 (bl out1).length c1) := fun ob => cell_of (hI1.alloc ob).blk rfl
          have g1 := frozen_of hI1.blk 1
          have HI1 := Lib.hid hI1
          have HF1 := Lib.hid hF1
          have HOUT1 := Lib.hid hout1
          have HLEN := Lib.hid (show ((bl out1).length + 1) * 1 ≤ 140737488355328 by
            have h1 := hI1.ok.len
            have h2 := hI1.ok.lim
            simp only [WS.with_] at h1 h2
            rw [bl_length]
            omega)
          have hil : (i : Int) < ((bl l).length : Int) := by have := HBL.out; omega
          have hi0 : i ≤ 140737488351232 := by have := HL.out; omega
          obtain ⟨z, hz⟩ : ∃ z : UInt8, z = l[i] := ⟨_, rfl⟩
          rw [← hz] at hcell
          have HTK := Lib.hid (show l.take (i + 1) = l.take i ++ [z] by rw [hz]; exact take_one l i hlt)
          have HLT := Lib.hid (show i < l.length from hlt)
          clear hI1 hF1 hout1 hcells hz
          clear hlt
          go_wp2_with fail
          go_region_law (first | (refine push_step (W := wr.drew) rfl (.tmp 36) (.tmp 41) 27 5 .u8 1 rfl Try.underlying27 info5 (by decide) (.slice A1 (bl out1).length c1) (bl out1) _ rfl rfl (HI1.out.out.only (Only.refl wr (fun _ => False)).drew (fun _ _ h => h)) HLEN.out ?_; intro v1 w2 ho1 hg1 hat1; obtain ⟨A2, c2, e2, _, _⟩ := ho1.reads; obtain ⟨n1, hn1⟩ : ∃ n1 : Nat, n1 = (bl out1 ++ [(z.toNat : Int)]).length := ⟨_, rfl⟩; rw [← hn1] at e2; subst e2; clear hn1; (have hblk : w2.heap[a]? = some (objV (.slice A1 (bl out1).length c1) (.slice B1 (nl s.opn).length d1) (s.with_ out1)) := (hg1.block a (block_lt HI1.out.blk) (fun e => HI1.out.ne1 e.symm)).trans HI1.out.blk); (have d2 : w2.cell? ⟨a, 1, none⟩ = some (.slice A1 (bl out1).length c1) := cell_of hblk rfl); have f2 := frozen_of hblk 1; have HO1 := Lib.hid ho1; have HG1 := Lib.hid hg1; have HAT1 := Lib.hid hat1; clear ho1 hg1 hat1 hblk))
          all_goals
            go_wp2_with fail
            have hlt := HLT.out
            have ht2 : Turn w (w2.setCell ⟨a, 1, none⟩ (.slice A2 n1 c2)) F (st objV a (s.with_ (s.out ++ l.take (i + 1)))) := by
              have h1 := HT.out.trans (Turn.after_below (below_drew (Below.refl _ _)) (turn_outV (w := wr.drew) (l := [z]) (HI1.out.keep (fun _ _ _ => rfl)) HF1.out (by rw [bl_append]; exact HO1.out) HG1.out HAT1.out (by
                have h2 := HROOM.out
                have h3 := HOUT1.out
                simp only [WS.with_]
                rw [h3]
                simp
                omega)))
              rw [HTK.out, ← List.append_assoc, ← HOUT1.out]
              exact h1
            exact ⟨⟨i + 1, by simp, by omega, ht2⟩, by simp [intOf]; omega⟩
        · have hin : i = l.length := by omega
          have HIN := Lib.hid hin
          have hil : ¬ (i : Int) < ((bl l).length : Int) := by have := HBL.out; omega
          clear hin hlt
          go_wp2_with fail
          go_end0
          rw [E.out]
          have ht := HT.out
          rw [HIN.out, List.take_length] at ht
          exact ⟨rfl, ht⟩
    · have t1 : (s.lim : Int) < ((bl s.out).length : Int) + ((bl l).length : Int) := by omega
      have E := Lib.hid (show s.put l = s.fail 2 by unfold WS.put; rw [if_pos he, if_neg hroom])
      clear he hroom hbl hbs hl1
      go_enter Try.func100, Try.ntmps100
      go_wp2_with fail
      go_quiet (fail)
      go_wp2_with fail
      refine bodyPost_ret (results_none rfl _ _ _) rfl ?_
      rw [E.out]
      exact ⟨rfl, (Turn.drewN H.out _).trans (turn_errV (HI.out.drewN _) (fun b hb => .inl (HF.out b hb)) 2)⟩
  · have t0 : (s.err != 0) = true := by simpa using he
    have E := Lib.hid (show s.put l = s by unfold WS.put; rw [if_neg he])
    clear he hbl hbs hl1
    go_enter Try.func100, Try.ntmps100
    go_wp2_with fail
    refine bodyPost_ret (results_none rfl _ _ _) rfl ?_
    rw [E.out]
    exact ⟨rfl, Turn.same H.out⟩
theorem new_away {w w' : World} {v : Value} {xs : List Int} {F : Blks} {P : Asr} (hn : New w w' v xs) (hP : P.on w F) : ∃ A c, v = .slice A xs.length c ∧ xs.length ≤ c ∧ Kd.C (Kd.int .u8) w' A xs.length xs ∧ (0 < xs.length → ∀ x, A = some x → w.heap.size ≤ x.block) := by
  obtain ⟨A, c, rfl, hc, hC⟩ := hn.1.reads
  refine ⟨A, c, rfl, hc, hC, fun h0 x hx => ?_⟩
  subst hx
  exact hn.2.1 x.block rfl
theorem Turn.then_new {w w1 w2 w3 : World} {F : Blks} {P1 P3 : Asr} (h1 : Turn w w1 F P1) (hb : Below w1.heap.size w1 w2) (h2 : Turn w2 w3 (fun b => Later w F b ∧ b < w1.heap.size) P3) : Turn w w3 F P3 :=
  ⟨(h1.1.trans (S2 := fun _ => False) (Only.of_below hb _) (fun _ h => h.elim)).trans h2.1 (fun b hb => hb.1), P3.up h2.2 (fun b hF => by
    rcases hF with hF | hF
    · exact hF.1
    · exact .inr (Nat.le_trans h1.1.size (Nat.le_trans hb.size hF)))⟩
/-- a number's bytes, made and put. -/
theorem rput_new {w w1 w2 : World} {F : Blks} {a n y : Nat} {s1 : WS} {u : Value} (ht : Turn w w1 F (st objV a s1)) (hn : New w1 w2 u (bl (little n y))) (h8 : n ≤ 8) :
    Calls Try.prog 100 #[.pointer (some ⟨a, 0, none⟩), u] w2 fun e w' => e = .returned (.tuple #[]) ∧ Turn w w' F (st objV a (s1.put (little n y))) := by
  obtain ⟨A, c, rfl, hc, hC⟩ := hn.1.reads
  refine (rput_calls a s1 A c (little n y) (F := fun b => Later w F b ∧ b < w1.heap.size) (Asr.below (Asr.bound _ ht.2) hn.2.2) hC hc (by rw [little_length]; omega) (fun _ x hx hF => ?_)).mono ?_
  · subst hx
    have := hn.2.1 x.block rfl
    omega
  · rintro e w3 ⟨rfl, h3⟩
    exact ⟨rfl, ht.then_new hn.2.2 h3⟩
theorem rnum_calls {w : World} {F : Blks} (a : Nat) (s : WS) (v : Int) (most n : Nat) (h : (st objV a s).on w F) (hn : n ≤ 8) (hv : -9223372036854775808 ≤ v ∧ v ≤ 9223372036854775807) :
    Calls Try.prog 98 #[.pointer (some ⟨a, 0, none⟩), .int .i64 v, .int .i64 n, .int .i64 most] w fun e w' => e = .returned (.tuple #[]) ∧ Turn w w' F (st objV a (s.num v most n)) := by
  have HT := Lib.hid (Turn.same h)
  obtain ⟨vo, vp, hI, hF⟩ := h
  have c3 : w.cell? ⟨a, 3, none⟩ = some (.int .i64 s.err) := cell_of hI.blk rfl
  have f3 := frozen_of hI.blk 3
  have HTE := Lib.hid (turn_errV hI hF 1)
  obtain ⟨y, hy⟩ : ∃ y : Nat, y = (v % 18446744073709551616).toNat := ⟨_, rfl⟩
  have hyl : y < 18446744073709551616 := by omega
  have hu : IntKind.u64.wrap v = (y : Int) := by rw [u64_of, hy]
  have HLC := Lib.hid (fun wx => little_calls wx n y (by omega) hyl)
  have HN := Lib.hid hn
  clear hI hF hv hyl hn
  by_cases hbad : s.err = 0 ∧ (v < 0 ∨ (most : Int) < v)
  · have E := Lib.hid (show s.num v most n = (s.fail 1).put (little n y) by unfold WS.num; rw [if_pos hbad]; unfold WS.put WS.fail; rw [if_neg (show ¬ (1 : Int) = 0 by decide)])
    obtain ⟨h0, h1⟩ := hbad
    have t0 : (s.err == 0) = true := by simp [h0]
    clear h0 hy
    by_cases hneg : v < 0
    · clear h1
      go_enter Try.func98, Try.ntmps98
      go_wp2_with fail
      refine (HLC.out _).mono ?_
      rintro e w1 ⟨u, rfl, hnew⟩
      have HNEW := Lib.hid hnew
      clear hnew
      go_wp2_with fail
      refine (rput_new HTE.out HNEW.out HN.out).mono ?_
      rintro e w2 ⟨rfl, ht⟩
      go_wp2_with fail
      go_end0
      rw [E.out]
      exact ⟨rfl, ht⟩
    · have hbig : (most : Int) < v := by omega
      clear h1
      go_enter Try.func98, Try.ntmps98
      go_wp2_with fail
      refine (HLC.out _).mono ?_
      rintro e w1 ⟨u, rfl, hnew⟩
      have HNEW := Lib.hid hnew
      clear hnew
      go_wp2_with fail
      refine (rput_new HTE.out HNEW.out HN.out).mono ?_
      rintro e w2 ⟨rfl, ht⟩
      go_wp2_with fail
      go_end0
      rw [E.out]
      exact ⟨rfl, ht⟩
  · have E := Lib.hid (show s.num v most n = s.put (little n y) by unfold WS.num; rw [if_neg hbad, hy])
    by_cases h0 : s.err = 0
    · have t0 : (s.err == 0) = true := by simp [h0]
      have t1 : ¬ v < 0 := by omega
      have t2 : ¬ (most : Int) < v := by omega
      clear h0 hbad hy
      go_enter Try.func98, Try.ntmps98
      go_wp2_with fail
      refine (HLC.out _).mono ?_
      rintro e w1 ⟨u, rfl, hnew⟩
      have HNEW := Lib.hid hnew
      clear hnew
      go_wp2_with fail
      refine (rput_new HT.out HNEW.out HN.out).mono ?_
      rintro e w2 ⟨rfl, ht⟩
      go_wp2_with fail
      go_end0
      rw [E.out]
      exact ⟨rfl, ht⟩
    · have t0 : (s.err == 0) = false := by simp [h0]
      clear h0 hbad hy
      go_enter Try.func98, Try.ntmps98
      go_wp2_with fail
      refine (HLC.out _).mono ?_
      rintro e w1 ⟨u, rfl, hnew⟩
      have HNEW := Lib.hid hnew
      clear hnew
      go_wp2_with fail
      refine (rput_new HT.out HNEW.out HN.out).mono ?_
      rintro e w2 ⟨rfl, ht⟩
      go_wp2_with fail
      go_end0
      rw [E.out]
      exact ⟨rfl, ht⟩
end Go.Proofs.Ytdmliaodacaefaa.Wr
