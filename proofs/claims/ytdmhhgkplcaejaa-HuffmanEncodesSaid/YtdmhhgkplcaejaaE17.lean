/- The reference's Encode walked. -/
import Derived.Test.YtdmhhgkplcaejaaE14
import Derived.Test.YtdmhhgkplcaejaaE16
namespace Go.Proofs.Ytdmhhgkplcaejaa
open Go.RowKit Go.Sort Go.Proofs.YtdmhhgkplcaejaaW.PrintWords

set_option maxHeartbeats 4000000 in
set_option maxRecDepth 100000 in
theorem refEncode_valid (A B : Option Addr) (c d : Nat) (ls ss : List Int) (w : World) (hr : Kd.C (Kd.int .i64) w A ls.length ls) (hs : Kd.C (Kd.int .i64) w B ss.length ss) (hv : validOf ls = true) (hl : ¬ 4096 < ss.length) :
    Calls Try.prog 18 #[.slice A ls.length c, .slice B ss.length d] w fun e w' => ∃ v, e = .returned (.tuple #[v, .int .i64 (encB ls ss).length, .int .i64 (encE ls ss)]) ∧ (Kd.int .u8).R 5 w' w.heap.size (fun _ => True) v (packS (encB ls ss)) ∧ Below w.heap.size w w' := by
  have hcc := refCodes_valid A c ls w hr hv
  have HE : Hid (encE ls ss = if ss.any (badS ls) then 8 else 0) := by show _ = _; unfold encE; rw [if_pos hv, if_neg hl]
  have HLT := Aside0.mk (codesOf_lt hv)
  have hll := (valid_ok hv).1
  have HOK := Aside0.mk (valid_ok hv).2.1
  have HCL : Aside0 ((codesOf ls).length = ls.length) := ⟨codesOf_length ls⟩
  have HR := Aside0.mk hr
  have HS := Aside0.mk hs
  have HEB : Hid (encB ls ss = if encE ls ss = 0 then bitsOf ls (codesOf ls) ss else []) := rfl
  clear hr hs hv
  generalize codesOf ls = cs at *
  have hlz : ¬ (4096 : Int) < (ss.length : Int) := by omega
  go_enter Try.func18, Try.ntmps18
  go_wp2_with (first | (go_at_call 20; refine hcc.mono ?_; rintro e w2 ⟨v2, rfl, ho2, hb2⟩; obtain ⟨A2, c2, rfl⟩ := own_slice (Kd.own_of_R ho2)))
  have HC2 := Aside0.mk (Kd.R_reads' ho2).2.2
  have HB2 := Aside0.mk hb2
  have HZ2 := hb2.size
  clear hcc ho2 hb2
  go_loopg [9, 25] ss.length (fun kx s9 s25 w' => ∃ (k : Nat), s25 = .int .i64 k ∧ k ≤ ss.length ∧ ss.length - k ≤ kx ∧ Aside0 (Kd.bool.R 4 w' w2.heap.size (fun _ => True) s9 (bitsOf ls cs (ss.take k))) ∧ Aside0 (Below w2.heap.size w2 w') ∧ Hid ((ss.take k).any (badS ls) = false) ∧ (bitsOf ls cs (ss.take k)).length ≤ 15 * k)
  case atStart => exact ⟨0, rfl, by omega, by omega, ⟨Kd.R_nil _ _ _ _ _⟩, ⟨Below.refl _ _⟩, rfl, by simp [bitsOf]⟩
  case round =>
    obtain ⟨k, rfl, hk, hkx, HW, HB3, HNB, hbl⟩ := hrel
    have HBW := Aside0.mk (below_then HB2.out HZ2 HB3.out)
    by_cases hlt : k < ss.length
    · have hltz : (k : Int) < (ss.length : Int) := by omega
      obtain ⟨bd, rfl, hx⟩ := int_at HS.out k hlt
      replace hx := (HBW.out.cell (World.block_lt_of_cell? w _ hx)).trans hx
      have hts := take_snoc_rd ss k hlt
      have hbad : Hid ((ss.take (k + 1)).any (badS ls) = badS ls (rd ss k)) := by
        show _ = _
        rw [hts, List.any_append, HNB.out]
        simp
      have hbm : Hid (badS ls (rd ss k) = true → ss.any (badS ls) = true) := by
        intro h
        rw [← List.take_append_drop (k + 1) ss, List.any_append, hbad.out, h]
        rfl
      have hbs : Hid (bitsOf ls cs (ss.take (k + 1)) = bitsOf ls cs (ss.take k) ++ low (rd cs (rd ss k)) (rd ls (rd ss k)).toNat) := by show _ = _; rw [hts, bitsOf_snoc]
      clear hts
      generalize rd ss (k : Int) = x at hx hbad hbm hbs
      have hfail : Hid (badS ls x = true → encE ls ss = 8 ∧ encB ls ss = []) := by
        intro h
        have h8 : encE ls ss = 8 := by rw [HE.out, hbm.out h]; rfl
        exact ⟨h8, by rw [HEB.out, h8]; rfl⟩
      by_cases hx0 : x < 0
      · have hd0 : decide (x < 0) = true := decide_eq_true hx0
        obtain ⟨h8, hB⟩ := hfail.out (by simp [badS, hx0])
        have H8 : Hid (encE ls ss = 8) := h8
        have HBN : Hid (encB ls ss = []) := hB
        clear h8 hB
        go_wp2
        go_ret3
        exact ⟨_, by rw [H8.out, HBN.out]; rfl, by rw [HBN.out]; exact Kd.R_nil _ _ _ _ _, HBW.out⟩
      · have hd0 : decide (x < 0) = false := decide_eq_false hx0
        by_cases hx1 : (ls.length : Int) ≤ x
        · have hd1 : decide (x ≥ (ls.length : Int)) = true := decide_eq_true hx1
          have hd1' : decide ((ls.length : Int) ≤ x) = true := decide_eq_true hx1
          obtain ⟨h8, hB⟩ := hfail.out (by simp [badS, hx1])
          have H8 : Hid (encE ls ss = 8) := h8
          have HBN : Hid (encB ls ss = []) := hB
          clear h8 hB
          go_wp2
          go_ret3
          exact ⟨_, by rw [H8.out, HBN.out]; rfl, by rw [HBN.out]; exact Kd.R_nil _ _ _ _ _, HBW.out⟩
        · have hd1 : decide (x ≥ (ls.length : Int)) = false := decide_eq_false hx1
          have hd1' : decide ((ls.length : Int) ≤ x) = false := decide_eq_false hx1
          have hx2 : 0 ≤ x := by omega
          have hx3 : x < (ls.length : Int) := by omega
          obtain ⟨ad, rfl, hy⟩ := int_at' HR.out x hx2 hx3
          replace hy := (HBW.out.cell (World.block_lt_of_cell? w _ hy)).trans hy
          obtain ⟨ad2, rfl, hz⟩ := int_at' HC2.out x hx2 (by rw [HCL.out]; omega)
          replace hz := (HB3.out.cell (World.block_lt_of_cell? w2 _ hz)).trans hz
          have hyr := HOK.out (rd ls x) (by have := rd_mem (bs := ls) (k := x.toNat) (by omega); rwa [Int.toNat_of_nonneg hx2] at this)
          obtain ⟨hzr0, hzr1⟩ := HLT.out x hx2
          have hbx : Hid (badS ls x = decide (rd ls x = 0)) := by show _ = _; simp [badS, hx0, hx1]
          have hx4 : x < ((cs.length : Nat) : Int) := by rw [HCL.out]; exact hx3
          generalize rd ls x = y at hy hbs hyr hzr1 hbx
          generalize rd cs x = z at hz hbs hzr0 hzr1
          by_cases hy0 : y = 0
          · have hde : (y == 0) = true := by simp [hy0]
            obtain ⟨h8, hB⟩ := hfail.out (by rw [hbx.out]; simp [hy0])
            have H8 : Hid (encE ls ss = 8) := h8
            have HBN : Hid (encB ls ss = []) := hB
            clear h8 hB hy0
            go_wp2
            go_ret3
            exact ⟨_, by rw [H8.out, HBN.out]; rfl, by rw [HBN.out]; exact Kd.R_nil _ _ _ _ _, HBW.out⟩
          · have hde : (y == 0) = false := by simp [hy0]
            have hnb : Hid ((ss.take (k + 1)).any (badS ls) = false) := by show _ = _; rw [hbad.out, hbx.out]; simp [hy0]
            obtain ⟨m, rfl⟩ : ∃ m : Nat, y = (m : Int) := ⟨y.toNat, by omega⟩
            have hm15 : m ≤ 15 := by omega
            rw [Int.toNat_natCast] at hbs hzr1
            have hput := refLow_calls z m wr.drew hzr0 (by omega)
            have hbl2 : (bitsOf ls cs (ss.take (k + 1))).length ≤ 15 * (k + 1) := by rw [hbs.out, List.length_append, low_length]; omega
            go_upto_region 12 with (fail)
            have HWd := Aside0.mk (Kd.R_below HW.out (Below.refl wr.heap.size wr).drew)
            have HBd := Aside0.mk HB3.out.drew
            have hzd : w2.heap.size ≤ wr.drew.heap.size := HB3.out.size
            clear hyr hy0 hzr1 hx0 hx1 hfail hbm hbad hbx HW HBW HB3
            go_region_law (first | (refine Kd.R_append_rows_step Kd.bool (Rr := fun x cs => cs = [Value.bool x]) (w0 := w2) (W := w6) w2.heap.size ?aG (.tmp 44) (.tmp 53) 61 4 (.bool false) 1 ?aOp Try.underlying61 info4 rfl (by decide) (by decide) u9 (bitsOf ls cs (ss.take k)) (low z m) A6 m c6 (fun _ => True) (fun _ => False) ?aV ?aX ?aO ?aR ?aK (fun _ hk => hk.elim) ?aF ?aB ?aS ?aL ?_; (case aG => rfl); (case aOp => rfl); (case aV => rfl); (case aX => rfl); (case aF => exact fun _ _ => trivial); (case aK => exact fun _ _ h => h); (case aO => exact HW6.out); (case aR => have := HC6.out; rw [low_length] at this; exact this); (case aB => exact HB6.out); (case aS => exact Nat.le_trans hzd hz6); (case aL => omega); intro v7 w7 ho7 hb7 hg7 hat7; rw [← hbs.out] at ho7; clear hg7 hat7) | (go_simp; go_at_call 33; refine hput.mono ?_; rintro e w6 ⟨A6, c6, rfl, ho6, hb6⟩; have HC6 := Aside0.mk (Kd.R_reads' ho6).2.2; have HW6 := Aside0.mk (Kd.R_below HWd.out hb6); have HB6 := Aside0.mk (below_then HBd.out hzd hb6); have hz6 := hb6.size; clear ho6 hb6))
            all_goals go_wp2
            all_goals go_roundg (ss.length - (k + 1))
            all_goals first | (case measure => omega) | skip
            all_goals exact ⟨k + 1, by go_num, by omega, Nat.le_refl _, ⟨ho7⟩, ⟨hb7⟩, hnb, hbl2⟩
    · have hltz : ¬ (k : Int) < (ss.length : Int) := by omega
      obtain rfl : k = ss.length := by omega
      rw [List.take_length] at *
      have H0 : Hid (encE ls ss = 0) := by show _ = _; rw [HE.out, HNB.out]; rfl
      have HB0 : Hid (bitsOf ls cs ss = encB ls ss) := by show _ = _; rw [HEB.out, H0.out]; rfl
      rw [HB0.out] at HW hbl
      obtain ⟨A9, c9, hs9⟩ := own_slice (Kd.own_of_R HW.out)
      have hs9' : u9 = .slice A9 (encB ls ss).length c9 := hs9
      subst hs9'
      clear hs9
      have hby := refPack_calls A9 c9 (encB ls ss) wr (Kd.R_reads' HW.out).2.2 (by omega)
      go_wp2_with (first | (go_at_call 34; refine hby.mono ?_; rintro e w6 ⟨v6, rfl, ho6, hb6⟩))
      go_ret3
      exact ⟨_, by rw [H0.out]; rfl, Kd.R_lower ho6 HBW.out.size, below_then HBW.out HBW.out.size hb6⟩

theorem refEncode_calls (A B : Option Addr) (c d : Nat) (ls ss : List Int) (w : World) (hr : Kd.C (Kd.int .i64) w A ls.length ls) (hs : Kd.C (Kd.int .i64) w B ss.length ss) :
    Calls Try.prog 18 #[.slice A ls.length c, .slice B ss.length d] w fun e w' => ∃ v, e = .returned (.tuple #[v, .int .i64 (encB ls ss).length, .int .i64 (encE ls ss)]) ∧ (Kd.int .u8).R 5 w' w.heap.size (fun _ => True) v (packS (encB ls ss)) ∧ Below w.heap.size w w' := by
  by_cases hv : validOf ls = true
  · by_cases hl : 4096 < ss.length
    · have h2 : encE ls ss = 2 := by unfold encE; rw [if_pos hv, if_pos hl]
      have hB : encB ls ss = [] := by unfold encB; rw [h2]; rfl
      have hcc := refCodes_valid A c ls w hr hv
      rw [h2, hB]
      have hlz : (4096 : Int) < (ss.length : Int) := by omega
      clear hr hs hv h2 hB
      go_enter Try.func18, Try.ntmps18
      go_wp2_with (first | (go_at_call 20; refine hcc.mono ?_; rintro e w2 ⟨v2, rfl, ho2, hb2⟩))
      go_ret3
      exact ⟨_, rfl, Kd.R_nil _ _ _ _ _, hb2⟩
    · exact refEncode_valid A B c d ls ss w hr hs hv hl
  · have h1 : encE ls ss = 1 := by unfold encE; rw [if_neg hv]
    have hB : encB ls ss = [] := by unfold encB; rw [h1]; rfl
    have hcc := refCodes_calls A c ls w hr
    rw [if_neg hv, if_neg hv] at hcc
    rw [h1, hB]
    clear hr hs hv h1 hB
    go_enter Try.func18, Try.ntmps18
    go_wp2_with (first | (go_at_call 20; refine hcc.mono ?_; rintro e w2 ⟨v2, rfl, ho2, hb2⟩))
    go_ret3
    exact ⟨_, rfl, Kd.R_nil _ _ _ _ _, hb2⟩
end Go.Proofs.Ytdmhhgkplcaejaa
