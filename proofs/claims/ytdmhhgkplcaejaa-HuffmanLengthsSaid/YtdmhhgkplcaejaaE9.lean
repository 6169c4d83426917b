/- huffman.Encode. -/
import Derived.Test.YtdmhhgkplcaejaaE8
import Derived.OwnWalk
namespace Go.Proofs.Ytdmhhgkplcaejaa
open Go.RowKit Go.Sort Go.Proofs.YtdmhhgkplcaejaaW.PrintWords

theorem rd_set (l : List Int) (i : Nat) (x s : Int) (hs : 0 ≤ s) : rd (l.set i x) s = if i < l.length ∧ (i : Int) = s then x else rd l s := by
  unfold rd
  rw [List.getD_eq_getElem?_getD, List.getElem?_set, List.getD_eq_getElem?_getD]
  by_cases h : i = s.toNat
  · rw [if_pos h]
    subst h
    by_cases h2 : s.toNat < l.length
    · rw [if_pos h2, if_pos ⟨h2, by omega⟩]; rfl
    · rw [if_neg h2, if_neg (fun h => h2 h.1), List.getElem?_eq_none (by omega)]
  · rw [if_neg h, if_neg (fun hh => h (by omega))]

theorem fillC_rd {ls l : List Int} (h : InOrd ls l) (s : Int) (hs : 0 ≤ s) : ∀ k, k ≤ l.length → rd (fillC ls l k) s = 0 ∨ ∃ j, j < k ∧ rd l j = s ∧ rd (fillC ls l k) s = cd ls l j
  | 0, _ => by
    left
    unfold fillC rd
    rw [List.getD_eq_getElem?_getD, List.getElem?_replicate]
    split <;> rfl
  | k + 1, hk => by
    rw [fillC, rd_set _ _ _ _ hs, fillC_length]
    have hm := h.mem k (by omega)
    by_cases hc : (rd l k).toNat < ls.length ∧ (((rd l k).toNat : Nat) : Int) = s
    · rw [if_pos hc]
      exact .inr ⟨k, Nat.lt_succ_self _, by omega, rfl⟩
    · rw [if_neg hc]
      rcases fillC_rd h s hs k (by omega) with h0 | ⟨j, hj, e1, e2⟩
      · exact .inl h0
      · exact .inr ⟨j, by omega, e1, e2⟩

theorem codesOf_length (ls : List Int) : (codesOf ls).length = ls.length := fillC_length _ _ _
theorem codesOf_lt {ls : List Int} (hv : validOf ls = true) (s : Int) (hs : 0 ≤ s) : 0 ≤ rd (codesOf ls) s ∧ rd (codesOf ls) s < 2 ^ (rd ls s).toNat := by
  have h := inOrd hv
  have hpos : (0 : Int) < 2 ^ (rd ls s).toNat := Int.pow_pos (by decide)
  rcases fillC_rd h s hs _ (Nat.le_refl _) with h0 | ⟨j, hj, e1, e2⟩
  · have e0 : rd (codesOf ls) s = 0 := h0
    omega
  · have e3 : rd (codesOf ls) s = cd ls (orderOf ls) j := e2
    have h1 := h.cd_lt hj
    unfold ln at h1
    rw [e1] at h1
    have h2 : ((cd ls (orderOf ls) j + 1 : Nat) : Int) ≤ ((2 ^ (rd ls s).toNat : Nat) : Int) := by exact_mod_cast h1
    rw [e3]
    push_cast at h2
    omega

/-- Whether a symbol has no code. -/
def badS (ls : List Int) (s : Int) : Bool := decide (s < 0) || decide ((ls.length : Int) ≤ s) || decide (rd ls s = 0)
/-- The bits of symbols. -/
def bitsOf (ls cs : List Int) (ss : List Int) : List Bool := ss.flatMap fun s => low (rd cs s) (rd ls s).toNat
/-- huffman.Encode. -/
def encE (ls ss : List Int) : Int := if validOf ls then (if 4096 < ss.length then 2 else if ss.any (badS ls) then 8 else 0) else 1
def encB (ls ss : List Int) : List Bool := if encE ls ss = 0 then bitsOf ls (codesOf ls) ss else []

theorem bitsOf_snoc (ls cs ss : List Int) (s : Int) : bitsOf ls cs (ss ++ [s]) = bitsOf ls cs ss ++ low (rd cs s) (rd ls s).toNat := by
  unfold bitsOf; rw [List.flatMap_append]; simp
theorem Str.below {w0 : World} {p base n : Nat} {bs : List Int} {w w' : World} (h : Str w0 p base n bs w) (hb : Below w.heap.size w w') (hbase : base ≤ w.heap.size) : Str w0 p base n bs w' := by
  obtain ⟨A, c, h1, h2, h3⟩ := h
  exact ⟨A, c, blk_below h1 hb, Kd.R_below h2 hb, below_then h3 hbase hb⟩
theorem Str.beneath {w0 : World} {p base n : Nat} {bs : List Int} {w : World} (h : Str w0 p base n bs w) : Below base w0 w := by
  obtain ⟨A, c, h1, h2, h3⟩ := h
  exact h3

theorem encode_invalid (A B : Option Addr) (c d : Nat) (ls ss : List Int) (w : World) (hr : Kd.C (Kd.int .i64) w A ls.length ls) (hE : encE ls ss = 1) :
    Calls Try.prog 17 #[.slice A ls.length c, .slice B ss.length d] w fun e w' => e = .returned (.tuple #[.slice none 0 0, .int .i64 0, .int .i64 1]) ∧ w = w' := by
  have hv := valid_calls A c ls w hr
  have hf : validOf ls = false := by
    cases h : validOf ls with
    | false => rfl
    | true => unfold encE at hE; rw [h, if_pos rfl] at hE; split at hE <;> (try split at hE) <;> omega
  rw [hf] at hv
  clear hr hf hE
  go_enter Try.func17, Try.ntmps17
  go_wp2_with (first | (go_at_call 27; refine hv.mono ?_; rintro e w' ⟨rfl, rfl⟩))
  go_ret3
  exact ⟨rfl, rfl⟩

theorem encode_long (A B : Option Addr) (c d : Nat) (ls ss : List Int) (w : World) (hr : Kd.C (Kd.int .i64) w A ls.length ls) (hv : validOf ls = true) (hl : 4096 < ss.length) :
    Calls Try.prog 17 #[.slice A ls.length c, .slice B ss.length d] w fun e w' => e = .returned (.tuple #[.slice none 0 0, .int .i64 0, .int .i64 2]) ∧ w = w' := by
  have hvc := valid_calls A c ls w hr
  rw [hv] at hvc
  clear hr hv
  have hlz : (4096 : Int) < (ss.length : Int) := by omega
  go_enter Try.func17, Try.ntmps17
  go_wp2_with (first | (go_at_call 27; refine hvc.mono ?_; rintro e w' ⟨rfl, rfl⟩))
  go_ret3
  exact ⟨rfl, rfl⟩

set_option maxHeartbeats 4000000 in
set_option maxRecDepth 100000 in
theorem encode_valid (A B : Option Addr) (c d : Nat) (ls ss : List Int) (w : World) (hr : Kd.C (Kd.int .i64) w A ls.length ls) (hs : Kd.C (Kd.int .i64) w B ss.length ss) (hv : validOf ls = true) (hl : ¬ 4096 < ss.length) :
    Calls Try.prog 17 #[.slice A ls.length c, .slice B ss.length d] w fun e w' => ∃ v, e = .returned (.tuple #[v, .int .i64 (encB ls ss).length, .int .i64 (encE ls ss)]) ∧ (Kd.int .u8).R 5 w' w.heap.size (fun _ => True) v (packS (encB ls ss)) ∧ Below w.heap.size w w' := by
  have hvc := valid_calls A c ls w hr
  have hcc := codesOf_calls A c ls w hr hv
  rw [hv] at hvc
  have HE : Hid (encE ls ss = if ss.any (badS ls) then 8 else 0) := by show _ = _; unfold encE; rw [if_pos hv, if_neg hl]
  have HLT := Aside0.mk (codesOf_lt hv)
  have hll := (valid_ok hv).1
  have HOK := Aside0.mk (valid_ok hv).2.1
  have HCL : Aside0 ((codesOf ls).length = ls.length) := ⟨codesOf_length ls⟩
  have HR := Aside0.mk hr
  have HS := Aside0.mk hs
  have HEB : Hid (encB ls ss = if encE ls ss = 0 then bitsOf ls (codesOf ls) ss else []) := rfl
  clear hr hs hv
  generalize codesOf ls = cs at *
  have hlz : ¬ (4096 : Int) < (ss.length : Int) := by omega
  have e30 : ∀ args w, (callFunc 30 args).run Try.prog w = .ok (.enter 30 args) w := enters_of Try.func30 (by kernel_rfl) rfl
  go_enter Try.func17, Try.ntmps17
  go_wp2_with (first | (go_at_call 27; refine hvc.mono ?_; rintro e w' ⟨rfl, rfl⟩) | (go_at_call 28; refine hcc.mono ?_; rintro e w2 ⟨v2, rfl, ho2, hb2⟩; obtain ⟨A2, c2, rfl⟩ := own_slice (Kd.own_of_R ho2)) | (go_at_call 29; refine (newWriter_calls w2).mono ?_; rintro e w3 ⟨rfl, hS3⟩))
  have HS3 := Aside0.mk hS3
  have HC2 := Aside0.mk (Kd.R_reads' ho2).2.2
  have HB2 := Aside0.mk hb2
  have HZ2 := hb2.size
  clear hvc hcc ho2 hb2 hS3
  go_loopg [27] ss.length (fun kx s27 w' => ∃ (k : Nat), s27 = .int .i64 k ∧ k ≤ ss.length ∧ ss.length - k ≤ kx ∧ Aside0 (Wr w2 w2.heap.size w2.heap.size (bitsOf ls cs (ss.take k)) w') ∧ Hid ((ss.take k).any (badS ls) = false) ∧ (bitsOf ls cs (ss.take k)).length ≤ 15 * k)
  case atStart => exact ⟨0, rfl, by omega, by omega, HS3, rfl, by simp [bitsOf]⟩
  case round =>
    clear HS3
    obtain ⟨k, rfl, hk, hkx, HW, HNB, hbl⟩ := hrel
    have HBW := Aside0.mk (below_then HB2.out HZ2 HW.out.beneath)
    by_cases hlt : k < ss.length
    · have hltz : (k : Int) < (ss.length : Int) := by omega
      obtain ⟨bd, rfl, hx⟩ := int_at HS.out k hlt
      replace hx := (HBW.out.cell (World.block_lt_of_cell? w _ hx)).trans hx
      have hts := take_snoc_rd ss k hlt
      have hbad : Hid ((ss.take (k + 1)).any (badS ls) = badS ls (rd ss k)) := by
        show _ = _
        rw [hts, List.any_append, HNB.out]
        simp
      have hbm : Hid (badS ls (rd ss k) = true → ss.any (badS ls) = true) := by
        intro h
        rw [← List.take_append_drop (k + 1) ss, List.any_append, hbad.out, h]
        rfl
      have hbs : Hid (bitsOf ls cs (ss.take (k + 1)) = bitsOf ls cs (ss.take k) ++ low (rd cs (rd ss k)) (rd ls (rd ss k)).toNat) := by show _ = _; rw [hts, bitsOf_snoc]
      clear hts
      generalize rd ss (k : Int) = x at hx hbad hbm hbs
      have hfail : Hid (badS ls x = true → encE ls ss = 8 ∧ encB ls ss = []) := by
        intro h
        have h8 : encE ls ss = 8 := by rw [HE.out, hbm.out h]; rfl
        exact ⟨h8, by rw [HEB.out, h8]; rfl⟩
      by_cases hx0 : x < 0
      · have hd0 : decide (x < 0) = true := decide_eq_true hx0
        obtain ⟨h8, hB⟩ := hfail.out (by simp [badS, hx0])
        have H8 : Hid (encE ls ss = 8) := h8
        have HBN : Hid (encB ls ss = []) := hB
        clear h8 hB
        go_wp2
        go_ret3
        exact ⟨_, by rw [H8.out, HBN.out]; rfl, by rw [HBN.out]; exact Kd.R_nil _ _ _ _ _, HBW.out⟩
      · have hd0 : decide (x < 0) = false := decide_eq_false hx0
        by_cases hx1 : (ls.length : Int) ≤ x
        · have hd1 : decide (x ≥ (ls.length : Int)) = true := decide_eq_true hx1
          have hd1' : decide ((ls.length : Int) ≤ x) = true := decide_eq_true hx1
          obtain ⟨h8, hB⟩ := hfail.out (by simp [badS, hx1])
          have H8 : Hid (encE ls ss = 8) := h8
          have HBN : Hid (encB ls ss = []) := hB
          clear h8 hB
          go_wp2
          go_ret3
          exact ⟨_, by rw [H8.out, HBN.out]; rfl, by rw [HBN.out]; exact Kd.R_nil _ _ _ _ _, HBW.out⟩
        · have hd1 : decide (x ≥ (ls.length : Int)) = false := decide_eq_false hx1
          have hd1' : decide ((ls.length : Int) ≤ x) = false := decide_eq_false hx1
          have hx2 : 0 ≤ x := by omega
          have hx3 : x < (ls.length : Int) := by omega
          obtain ⟨ad, rfl, hy⟩ := int_at' HR.out x hx2 hx3
          replace hy := (HBW.out.cell (World.block_lt_of_cell? w _ hy)).trans hy
          obtain ⟨ad2, rfl, hz⟩ := int_at' HC2.out x hx2 (by rw [HCL.out]; omega)
          replace hz := (HW.out.beneath.cell (World.block_lt_of_cell? w2 _ hz)).trans hz
          have hyr := HOK.out (rd ls x) (by have := rd_mem (bs := ls) (k := x.toNat) (by omega); rwa [Int.toNat_of_nonneg hx2] at this)
          obtain ⟨hzr0, hzr1⟩ := HLT.out x hx2
          have hbx : Hid (badS ls x = decide (rd ls x = 0)) := by show _ = _; simp [badS, hx0, hx1]
          have hx4 : x < ((cs.length : Nat) : Int) := by rw [HCL.out]; exact hx3
          generalize rd ls x = y at hy hbs hyr hzr1 hbx
          generalize rd cs x = z at hz hbs hzr0 hzr1
          by_cases hy0 : y = 0
          · have hde : (y == 0) = true := by simp [hy0]
            obtain ⟨h8, hB⟩ := hfail.out (by rw [hbx.out]; simp [hy0])
            have H8 : Hid (encE ls ss = 8) := h8
            have HBN : Hid (encB ls ss = []) := hB
            clear h8 hB hy0
            go_wp2
            go_ret3
            exact ⟨_, by rw [H8.out, HBN.out]; rfl, by rw [HBN.out]; exact Kd.R_nil _ _ _ _ _, HBW.out⟩
          · have hde : (y == 0) = false := by simp [hy0]
            have hnb : Hid ((ss.take (k + 1)).any (badS ls) = false) := by show _ = _; rw [hbad.out, hbx.out]; simp [hy0]
            obtain ⟨m, rfl⟩ : ∃ m : Nat, y = (m : Int) := ⟨y.toNat, by omega⟩
            have hm15 : m ≤ 15 := by omega
            rw [Int.toNat_natCast] at hbs hzr1
            have hput := writerBits_calls w2.heap.size w2.heap.size _ w2 _ z m hzr0 hzr1 (by omega) (by omega) (Nat.le_refl _) (Nat.le_refl _) HW.out.drew
            rw [← hbs.out] at hput
            have hbl2 : (bitsOf ls cs (ss.take (k + 1))).length ≤ 15 * (k + 1) := by rw [hbs.out, List.length_append, low_length]; omega
            clear hyr hy0 hzr1 hx0 hx1 hfail hbm hbad hbx hbs
            go_wp2_with fail
            go_still_tail 9, (by kernel_rfl)
            change wpList _ _ _ _ _ wr.drew
            have hx' : wr.drew.heap.size = wr.heap.size := rfl
            clear hx'
            generalize wr.drew = w5 at hput ⊢
            go_wp2_with (go_at_call 30; refine hput.mono ?_; rintro e w6 ⟨rfl, hS6⟩)
            have HS6 := Aside0.mk hS6
            clear hS6 HW HBW
            go_roundg (ss.length - (k + 1))
            case measure => omega
            case rel => exact ⟨k + 1, by go_num, by omega, Nat.le_refl _, HS6, hnb, hbl2⟩
    · have hltz : ¬ (k : Int) < (ss.length : Int) := by omega
      obtain rfl : k = ss.length := by omega
      rw [List.take_length] at *
      have H0 : Hid (encE ls ss = 0) := by show _ = _; rw [HE.out, HNB.out]; rfl
      have HB0 : Hid (bitsOf ls cs ss = encB ls ss) := by show _ = _; rw [HEB.out, H0.out]; rfl
      rw [HB0.out] at HW hbl
      have hby := writerBytes_calls w2.heap.size w2.heap.size _ w2 wr (by omega) HW.out
      have hln : ∀ W : World, Below wr.heap.size wr W → Calls Try.prog 32 #[.pointer (some ⟨w2.heap.size, 0, none⟩)] W fun e w' => e = .returned (.int .i64 (encB ls ss).length) ∧ W = w' := fun W hW => writerLen_calls w2.heap.size w2.heap.size _ w2 W (HW.out.below hW HW.out.size)
      have HLN := Aside0.mk hln
      clear hln
      go_wp2_with (first | (go_at_call 31; refine hby.mono ?_; rintro e w6 ⟨v6, rfl, ho6, hb6⟩) | (go_at_call 32; refine (HLN.out _ hb6).mono ?_; rintro e w7 ⟨rfl, rfl⟩))
      go_ret3
      exact ⟨_, by rw [H0.out]; rfl, Kd.R_lower ho6 HBW.out.size, below_then HBW.out HBW.out.size hb6⟩

/-- huffman.Encode, whatever its arguments. -/
theorem encode_calls (A B : Option Addr) (c d : Nat) (ls ss : List Int) (w : World) (hr : Kd.C (Kd.int .i64) w A ls.length ls) (hs : Kd.C (Kd.int .i64) w B ss.length ss) :
    Calls Try.prog 17 #[.slice A ls.length c, .slice B ss.length d] w fun e w' => ∃ v, e = .returned (.tuple #[v, .int .i64 (encB ls ss).length, .int .i64 (encE ls ss)]) ∧ (Kd.int .u8).R 5 w' w.heap.size (fun _ => True) v (packS (encB ls ss)) ∧ Below w.heap.size w w' := by
  by_cases hv : validOf ls = true
  · by_cases hl : 4096 < ss.length
    · have h2 : encE ls ss = 2 := by unfold encE; rw [if_pos hv, if_pos hl]
      have hB : encB ls ss = [] := by unfold encB; rw [h2]; rfl
      rw [h2, hB]
      refine (encode_long A B c d ls ss w hr hv hl).mono ?_
      rintro e w' ⟨rfl, rfl⟩
      exact ⟨_, rfl, Kd.R_nil _ _ _ _ _, Below.refl _ _⟩
    · exact encode_valid A B c d ls ss w hr hs hv hl
  · have h1 : encE ls ss = 1 := by unfold encE; rw [if_neg hv]
    have hB : encB ls ss = [] := by unfold encB; rw [h1]; rfl
    have := encode_invalid A B c d ls ss w hr h1
    rw [h1, hB]
    refine this.mono ?_
    rintro e w' ⟨rfl, rfl⟩
    exact ⟨_, rfl, Kd.R_nil _ _ _ _ _, Below.refl _ _⟩
end Go.Proofs.Ytdmhhgkplcaejaa
