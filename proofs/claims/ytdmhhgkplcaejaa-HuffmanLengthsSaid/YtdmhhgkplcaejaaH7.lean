/- huffman.Lengths at two present symbols or more. -/
import Derived.Test.YtdmhhgkplcaejaaH6
namespace Go.Proofs.Ytdmhhgkplcaejaa
open Go.RowKit Go.Sort Go.Proofs.YtdmhhgkplcaejaaW.PrintWords

theorem info45 : (Try.prog.info? 45).map (fun i => (i.zero, i.size, i.bytes)) = some (some (.slice none 0 0), 1, 24) := by kernel_rfl

/-- The kind of a list of items. -/
def kL : Kd (List It) := Kd.slice 48 kI

theorem rows_form {base : Nat} {ok : Nat → Prop} {w : World} {v : Value} {xs : List (List It)} (h : kL.R 45 w base ok v xs) (h0 : 0 < xs.length) :
    ∃ g cap, v = .slice (some ⟨g, 0, none⟩) xs.length cap ∧ base ≤ g ∧ g < w.heap.size ∧ ∀ k, k < xs.length → ∃ vk, w.cell? ⟨g, k, none⟩ = some vk ∧ kI.R 48 w base (fun b => ok b ∧ b ≠ g) vk (xs.getD k []) := by
  obtain ⟨inner, ho⟩ := Kd.R_own h
  rcases ho.2 with ⟨_, hz⟩ | ⟨g, cap, cur, rfl, hg, hh, hcn, hm, hc, ht⟩
  · omega
  refine ⟨g, cap, rfl, hg, (Array.getElem?_eq_some_iff.1 hh).1, fun k hk => ?_⟩
  obtain ⟨c, hc1, ⟨vk, rfl, hM⟩, hcell, _⟩ := Kd.R_elem h [] (k : Int) (by omega) (by omega)
  refine ⟨vk, ?_, ?_⟩
  · have := hcell 0 vk rfl
    rw [Int.toNat_natCast] at this
    simpa [kL, Kd.slice] using this
  · rw [Int.toNat_natCast] at hM
    exact hM

/-- The first lists. -/
def lvls (ls : List It) (j : Nat) : List (List It) := (List.range (j + 1)).map (lvl ls)
theorem lvls_length (ls : List It) (j : Nat) : (lvls ls j).length = j + 1 := by simp [lvls]
theorem lvls_succ (ls : List It) (j : Nat) : lvls ls (j + 1) = lvls ls j ++ [lvl ls (j + 1)] := by
  unfold lvls
  rw [List.range_succ, List.map_append]
  rfl
theorem lvls_get (ls : List It) (j k : Nat) (h : k ≤ j) : (lvls ls j).getD k [] = lvl ls k := by
  unfold lvls
  rw [List.getD_eq_getElem?_getD, List.getElem?_map, List.getElem?_range (by omega)]
  rfl

/-- A row stays where another row, of another type, was written. -/
theorem ints_kept {base base' : Nat} {ok ok' : Nat → Prop} {w w1 : World} {v v' : Value} {xs : List Int} {α : Type} {d : Kd α} {e' : Nat} {ys : List α} (h : (Kd.int .i64).R 3 w base ok v xs) (h' : d.R e' w base' ok' v' ys) (hg : w.grownBy w1 v'.ownBlock) (he : 3 ≠ e') : (Kd.int .i64).R 3 w1 base ok v xs := by
  obtain ⟨inner, ho'⟩ := Kd.R_own h'
  exact Kd.R_of_own (own_other (Kd.own_of_R h) hg (own_type_ne (Kd.own_of_R h) ho' he)) h.1
theorem items_kept {base base' : Nat} {ok ok' : Nat → Prop} {w w1 : World} {v v' : Value} {xs : List It} {α : Type} {d : Kd α} {e' : Nat} {ys : List α} (h : kI.R 48 w base ok v xs) (h' : d.R e' w base' ok' v' ys) (hg : w.grownBy w1 v'.ownBlock) (he : 48 ≠ e') : kI.R 48 w1 base ok v xs := by
  obtain ⟨inner, ho'⟩ := Kd.R_own h'
  have ho := flat_own encI_len encI_one (by decide) h
  exact own_flat encI_len encI_one (own_other ho hg (own_type_ne ho ho' he)) h.1

theorem lit_rows {base : Nat} {W : World} {v : Value} {ls : List It} (hM : kI.R 48 W base (fun _ => True) v ls) (hb : base ≤ W.heap.size) :
    kL.R 45 (W.alloc (.cells #[v] 45)) base (fun _ => True) (.slice (some ⟨W.heap.size, 0, none⟩) 1 1) [ls] := by
  refine ⟨fun _ _ => trivial, [v], ?_, rfl, ?_⟩
  · have h2 := World.ownsRow_lit (base := base) (e := 45) (size := 1) W #[v] 1 hb (by decide) (by simp)
    exact h2
  · intro j p hj
    cases j with
    | succ j => simp at hj
    | zero =>
      have hp : ls = p := by simpa using hj
      subst hp
      refine ⟨v, rfl, ?_⟩
      refine Kd.R_mono (Kd.R_alloc (Kd.R_bound hM) _) (fun k hk => ⟨trivial, ?_⟩)
      intro he
      have h3 : k = W.heap.size := by simpa [Value.ownBlock] using he
      have := hk.2.2.1
      omega

set_option maxHeartbeats 8000000 in
set_option maxRecDepth 100000 in
theorem lengths_many (A : Option Addr) (c : Nat) (cs : List Int) (limit : Int) (w : World) (hr : Kd.C (Kd.int .i64) w A cs.length cs) (hE : checkOf cs limit = 0) (hf : ¬ (leavesOf cs).length < 2) :
    Calls Try.prog 12 #[.slice A cs.length c, .int .i64 limit] w fun e w' => ∃ v, e = .returned (.tuple #[v, .int .i64 0]) ∧ (Kd.int .i64).R 3 w' w.heap.size (fun _ => True) v (lengthsOf cs limit.toNat) ∧ Below w.heap.size w w' := by
  have hck := check_calls A c cs limit w hr hr.2.1
  rw [hE] at hck
  obtain ⟨h1, h2, hn, hb, hp⟩ := check_ok hE
  obtain ⟨m, rfl⟩ : ∃ m : Nat, limit = (m : Int) + 1 := ⟨(limit - 1).toNat, by omega⟩
  have hmn : ((m : Int) + 1).toNat = m + 1 := by omega
  rw [hmn] at hp ⊢
  have HS : Hid (lengthsOf cs (m + 1) = down (lvl (leavesOf cs)) (m + 1) (2 * (leavesOf cs).length - 2) (List.replicate cs.length 0)) := by show _ = _; unfold lengthsOf; rw [if_neg hf]
  have HM : Aside0 (∀ x ∈ leavesOf cs, ItOk cs.length 4096 x ∧ 0 ≤ x.s) := ⟨leavesOf_mem (fun c hc => (hb c hc).2)⟩
  have hln : (leavesOf cs).length ≤ 1024 := by rw [leavesOf_length]; have := npos_le cs; omega
  have HTOP : Aside0 (2 * (leavesOf cs).length - 2 ≤ (lvl (leavesOf cs) m).length) := ⟨by
    have := lvl_top (leavesOf cs) (m + 1) (by rw [leavesOf_length]; exact hp) m (by omega)
    rw [show m + 1 - m = 1 by omega] at this
    omega⟩
  have HLV : Aside0 (∀ W : World, Below w.heap.size w W → Calls Try.prog 24 #[.slice A cs.length c] W fun e w' => ∃ g2 c2, e = .returned (.slice (some ⟨g2, 0, none⟩) (leavesOf cs).length c2) ∧ kI.R 48 w' W.heap.size (fun _ => True) (.slice (some ⟨g2, 0, none⟩) (leavesOf cs).length c2) (leavesOf cs) ∧ Below W.heap.size W w') := ⟨fun W hW => (leavesOf_calls A c cs W (Kd.C_below hr hW) (by omega) (fun x hx => (hb x hx).2)).mono (by
    rintro e w' ⟨v, rfl, ho, hb⟩
    obtain ⟨g2, c2, rfl, _⟩ := kI_form ho (by omega)
    exact ⟨g2, c2, rfl, ho, hb⟩)⟩
  clear hr hE hb hp hmn
  generalize leavesOf cs = ls at *
  have hfz : ¬ (ls.length : Int) < 2 := by omega
  go_enter Try.func12, Try.ntmps12
  go_wp2_with (first | (go_at_call 23; refine hck.mono ?_; rintro e w' ⟨rfl, rfl⟩) | ((with_reducible refine gate_dst (N := 25) rfl ?_); refine Kd.R_make (Kd.int .i64) (w0 := w) w.heap.size 3 rfl (N := 25) rfl 22 _ _ rfl (cs.length : Int) rfl rfl Try.underlying22 (.int .i64 0) 8 info3 rfl (by decide) (by omega) (0 : Int) (ok := fun _ => True) (okp := fun _ => True) rfl (fun _ hk => hk) trivial (by omega) (by omega) (Below.refl _ _) (Nat.le_refl _) ?_; intro v1 w1 ho hbw hg hat; obtain ⟨g1, cap1, rfl, hcap1, hg1, hg1s⟩ := int_form (n := cs.length) ho (by obtain ⟨b, hb, _⟩ := hat; exact ⟨b, hb⟩) (by simp); clear hg hat) | (go_at_call 24; refine (HLV.out _ hbw).mono ?_; rintro e w2 ⟨g2, c2, rfl, ho2, hb2⟩))
  have HB := Aside0.mk (below_alloc' (below_then hbw hbw.size hb2) (.cells #[.slice (some ⟨g2, 0, none⟩) ls.length c2] 45))
  have hws : w.heap.size ≤ w2.heap.size := Nat.le_trans hbw.size hb2.size
  have HO1 := Aside0.mk (Kd.R_alloc (Kd.R_below ho hb2) (.cells #[.slice (some ⟨g2, 0, none⟩) ls.length c2] 45))
  have HO2 := Aside0.mk (Kd.R_alloc ho2 (.cells #[.slice (some ⟨g2, 0, none⟩) ls.length c2] 45))
  have HL0 := lit_rows (Kd.R_lower ho2 hbw.size) hws
  have HL := Aside0.mk (show kL.R 45 _ _ _ _ (lvls ls 0) from HL0)
  have HG0 := Aside0.mk hg1s
  have hz : ((cs.length : Int)).toNat = cs.length := by omega
  rw [hz] at HO1
  clear hz ho ho2 hbw hb2 hg1s hck HLV HL0
  generalize w2.alloc (Obj.cells #[Value.slice (some ⟨g2, 0, none⟩) ls.length c2] 45) = w3 at HB HO1 HO2 HL ⊢
  have HNX : Aside0 (∀ (j : Nat) (W : World) (b1 b2 : Nat) (ok1 ok2 : Nat → Prop) (v1 v2 : Value), j < m → kI.R 48 W b1 ok1 v1 ls → kI.R 48 W b2 ok2 v2 (lvl ls j) → Calls Try.prog 25 #[v1, v2] W fun e w' => ∃ A4 n4 c4, e = .returned (.slice A4 n4 c4) ∧ kI.R 48 w' W.heap.size (fun _ => True) (.slice A4 n4 c4) (lvl ls (j + 1)) ∧ Below W.heap.size W w') := ⟨by
    intro j W b1 b2 ok1 ok2 v1 v2 hj hv1 hv2
    have hll := lvl_length_le ls j
    refine (next_calls hv1 hv2 (by omega) (by omega) (by omega) (by omega) (fun x hx => ?_) (fun x hx => ?_)).mono ?_
    rotate_left 2
    · rintro e w' ⟨v, rfl, ho, hb⟩
      obtain ⟨A2, c2, rfl⟩ := own_slice (flat_own encI_len encI_one (by decide) ho)
      exact ⟨A2, _, c2, rfl, ho, hb⟩
    · have := (HM.out x hx).1.2; omega
    · have h := (lvl_ok (by decide) (fun x hx => (HM.out x hx).1) j x hx).2
      have hpow : (2 : Int) ^ j ≤ 2 ^ 14 := by
        have := Nat.pow_le_pow_right (n := 2) (by decide) (show j ≤ 14 by omega)
        exact_mod_cast this
      have h16 : (4096 : Int) * 2 ^ j ≤ 4096 * 2 ^ 14 := Int.mul_le_mul_of_nonneg_left hpow (by decide)
      have : (4096 : Int) * 2 ^ 14 = 67108864 := by decide
      omega⟩
  go_loopg [11, 47] m (fun kx s11 s47 w' => ∃ (j gL cL : Nat), s47 = .int .i64 j ∧ j ≤ m ∧ m - j ≤ kx ∧ s11 = .slice (some ⟨gL, 0, none⟩) (j + 1) cL ∧ Aside0 (kL.R 45 w' w.heap.size (fun _ => True) (.slice (some ⟨gL, 0, none⟩) (j + 1) cL) (lvls ls j)) ∧ Aside0 ((Kd.int .i64).R 3 w' w.heap.size (fun _ => True) (.slice (some ⟨g1, 0, none⟩) cs.length cap1) (List.replicate cs.length 0)) ∧ Aside0 (kI.R 48 w' w1.heap.size (fun _ => True) (.slice (some ⟨g2, 0, none⟩) ls.length c2) ls) ∧ Aside0 (Below w.heap.size w w'))
  case atStart => exact ⟨0, _, _, rfl, by omega, by omega, rfl, HL, HO1, HO2, HB⟩
  case round =>
    clear HL HO1 HO2 HB
    obtain ⟨j, gL, cL, rfl, hj, hkx, rfl, HL, HO1, HO2, HB⟩ := hrel
    have hll := lvls_length ls j
    by_cases hlt : j < m
    · have hltz : (j : Int) < (m : Int) := by omega
      obtain ⟨gL', cap', hvL, hgL, hgLs, hcell⟩ := rows_form HL.out (by omega)
      injection hvL with e1 e2 e3
      injection e1 with e1
      injection e1 with e1
      subst e1 e3
      obtain ⟨vj, hvj, HVJ⟩ := hcell j (by omega)
      rw [lvls_get ls j j (Nat.le_refl _)] at HVJ
      clear hcell e2
      have hnext := HNX.out j wr _ _ _ _ _ vj hlt HO2.out HVJ
      have hLsz : Hid (lvls ls (j + 1) = lvls ls j ++ [lvl ls (j + 1)]) := lvls_succ ls j
      have HWS := Aside0.mk HB.out.size
      have HKK : Aside0 (∀ k, wr.heap.size ≤ k → (True ∧ some k ≠ (Value.slice (some ⟨gL, 0, none⟩) (j + 1) cL).ownBlock)) := ⟨fun k hk => ⟨trivial, fun he => by
        have h3 : k = gL := by simpa [Value.ownBlock] using he
        omega⟩⟩
      clear HVJ
      go_wp2_with (first | (go_at_call 25; refine hnext.mono ?_; rintro e w4 ⟨A4, n4, c4, rfl, ho4, hb4⟩) | (at_builtin; refine Kd.R_append kL (w0 := w) (W := w4) w.heap.size ?aG (.tmp 49) (.tmp 58) 49 45 (.slice none 0 0) 24 ?aOp Try.underlying49 info45 rfl (by decide) (by omega) (.slice (some ⟨gL, 0, none⟩) (j + 1) cL) (lvls ls j) (lvl ls (j + 1)) [.slice A4 n4 c4] (fun _ => True) (fun b => wr.heap.size ≤ b) ?aV ?aX ?aP ?aK ?aF ?aO ?aB ?aS ?aL ?_; (case aG => rfl); (case aOp => rfl); (case aV => rfl); (case aX => rfl); (case aP => exact ⟨_, rfl, Kd.R_mono (Kd.R_lower (Kd.R_bound ho4) HWS.out) (fun k hk => hk.2.1)⟩); (case aK => exact HKK.out); (case aF => exact fun _ _ => trivial); (case aO => exact Kd.R_below HL.out hb4); (case aB => exact below_then HB.out HB.out.size hb4); (case aS => exact Nat.le_trans HB.out.size hb4.size); (case aL => omega); intro v5 w5 ho5 hb5 hg5 hat5; rw [← hLsz.out] at ho5))
      have HO1b := Aside0.mk (ints_kept (Kd.R_below HO1.out hb4) (Kd.R_below HL.out hb4) hg5 (by decide))
      have HO2b := Aside0.mk (items_kept (Kd.R_below HO2.out hb4) (Kd.R_below HL.out hb4) hg5 (by decide))
      obtain ⟨gN, cN, hv5, _⟩ := rows_form ho5 (by rw [lvls_length]; omega)
      rw [lvls_length] at hv5
      subst hv5
      have HO5 := Aside0.mk ho5
      have HB5 := Aside0.mk hb5
      clear ho5 hb5 hg5 hat5 hb4 ho4 HO1 HO2 HL HB
      go_roundg (m - (j + 1))
      case measure => omega
      case rel => exact ⟨j + 1, gN, cN, by go_num, by omega, Nat.le_refl _, rfl, HO5, HO1b, HO2b, HB5⟩
    · have hltz : ¬ (j : Int) < (m : Int) := by omega
      obtain rfl : j = m := by omega
      have hjb : j ≤ 14 := by omega
      have HTL := HTOP
      have hAcc0 : AccB 0 (List.replicate cs.length (0 : Int)) := fun y hy => by rw [List.mem_replicate] at hy; omega
      have HA0 := Aside0.mk hAcc0
      clear hAcc0 HNX hll hkx hj
      have HNP : Aside0 (∀ k t, k ≤ j → 2 * npk ((lvl ls k).take t) ≤ (if k = 0 then 0 else (lvl ls (k - 1)).length)) := ⟨fun k t hk => by
        have h1 := npk_take_le (lvl ls k) t
        cases k with
        | zero =>
          have := npk_leaves (fun x hx => (HM.out x hx).1) (fun x hx => (HM.out x hx).2)
          rw [if_pos rfl]
          show 2 * npk ((lvl ls 0).take t) ≤ 0
          have h2 : npk (lvl ls 0) = 0 := this
          omega
        | succ k =>
          rw [npk_lvl (fun x hx => (HM.out x hx).2)] at h1
          rw [if_neg (by omega), Nat.add_sub_cancel]
          omega⟩
      have hnsub : ((2 * ls.length - 2 : Nat) : Int) = 2 * (ls.length : Int) - 2 := by omega
      have HNS := Aside0.mk hnsub
      clear hnsub
      go_wp2
      go_loopg [12, 13] (j + 1) (fun kx s12 s13 w' => ∃ (t : Nat) (acc : List Int), s13 = .int .i64 ((kx : Int) - 1) ∧ kx ≤ j + 1 ∧ s12 = .int .i64 (t : Int) ∧ Aside0 (t ≤ if kx = 0 then 0 else (lvl ls (kx - 1)).length) ∧ Aside0 (kL.R 45 w' w.heap.size (fun _ => True) (.slice (some ⟨gL, 0, none⟩) (j + 1) cL) (lvls ls j)) ∧ Aside0 ((Kd.int .i64).R 3 w' w.heap.size (fun _ => True) (.slice (some ⟨g1, 0, none⟩) cs.length cap1) acc) ∧ Aside0 (Below w.heap.size w w') ∧ Aside0 (AccB (((j + 1 - kx) * 100000 : Nat) : Int) acc) ∧ Hid (down (lvl ls) kx t acc = lengthsOf cs (j + 1)))
      case atStart => exact ⟨2 * ls.length - 2, List.replicate cs.length 0, by simp, Nat.le_refl _, by rw [HNS.out], ⟨by rw [if_neg (by omega), Nat.add_sub_cancel]; exact HTL.out⟩, HL, HO1, HB, ⟨HA0.out.mono (by omega)⟩, HS.out.symm⟩
      case round =>
        clear HL HO1 HO2 HB HA0
        obtain ⟨t, acc, rfl, hkx, rfl, HT, HL, HO1, HB, HAB, HD⟩ := hrel
        cases gk with
        | zero =>
          have HD2 : Hid (acc = lengthsOf cs (j + 1)) := HD.out
          clear HD
          go_wp2
          first | go_ret2 | ((try simp only [Exit.inBlock, Exit.then]); go_ret2)
          exact ⟨_, rfl, by rw [← HD2.out]; exact HO1.out, HB.out⟩
        | succ kx =>
          have e1 : ((kx + 1 : Nat) : Int) - 1 = (kx : Int) := by omega
          obtain ⟨gL', cap', hvL, hgL, hgLs, hcell⟩ := rows_form HL.out (by rw [lvls_length]; omega)
          injection hvL with q1 q2 q3
          injection q1 with q1
          injection q1 with q1
          subst q1 q3
          obtain ⟨vk, hvk, HVK0⟩ := hcell kx (by rw [lvls_length]; omega)
          rw [lvls_get ls j kx (by omega)] at HVK0
          have hlen := lvl_length_le ls kx
          obtain ⟨gk, ck, rfl, hck, hgk1, hgk2, _⟩ := kI_form HVK0 (by omega)
          have HVK := Aside0.mk (Kd.R_mono HVK0 (fun _ _ => trivial) : kI.R 48 wr w.heap.size (fun _ => True) _ _)
          have ht0 : t ≤ (lvl ls kx).length := by have := HT.out; rw [if_neg (by omega), Nat.add_sub_cancel] at this; exact this
          obtain ⟨n2, hn2⟩ : ∃ n2, n2 = (lvl ls kx).length := ⟨_, rfl⟩
          rw [← hn2] at hvk hck HVK ht0 hlen
          have HN2 := Aside0.mk hn2
          clear hcell q2 HVK0 hn2 HT
          have htc : (t : Int) ≤ (ck : Int) := by omega
          have hkz : (0 : Int) ≤ (kx : Int) := by omega
          have hkj : (kx : Int) < (j : Int) + 1 := by omega
          go_wp2
          have hbd : t ≤ 2048 := by omega
          have hBB : (((j + 1 - kx) * 100000 : Nat) : Int) = (((j + 1 - (kx + 1)) * 100000 : Nat) : Int) + 100000 := by omega
          have HBB := Aside0.mk hBB
          clear hBB
          have hB1 : ((j + 1 - (kx + 1)) * 100000 : Nat) ≤ 1500000 := by omega
          obtain ⟨B, hBe⟩ : ∃ B : Int, B = (((j + 1 - (kx + 1)) * 100000 : Nat) : Int) := ⟨_, rfl⟩
          have hB2 : 0 ≤ B ∧ B ≤ 1500000 := by omega
          rw [← hBe] at HAB HBB
          clear hBe hB1
          obtain ⟨hB3, hB4⟩ := hB2
          have hu48 := Try.underlying48
          have hacl : acc.length = cs.length := (Kd.R_reads' HO1.out).1.symm
          have HACL := Aside0.mk hacl
          clear hacl
          go_loopg [14, 79] t (fun ky s14 s79 w' => ∃ (i : Nat), s79 = .int .i64 (i : Int) ∧ i ≤ t ∧ t - i ≤ ky ∧ s14 = .int .i64 ((pass ((lvl ls kx).take i) (acc, 0)).2 : Int) ∧ Aside0 ((Kd.int .i64).R 3 w' w.heap.size (fun _ => True) (.slice (some ⟨g1, 0, none⟩) cs.length cap1) (pass ((lvl ls kx).take i) (acc, 0)).1) ∧ Aside0 (AccB (B + i) (pass ((lvl ls kx).take i) (acc, 0)).1) ∧ Aside0 (kL.R 45 w' w.heap.size (fun _ => True) (.slice (some ⟨gL, 0, none⟩) (j + 1) cL) (lvls ls j)) ∧ Aside0 (kI.R 48 w' w.heap.size (fun _ => True) (.slice (some ⟨gk, 0, none⟩) n2 ck) (lvl ls kx)) ∧ Aside0 (Below w.heap.size w w'))
          case atStart => exact ⟨0, rfl, by omega, by omega, rfl, HO1, ⟨HAB.out.mono (by omega)⟩, HL, HVK, HB⟩
          case round =>
            clear HO1 HAB HL HVK HB hvk hgLs hgk2
            obtain ⟨i, rfl, hi, hky, rfl, HO1, HAB, HL, HVK, HB⟩ := hrel
            have hp2 : (pass ((lvl ls kx).take i) (acc, 0)).2 ≤ i := by
              rw [pass_npk]
              have h1 : npk ((lvl ls kx).take i) ≤ ((lvl ls kx).take i).length := List.countP_le_length
              have h2 : ((lvl ls kx).take i).length ≤ i := List.length_take_le _ _
              omega
            by_cases hlt : i < t
            · have hltz : (i : Int) < (t : Int) := by omega
              have hil : i < (lvl ls kx).length := by rw [← HN2.out]; omega
              obtain ⟨gk', ck', hvk, _, _, _, hcell⟩ := kI_form HVK.out (by omega)
              injection hvk with q1 q2 q3
              injection q1 with q1
              injection q1 with q1
              subst q1 q3
              obtain ⟨k0, k1, k2, k3⟩ := hcell i hil
              clear hcell q2
              have hsn : Hid (pass ((lvl ls kx).take (i + 1)) (acc, 0) = stepI (pass ((lvl ls kx).take i) (acc, 0)) ((lvl ls kx).getD i default)) := by
                show _ = _
                rw [List.take_succ_eq_append_getElem hil, pass_snoc]
                congr 1
                simp [hil]
              have hok := (lvl_ok (by decide) (fun x hx => (HM.out x hx).1) kx ((lvl ls kx).getD i default) (by rw [List.getD_eq_getElem?_getD, List.getElem?_eq_getElem hil]; exact List.getElem_mem _)).1
              have hstp : AccB (B + i + 1) (stepI (pass ((lvl ls kx).take i) (acc, 0)) ((lvl ls kx).getD i default)).1 := HAB.out.step (by omega) (by rw [pass_len]; show _ < (acc.length : Int); rw [HACL.out]; omega)
              rw [← hsn.out] at hstp
              have HSTP := Aside0.mk hstp
              clear hstp
              have hpl : (pass ((lvl ls kx).take i) (acc, 0)).1.length = cs.length := by rw [pass_len]; exact HACL.out
              have HPL := Aside0.mk hpl
              clear hpl
              generalize (lvl ls kx).getD i default = x at k0 k1 k2 k3 hsn hok
              obtain ⟨xw, xs, xl, xr⟩ := x
              simp only at k0 k1 k2 k3 hok
              generalize pass ((lvl ls kx).take i) (acc, 0) = st at HO1 HAB hsn hp2 HPL ⊢
              obtain ⟨ac, p⟩ := st
              simp only at HO1 HAB hp2 HPL ⊢
              have HOB := own_typed (Kd.own_of_R HO1.out) g1 rfl
              by_cases hx0 : 0 ≤ xs
              · have hxc : xs < (cs.length : Int) := by omega
                have hrd := HAB.out.rd hx0 (by rw [HPL.out]; omega)
                have HO1a := Aside0.mk (Kd.R_alloc HO1.out (.cells #[.int .i64 xw, .int .i64 xs, .int .i64 xl, .int .i64 xr] 48))
                obtain ⟨kc, kf⟩ := Kd.R_celln (0 : Int) HO1a.out xs hx0 hxc
                have hsn2 : Hid (pass ((lvl ls kx).take (i + 1)) (acc, 0) = (ac.set xs.toNat (rd ac xs + 1), p)) := by
                  show _ = _
                  rw [hsn.out]
                  unfold stepI
                  rw [if_pos hx0]
                change (wr.alloc _).cell? ⟨g1, xs.toNat, none⟩ = some (.int .i64 (rd ac xs)) at kc
                generalize rd ac xs = y at kc hrd hsn2
                obtain ⟨hy0, hy1⟩ := hrd
                clear hok hsn
                go_wp2
                obtain ⟨cellsB, hcB⟩ := HOB
                have hcB2 : (wr.alloc (.cells #[.int .i64 xw, .int .i64 xs, .int .i64 xl, .int .i64 xr] 48)).heap[g1]? = some (.cells cellsB 3 (0, 0)) := (below_alloc (Below.refl wr.heap.size wr) _).block g1 (Array.getElem?_eq_some_iff.1 hcB).1 ▸ hcB
                go_roundg (t - (i + 1))
                case measure => omega
                case rel =>
                  refine ⟨i + 1, by go_num, by omega, Nat.le_refl _, by rw [hsn2.out], ⟨by rw [hsn2.out]; exact Kd.R_putn HO1a.out xs (y + 1)⟩, ⟨HSTP.out.mono (by omega)⟩, ⟨Kd.R_set (Kd.R_alloc HL.out _) hcB2 (by decide) _ _⟩, ⟨Kd.R_set (Kd.R_alloc HVK.out _) hcB2 (by decide) _ _⟩, ⟨below_set (below_alloc' HB.out _) hg1⟩⟩
              · have hsn2 : Hid (pass ((lvl ls kx).take (i + 1)) (acc, 0) = (ac, p + 1)) := by
                  show _ = _
                  rw [hsn.out]
                  unfold stepI
                  rw [if_neg hx0]
                have hp3 : (p : Int) ≤ 2048 := by omega
                clear hok hsn
                go_wp2
                go_roundg (t - (i + 1))
                case measure => omega
                case rel =>
                  refine ⟨i + 1, by go_num, by omega, Nat.le_refl _, by rw [hsn2.out]; go_num, ⟨by rw [hsn2.out]; exact Kd.R_alloc HO1.out _⟩, ⟨HSTP.out.mono (by omega)⟩, ⟨Kd.R_alloc HL.out _⟩, ⟨Kd.R_alloc HVK.out _⟩, ⟨below_alloc' HB.out _⟩⟩
            · have hltz : ¬ (i : Int) < (t : Int) := by omega
              obtain rfl : i = t := by omega
              have hnp := HNP.out kx i (by omega)
              have hst2 : (pass ((lvl ls kx).take i) (acc, 0)).2 = npk ((lvl ls kx).take i) := by rw [pass_npk]; simp
              rw [← hst2] at hnp
              have HNPK := Aside0.mk hnp
              clear hnp hst2
              have HD2 : Hid (down (lvl ls) kx (2 * (pass ((lvl ls kx).take i) (acc, 0)).2) (pass ((lvl ls kx).take i) (acc, 0)).1 = lengthsOf cs (j + 1)) := HD.out
              clear HD
              generalize pass ((lvl ls kx).take i) (acc, 0) = st at HO1 HAB hp2 HNPK HD2 ⊢
              obtain ⟨ac, p⟩ := st
              simp only at HO1 HAB hp2 HNPK HD2 ⊢
              go_wp2
              go_roundg kx
              case measure => omega
              case rel =>
                refine ⟨2 * p, ac, by first | rfl | (congr 1; omega), by omega, by go_num, HNPK, HL, HO1, HB, ⟨HAB.out.mono ?_⟩, HD2⟩
                have := HBB.out
                omega

/-- huffman.Lengths, whatever its arguments. -/
theorem lengths_calls (A : Option Addr) (c : Nat) (cs : List Int) (limit : Int) (w : World) (hr : Kd.C (Kd.int .i64) w A cs.length cs) :
    Calls Try.prog 12 #[.slice A cs.length c, .int .i64 limit] w fun e w' => ∃ v, e = .returned (.tuple #[v, .int .i64 (checkOf cs limit)]) ∧ (Kd.int .i64).R 3 w' w.heap.size (fun _ => True) v (if checkOf cs limit = 0 then lengthsOf cs limit.toNat else []) ∧ Below w.heap.size w w' := by
  by_cases hE : checkOf cs limit = 0
  · rw [if_pos hE, hE]
    by_cases hf : (leavesOf cs).length < 2
    · exact lengths_few A c cs limit w hr hE hf
    · exact lengths_many A c cs limit w hr hE hf
  · rw [if_neg hE]
    refine (lengths_refused A c cs limit w hr hE).mono ?_
    rintro e w' ⟨rfl, rfl⟩
    exact ⟨_, rfl, Kd.R_nil _ _ _ _ _, Below.refl _ _⟩
end Go.Proofs.Ytdmhhgkplcaejaa
