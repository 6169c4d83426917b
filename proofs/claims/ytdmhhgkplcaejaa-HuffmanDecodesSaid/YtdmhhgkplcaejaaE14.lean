/- The reference's Codes walked. -/
import Derived.Test.YtdmhhgkplcaejaaE4
import Derived.Test.YtdmhhgkplcaejaaE12
import Derived.Test.YtdmhhgkplcaejaaE13
import Derived.OwnWalk
namespace Go.Proofs.Ytdmhhgkplcaejaa
open Go.RowKit Go.Sort Go.Proofs.YtdmhhgkplcaejaaW.PrintWords

theorem eqs_drop (n : Int) (ls : List Int) (i : Nat) (h : i < ls.length) : eqs n i (ls.drop i) = if rd ls i = n then (i : Int) :: eqs n (i + 1) (ls.drop (i + 1)) else eqs n (i + 1) (ls.drop (i + 1)) := by
  rw [List.drop_eq_getElem_cons h, eqs, rd_nat _ _ h]
theorem drop_cons {l r : List Int} {k : Nat} {x : Int} (h : l.drop k = x :: r) : k < l.length ∧ rd l k = x ∧ l.drop (k + 1) = r := by
  have hk : k < l.length := by
    rcases Nat.lt_or_ge k l.length with h1 | h1
    · exact h1
    · rw [List.drop_eq_nil_of_le h1] at h; cases h
  rw [List.drop_eq_getElem_cons hk] at h
  injection h with h1 h2
  exact ⟨hk, by rw [rd_nat _ _ hk]; exact h1, h2⟩

set_option maxHeartbeats 4000000 in
set_option maxRecDepth 100000 in
theorem refCodes_valid (A : Option Addr) (c : Nat) (ls : List Int) (w : World) (hr : Kd.C (Kd.int .i64) w A ls.length ls) (hv : validOf ls = true) :
    Calls Try.prog 20 #[.slice A ls.length c] w fun e w' => ∃ v, e = .returned (.tuple #[v, .int .i64 0]) ∧ (Kd.int .u64).R 39 w' w.heap.size (fun _ => True) v (codesOf ls) ∧ Below w.heap.size w w' := by
  have HI := Aside0.mk (inOrd hv)
  obtain ⟨hn, hok, _⟩ := valid_ok hv
  have hvc := refValid_calls A c ls w hr
  rw [hv] at hvc
  have HR := Aside0.mk hr
  have HG := Aside0.mk (gr_order hok)
  have HC : Hid (codesOf ls = fillC ls (orderOf ls) (orderOf ls).length) := rfl
  clear hr hok hv
  generalize codesOf ls = res at HC ⊢
  generalize orderOf ls = l at *
  go_enter Try.func20, Try.ntmps20
  go_wp2_with (first | (go_at_call 35; refine hvc.mono ?_; rintro e w' ⟨rfl, rfl⟩) | ((with_reducible refine gate_dst (N := 15) rfl ?_); refine Kd.R_make (Kd.int .u64) (w0 := w) w.heap.size 39 rfl (N := 15) rfl 36 _ _ rfl (ls.length : Int) rfl rfl Try.underlying36 (.int .u64 0) 8 info39 rfl (by decide) (by omega) (0 : Int) (ok := fun _ => True) (okp := fun _ => True) rfl (fun _ hk => hk) trivial (by omega) (by omega) (Below.refl _ _) (Nat.le_refl _) ?_; intro v1 w1 ho hbw hg hat; obtain ⟨g1, cap1, rfl, hcap1, hg1, hg1s⟩ := ints_form (n := ls.length) ho (by obtain ⟨b, hb, _⟩ := hat; exact ⟨b, hb⟩) (by simp); clear hg hat))
  have hz : ((ls.length : Int)).toNat = ls.length := by omega
  rw [hz] at ho
  clear hz hvc
  have HO1 := Aside0.mk ho
  have HB := Aside0.mk hbw
  clear ho hbw
  go_loopg [5, 6, 7] 15 (fun kx s5 s6 s7 w' => ∃ (j k : Nat) (u b : Int), s5 = .int .u64 u ∧ s6 = .int .i64 b ∧ s7 = .int .i64 (16 - (j : Int)) ∧ j ≤ 15 ∧ j ≤ kx ∧ Hid (l.drop k = gr ls j) ∧ Hid (k = 0 → u = 0 ∧ b = 0) ∧ Hid (0 < k → k ≤ l.length ∧ u = cd ls l (k - 1) ∧ b = rd ls (rd l (k - 1 : Nat))) ∧ Aside0 ((Kd.int .u64).R 39 w' w.heap.size (fun _ => True) (.slice (some ⟨g1, 0, none⟩) ls.length cap1) (fillC ls l k)) ∧ Aside0 (Below w.heap.size w w'))
  case atStart => exact ⟨15, 0, 0, 0, rfl, rfl, rfl, by omega, by omega, HG.out.symm, fun _ => ⟨rfl, rfl⟩, fun h => absurd h (by omega), HO1, HB⟩
  case round =>
    clear HO1 HB HG
    obtain ⟨j, k, u, b, rfl, rfl, rfl, hj, hjx, HD, HZ, HP, HO1, HB⟩ := hrel
    cases j with
    | zero =>
      have HL : Hid (res = fillC ls l k) := by
        show _ = _
        have h0 : l.length ≤ k := List.drop_eq_nil_iff.1 HD.out
        rw [HC.out]
        congr 1
        rcases Nat.eq_zero_or_pos k with h | h
        · omega
        · have := (HP.out h).1; omega
      go_wp2
      go_ret2
      exact ⟨_, rfl, by rw [HL.out]; exact HO1.out, HB.out⟩
    | succ j =>
      obtain ⟨n, hn16⟩ : ∃ n : Nat, n = 15 - j := ⟨_, rfl⟩
      have hn1 : 16 - ((j + 1 : Nat) : Int) = (n : Int) := by omega
      have hn15 : (n : Int) ≤ 15 := by omega
      have hn0 : 1 ≤ (n : Int) := by omega
      have HD0 : Hid (l.drop k = eqs n 0 (ls.drop 0) ++ gr ls j) := by show _ = _; rw [HD.out, List.drop_zero, gr, hn16]
      have hjn : (j : Int) = 15 - (n : Int) := by omega
      rw [hn1]
      clear hn1 hn16
      go_wp2
      go_loopg [5, 6, 22] ls.length (fun kx s5 s6 s22 w' => ∃ (i k : Nat) (u b : Int), s22 = .int .i64 i ∧ s5 = .int .u64 u ∧ s6 = .int .i64 b ∧ i ≤ ls.length ∧ ls.length - i ≤ kx ∧ Hid (l.drop k = eqs n i (ls.drop i) ++ gr ls j) ∧ Hid (k = 0 → u = 0 ∧ b = 0) ∧ Hid (0 < k → k ≤ l.length ∧ u = cd ls l (k - 1) ∧ b = rd ls (rd l (k - 1 : Nat))) ∧ Aside0 ((Kd.int .u64).R 39 w' w.heap.size (fun _ => True) (.slice (some ⟨g1, 0, none⟩) ls.length cap1) (fillC ls l k)) ∧ Aside0 (Below w.heap.size w w'))
      case atStart => exact ⟨0, k, u, b, rfl, rfl, rfl, by omega, by omega, HD0, HZ, HP, HO1, HB⟩
      case round =>
        clear HO1 HB HD0 HZ HP HD
        obtain ⟨i, k, u, b, rfl, rfl, rfl, hi, hix, HD, HZ, HP, HO1, HB⟩ := hrel
        by_cases hlt : i < ls.length
        · have hltz : (i : Int) < (ls.length : Int) := by omega
          obtain ⟨ad, rfl, hx⟩ := int_at HR.out i hlt
          replace hx := (HB.out.cell (World.block_lt_of_cell? w _ hx)).trans hx
          have HE : Hid (eqs n i (ls.drop i) = if rd ls i = n then (i : Int) :: eqs n (i + 1) (ls.drop (i + 1)) else eqs n (i + 1) (ls.drop (i + 1))) := eqs_drop n ls i hlt
          by_cases hy : rd ls i = n
          · have HD2 : Hid (l.drop k = (i : Int) :: (eqs n (i + 1) (ls.drop (i + 1)) ++ gr ls j)) := by show _ = _; rw [HD.out, HE.out, if_pos hy]; rfl
            obtain ⟨hkl, hki, hkd⟩ := drop_cons HD2.out
            have HKD : Hid (l.drop (k + 1) = eqs n (i + 1) (ls.drop (i + 1)) ++ gr ls j) := hkd
            have HFL : Hid (fillC ls l (k + 1) = (fillC ls l k).set i (cd ls l k : Int)) := by show _ = _; rw [fillC, hki, Int.toNat_natCast]
            have hcs := HI.out.cd_small hkl
            have HPN : Hid (0 < k + 1 → k + 1 ≤ l.length ∧ (cd ls l k : Int) = cd ls l (k + 1 - 1) ∧ (n : Int) = rd ls (rd l (k + 1 - 1 : Nat))) := fun _ => ⟨hkl, rfl, by show _ = rd ls (rd l (k : Int)); rw [hki, hy]⟩
            obtain ⟨kc, kf⟩ := Kd.R_celln (0 : Int) HO1.out (i : Int) (by omega) hltz
            rw [Int.toNat_natCast] at kc kf
            rw [hy] at hx
            have hne : ((n : Int) != (n : Int)) = false := by simp
            by_cases hk0 : 0 < k
            · obtain ⟨_, hu, hb⟩ := HP.out hk0
              have hcp := HI.out.cd_small (k := k - 1) (by omega)
              have hmn := HI.out.mono (k - 1) (by omega)
              have hpp := HI.out.pos (k - 1) (by omega)
              rw [show k - 1 + 1 = k by omega, ← hb, hki, hy] at hmn
              rw [← hb] at hpp
              have hsh : (u + 1) * 2 ^ ((n : Int) - b).toNat = (cd ls l k : Int) := by
                have e1 : cd ls l k = (cd ls l (k - 1) + 1) * 2 ^ (ln ls l k - ln ls l (k - 1)) := by
                  conv => lhs; rw [show k = k - 1 + 1 by omega, cd]
                  rw [show k - 1 + 1 = k by omega]
                have e2 : ln ls l k - ln ls l (k - 1) = ((n : Int) - b).toNat := by
                  unfold ln
                  rw [← hb, hki, hy]
                  omega
                rw [e1, e2, hu]
                push_cast
                rfl
              have hu0 : 0 ≤ u ∧ u + 1 ≤ 32768 := by omega
              have hu1 : 0 ≤ (cd ls l k : Int) ∧ (cd ls l k : Int) ≤ 32768 := by omega
              obtain ⟨hb0, hb15⟩ := hpp
              clear hu hb hcp hcs HP HZ hy hki hkd HE HD HD2
              generalize (cd ls l k : Int) = u' at *
              have hyb0 : 0 ≤ (n : Int) - b := by omega
              have hyb1 : (n : Int) - b ≤ 64 := by omega
              have hbz : (b == 0) = false := by rw [beq_eq_false_iff_ne]; omega
              go_wp2
              go_roundg (ls.length - (i + 1))
              case measure => omega
              case rel => exact ⟨i + 1, k + 1, u', n, by go_num, rfl, rfl, by omega, Nat.le_refl _, HKD, fun h => absurd h (by omega), HPN, ⟨by rw [HFL.out]; exact Kd.R_putn HO1.out (i : Int) u'⟩, ⟨below_set HB.out hg1⟩⟩
            · obtain ⟨hu, hb⟩ := HZ.out (by omega)
              have hcz : (cd ls l k : Int) = 0 := by rw [show k = 0 by omega]; rfl
              subst hu hb
              rw [hcz] at HFL HPN
              clear HP HZ hcs hcz hy hki hkd HE HD HD2
              go_wp2
              go_roundg (ls.length - (i + 1))
              case measure => omega
              case rel => exact ⟨i + 1, k + 1, 0, n, by go_num, rfl, rfl, by omega, Nat.le_refl _, HKD, fun h => absurd h (by omega), HPN, ⟨by rw [HFL.out]; exact Kd.R_putn HO1.out (i : Int) 0⟩, ⟨below_set HB.out hg1⟩⟩
          · have HD2 : Hid (l.drop k = eqs n (i + 1) (ls.drop (i + 1)) ++ gr ls j) := by show _ = _; rw [HD.out, HE.out, if_neg hy]
            have hne : (rd ls i != (n : Int)) = true := by simp [hy]
            generalize rd ls (i : Int) = x at *
            clear hy HE HD
            go_wp2
            go_roundg (ls.length - (i + 1))
            case measure => omega
            case rel => exact ⟨i + 1, k, u, b, by go_num, rfl, rfl, by omega, Nat.le_refl _, HD2, HZ, HP, HO1, HB⟩
        · have hltz : ¬ (i : Int) < (ls.length : Int) := by omega
          have HD2 : Hid (l.drop k = gr ls j) := by show _ = _; rw [HD.out, List.drop_eq_nil_of_le (by omega)]; rfl
          clear HD
          go_wp2
          go_roundg j
          case measure => omega
          case rel => exact ⟨j, k, u, b, rfl, rfl, by congr 1; omega, by omega, Nat.le_refl _, HD2, HZ, HP, HO1, HB⟩

/-- The reference's Codes. -/
theorem refCodes_calls (A : Option Addr) (c : Nat) (ls : List Int) (w : World) (hr : Kd.C (Kd.int .i64) w A ls.length ls) :
    Calls Try.prog 20 #[.slice A ls.length c] w fun e w' => ∃ v, e = .returned (.tuple #[v, .int .i64 (if validOf ls then 0 else 1)]) ∧ (Kd.int .u64).R 39 w' w.heap.size (fun _ => True) v (if validOf ls then codesOf ls else []) ∧ Below w.heap.size w w' := by
  by_cases h : validOf ls = true
  · rw [if_pos h, if_pos h]
    exact refCodes_valid A c ls w hr h
  · have hv := refValid_calls A c ls w hr
    rw [if_neg h, if_neg h]
    rw [Bool.eq_false_iff.2 h] at hv
    clear hr h
    go_enter Try.func20, Try.ntmps20
    go_wp2_with (first | (go_at_call 35; refine hv.mono ?_; rintro e w' ⟨rfl, rfl⟩))
    go_ret2
    exact ⟨_, rfl, Kd.R_nil _ _ _ _ _, Below.refl _ _⟩
end Go.Proofs.Ytdmhhgkplcaejaa
