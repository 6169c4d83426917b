/- The law HuffmanComplete walked: it returns true. -/
import Derived.Test.YtdmhhgkplcaejaaPM7
import Derived.Test.YtdmhhgkplcaejaaH7
import Derived.Test.YtdmhhgkplcaejaaE11
namespace Go.Proofs.Ytdmhhgkplcaejaa
open Go.RowKit Go.Sort Go.Proofs.YtdmhhgkplcaejaaW.PrintWords

theorem pow_bounds (a b : Int) (hb : b ≤ 15) (ha : a ≤ b) : 1 ≤ (2 : Int) ^ a.toNat ∧ (2 : Int) ^ a.toNat ≤ 32768 := by
  have h1 : 1 ≤ 2 ^ a.toNat := Nat.one_le_two_pow
  have h2 := Nat.pow_le_pow_right (n := 2) (by decide) (show a.toNat ≤ 15 by omega)
  have h1' : (1 : Int) ≤ (2 : Int) ^ a.toNat := by exact_mod_cast h1
  have h2' : (2 : Int) ^ a.toNat ≤ (2 : Int) ^ 15 := by exact_mod_cast h2
  have h3 : (2 : Int) ^ 15 = 32768 := by decide
  omega
theorem kr_le {cs rs : List Int} {m : Int} (h : Fine cs m rs) (j : Nat) (hj : j < cs.length) : 0 ≤ kr cs rs m j ∧ kr cs rs m j ≤ 32768 := by
  unfold kr
  split
  · rename_i h0
    have h1 := h.pos j hj h0
    have h2 := h.lim
    have := pow_bounds (m - rd rs j) 15 (by omega) (by omega)
    omega
  · omega
theorem one_le (cs : List Int) (j : Nat) : 0 ≤ one cs j ∧ one cs j ≤ 1 := by unfold one; split <;> omega

set_option maxHeartbeats 4000000 in
set_option maxRecDepth 100000 in
theorem complete_law (A : Option Addr) (c : Nat) (cs : List Int) (limit : Int) (w : World) (hr : Kd.C (Kd.int .i64) w A cs.length cs) :
    Calls Try.prog 5 #[.slice A cs.length c, .int .i64 limit] w fun e w' => e = .returned (.bool true) ∧ Below w.heap.size w w' := by
  have hn := hr.2.1
  by_cases h60 : 60 < cs.length
  · have hz : decide ((60 : Int) < (cs.length : Int)) = true := decide_eq_true (by omega)
    clear hr
    go_enter Try.func5, Try.ntmps5
    go_wp2
    go_ret
    exact ⟨rfl, Below.refl _ _⟩
  · have hz : decide ((60 : Int) < (cs.length : Int)) = false := decide_eq_false (by omega)
    have hchk := refCheck_calls A c cs limit w hr hn
    by_cases hck : checkOf cs limit = 0
    · have HL := fine_holds hck
      have hlen := lengths_calls A c cs limit w hr
      rw [if_pos hck] at hlen
      rw [hck] at hlen hchk
      clear hck
      generalize lengthsOf cs limit.toNat = rs at *
      have HR := Aside0.mk hr
      clear hr
      have hne : ((rs.length : Int) != (cs.length : Int)) = false := by simp [HL.len]
      have hlim := HL.lim
      have HF := Aside0.mk HL
      clear HL
      go_enter Try.func5, Try.ntmps5
      go_wp2_with (first | (go_at_call 16; refine hchk.mono ?_; rintro e w0 ⟨rfl, rfl⟩) | (go_at_call 12; refine hlen.mono ?_; rintro e w1 ⟨v1, rfl, ho1, hb1⟩; obtain ⟨A1, c1, rfl⟩ := own_slice (Kd.own_of_R ho1)))
      have HC1 := Aside0.mk (Kd.R_reads' ho1).2.2
      have HB1 := Aside0.mk hb1
      have hs1 := hb1.size
      clear hchk hlen ho1 hb1
      go_loopg [7, 8, 39] cs.length (fun kx s7 s8 s39 w' => ∃ (i : Nat), s39 = .int .i64 i ∧ i ≤ cs.length ∧ cs.length - i ≤ kx ∧ s7 = .int .i64 (psum (kr cs rs limit) i) ∧ s8 = .int .i64 (psum (one cs) i) ∧ Aside0 (Below w1.heap.size w1 w'))
      case atStart => exact ⟨0, rfl, by omega, by omega, rfl, rfl, ⟨Below.refl _ _⟩⟩
      case round =>
        obtain ⟨i, rfl, hi, hix, rfl, rfl, HB2⟩ := hrel
        have hps := psum_le (kr cs rs limit) 32768 i (fun j hj => kr_le HF.out j (by omega))
        have hp1 := psum_le (one cs) 1 i (fun j _ => one_le cs j)
        by_cases hlt : i < cs.length
        · have hltz : (i : Int) < (cs.length : Int) := by omega
          have hltr : (i : Int) < (rs.length : Int) := by rw [HF.out.len]; exact hltz
          obtain ⟨ad, rfl, hx⟩ := int_at HR.out i hlt
          replace hx := ((below_then HB1.out hs1 HB2.out).cell (World.block_lt_of_cell? w _ hx)).trans hx
          obtain ⟨bd, rfl, hy⟩ := int_at (Kd.C_below HC1.out HB2.out) i (by rw [HF.out.len]; exact hlt)
          have hcn := HF.out.cnt i hlt
          have hpo := HF.out.pos i hlt
          have hze := HF.out.zero i hlt
          have hkr : Hid (psum (kr cs rs limit) (i + 1) = psum (kr cs rs limit) i + kr cs rs limit i) := rfl
          have hk1 : Hid (psum (one cs) (i + 1) = psum (one cs) i + one cs i) := rfl
          have hkri : Hid (kr cs rs limit i = if 0 < rd cs i then 2 ^ (limit - rd rs i).toNat else 0) := rfl
          have hk1i : Hid (one cs i = if 0 < rd cs i then 1 else 0) := rfl
          have HM := Aside0.mk (HF.out.mono i · hlt)
          have p0 : (0 : Int) ≤ (i : Int) := by omega
          have HRI := Aside0.mk (show rd rs i = rd rs i from rfl)
          have hrl : rd rs i ≤ limit := by
            rcases Int.lt_or_le 0 (rd cs i) with h | h
            · exact (hpo h).2
            · rw [hze (by omega)]; omega
          generalize rd cs (i : Int) = cc at *
          generalize hRr : rd rs (i : Int) = r at hpo hze hkri HM hy hrl
          replace HRI : Aside0 (rd rs (i : Int) = r) := ⟨hRr⟩
          clear hRr
          generalize psum (kr cs rs limit) i = K7 at *
          generalize psum (one cs) i = K8 at *
          have e3 : decide (limit < r) = false := decide_eq_false (by omega)
          have e3' : decide (r > limit) = false := decide_eq_false (by omega)
          by_cases hc : 0 < cc
          · obtain ⟨q1, q2⟩ := hpo hc
            have e0 : decide (0 < cc) = true := decide_eq_true hc
            have e0' : decide (cc > 0) = true := decide_eq_true hc
            have e1 : decide (0 < r) = true := decide_eq_true (by omega)
            have e1' : decide (r > 0) = true := decide_eq_true (by omega)
            have e2 : decide (r < 0) = false := decide_eq_false (by omega)
            have hP0 := pow_bounds (limit - r) 15 (by omega) (by omega)
            replace hkri : Hid (psum (kr cs rs limit) (i + 1) = K7 + 2 ^ (limit - r).toNat) := by show _ = _; rw [hkr.out, hkri.out, if_pos hc]
            replace hk1i : Hid (psum (one cs) (i + 1) = K8 + 1) := by show _ = _; rw [hk1.out, hk1i.out, if_pos hc]
            clear hpo hze hkr hk1
            generalize hP : (2 : Int) ^ (limit - r).toNat = P at hP0 hkri
            go_wp2
            go_loopg [83] cs.length (fun kx s83 w' => ∃ (k : Nat), s83 = .int .i64 k ∧ k ≤ cs.length ∧ cs.length - k ≤ kx ∧ Aside0 (Below w1.heap.size w1 w'))
            case atStart => exact ⟨0, rfl, by omega, by omega, HB2⟩
            case round =>
              clear HB2 hx hy
              obtain ⟨k, rfl, hk, hkx, HB2⟩ := hrel
              by_cases hlk : k < cs.length
              · have hlkz : (k : Int) < (cs.length : Int) := by omega
                have hlkr : (k : Int) < (rs.length : Int) := by rw [HF.out.len]; exact hlkz
                obtain ⟨ad', hE, hx⟩ := int_at HR.out k hlk
                injection hE with hE
                subst hE
                replace hx := ((below_then HB1.out hs1 HB2.out).cell (World.block_lt_of_cell? w _ hx)).trans hx
                obtain ⟨bd', hE, hy⟩ := int_at (Kd.C_below HC1.out HB2.out) k (by rw [HF.out.len]; exact hlk)
                injection hE with hE
                subst hE
                obtain ⟨bd', hE, hyi⟩ := int_at (Kd.C_below HC1.out HB2.out) i (by rw [HF.out.len]; exact hlt)
                injection hE with hE
                subst hE
                rw [HRI.out] at hyi
                have hmo := HM.out k hlk
                have p1 : (0 : Int) ≤ (k : Int) := by omega
                generalize rd cs (k : Int) = d at *
                generalize rd rs (k : Int) = rk at *
                by_cases g1 : d < cc
                · have d1 : decide (d < cc) = true := decide_eq_true g1
                  have d1' : decide (cc > d) = true := decide_eq_true g1
                  by_cases g2 : 0 < d
                  · have d2 : decide (0 < d) = true := decide_eq_true g2
                    have d2' : decide (d > 0) = true := decide_eq_true g2
                    have g3 := hmo g2 g1
                    have d3 : decide (rk < r) = false := decide_eq_false (by omega)
                    have d3' : decide (r > rk) = false := decide_eq_false (by omega)
                    clear hmo
                    go_wp2_with fail
                    go_quiet (fail)
                    have HB3 : Aside0 (Below w1.heap.size w1 (wr.drewN nq)) := ⟨pw_below_drewN HB2.out nq⟩
                    clear HB2 hx hy hyi
                    generalize wr.drewN nq = w3 at HB3 ⊢
                    go_wp2
                    go_roundg (cs.length - (k + 1))
                    case measure => omega
                    case rel => exact ⟨k + 1, by go_num, by omega, Nat.le_refl _, HB3⟩
                  · have d2 : decide (0 < d) = false := decide_eq_false g2
                    have d2' : decide (d > 0) = false := decide_eq_false g2
                    clear hmo
                    go_wp2_with fail
                    go_quiet (fail)
                    have HB3 : Aside0 (Below w1.heap.size w1 (wr.drewN nq)) := ⟨pw_below_drewN HB2.out nq⟩
                    clear HB2 hx hy hyi
                    generalize wr.drewN nq = w3 at HB3 ⊢
                    go_wp2
                    go_roundg (cs.length - (k + 1))
                    case measure => omega
                    case rel => exact ⟨k + 1, by go_num, by omega, Nat.le_refl _, HB3⟩
                · have d1 : decide (d < cc) = false := decide_eq_false g1
                  have d1' : decide (cc > d) = false := decide_eq_false g1
                  clear hmo
                  go_wp2_with fail
                  go_quiet (fail)
                  have HB3 : Aside0 (Below w1.heap.size w1 (wr.drewN nq)) := ⟨pw_below_drewN HB2.out nq⟩
                  clear HB2 hx hy hyi
                  generalize wr.drewN nq = w3 at HB3 ⊢
                  go_wp2
                  go_roundg (cs.length - (k + 1))
                  case measure => omega
                  case rel => exact ⟨k + 1, by go_num, by omega, Nat.le_refl _, HB3⟩
              · have hlkz : ¬ (k : Int) < (cs.length : Int) := by omega
                go_wp2
                go_roundg (cs.length - (i + 1))
                case measure => omega
                case rel => exact ⟨i + 1, by go_num, by omega, Nat.le_refl _, by rw [hkri.out], by rw [hk1i.out], HB2⟩
          · have hc0 : cc = 0 := by omega
            have hr0 := hze hc0
            have e0 : decide (0 < cc) = false := decide_eq_false hc
            have e0' : decide (cc > 0) = false := decide_eq_false hc
            have e1 : decide (0 < r) = false := decide_eq_false (by omega)
            have e1' : decide (r > 0) = false := decide_eq_false (by omega)
            have e2 : decide (r < 0) = false := decide_eq_false (by omega)
            replace hkri : Hid (psum (kr cs rs limit) (i + 1) = K7) := by show _ = _; rw [hkr.out, hkri.out, if_neg hc]; omega
            replace hk1i : Hid (psum (one cs) (i + 1) = K8) := by show _ = _; rw [hk1.out, hk1i.out, if_neg hc]; omega
            clear hpo hze hkr hk1 hc0 hr0
            go_wp2
            go_loopg [83] cs.length (fun kx s83 w' => ∃ (k : Nat), s83 = .int .i64 k ∧ k ≤ cs.length ∧ cs.length - k ≤ kx ∧ Aside0 (Below w1.heap.size w1 w'))
            case atStart => exact ⟨0, rfl, by omega, by omega, HB2⟩
            case round =>
              clear HB2 hx hy
              obtain ⟨k, rfl, hk, hkx, HB2⟩ := hrel
              by_cases hlk : k < cs.length
              · have hlkz : (k : Int) < (cs.length : Int) := by omega
                have hlkr : (k : Int) < (rs.length : Int) := by rw [HF.out.len]; exact hlkz
                obtain ⟨ad', hE, hx⟩ := int_at HR.out k hlk
                injection hE with hE
                subst hE
                replace hx := ((below_then HB1.out hs1 HB2.out).cell (World.block_lt_of_cell? w _ hx)).trans hx
                obtain ⟨bd', hE, hy⟩ := int_at (Kd.C_below HC1.out HB2.out) k (by rw [HF.out.len]; exact hlk)
                injection hE with hE
                subst hE
                obtain ⟨bd', hE, hyi⟩ := int_at (Kd.C_below HC1.out HB2.out) i (by rw [HF.out.len]; exact hlt)
                injection hE with hE
                subst hE
                rw [HRI.out] at hyi
                have hmo := HM.out k hlk
                have p1 : (0 : Int) ≤ (k : Int) := by omega
                generalize rd cs (k : Int) = d at *
                generalize rd rs (k : Int) = rk at *
                by_cases g1 : d < cc
                · have d1 : decide (d < cc) = true := decide_eq_true g1
                  have d1' : decide (cc > d) = true := decide_eq_true g1
                  by_cases g2 : 0 < d
                  · have d2 : decide (0 < d) = true := decide_eq_true g2
                    have d2' : decide (d > 0) = true := decide_eq_true g2
                    have g3 := hmo g2 g1
                    have d3 : decide (rk < r) = false := decide_eq_false (by omega)
                    have d3' : decide (r > rk) = false := decide_eq_false (by omega)
                    clear hmo
                    go_wp2_with fail
                    go_quiet (fail)
                    have HB3 : Aside0 (Below w1.heap.size w1 (wr.drewN nq)) := ⟨pw_below_drewN HB2.out nq⟩
                    clear HB2 hx hy hyi
                    generalize wr.drewN nq = w3 at HB3 ⊢
                    go_wp2
                    go_roundg (cs.length - (k + 1))
                    case measure => omega
                    case rel => exact ⟨k + 1, by go_num, by omega, Nat.le_refl _, HB3⟩
                  · have d2 : decide (0 < d) = false := decide_eq_false g2
                    have d2' : decide (d > 0) = false := decide_eq_false g2
                    clear hmo
                    go_wp2_with fail
                    go_quiet (fail)
                    have HB3 : Aside0 (Below w1.heap.size w1 (wr.drewN nq)) := ⟨pw_below_drewN HB2.out nq⟩
                    clear HB2 hx hy hyi
                    generalize wr.drewN nq = w3 at HB3 ⊢
                    go_wp2
                    go_roundg (cs.length - (k + 1))
                    case measure => omega
                    case rel => exact ⟨k + 1, by go_num, by omega, Nat.le_refl _, HB3⟩
                · have d1 : decide (d < cc) = false := decide_eq_false g1
                  have d1' : decide (cc > d) = false := decide_eq_false g1
                  clear hmo
                  go_wp2_with fail
                  go_quiet (fail)
                  have HB3 : Aside0 (Below w1.heap.size w1 (wr.drewN nq)) := ⟨pw_below_drewN HB2.out nq⟩
                  clear HB2 hx hy hyi
                  generalize wr.drewN nq = w3 at HB3 ⊢
                  go_wp2
                  go_roundg (cs.length - (k + 1))
                  case measure => omega
                  case rel => exact ⟨k + 1, by go_num, by omega, Nat.le_refl _, HB3⟩
              · have hlkz : ¬ (k : Int) < (cs.length : Int) := by omega
                go_wp2
                go_roundg (cs.length - (i + 1))
                case measure => omega
                case rel => exact ⟨i + 1, by go_num, by omega, Nat.le_refl _, by rw [hkri.out], by rw [hk1i.out], HB2⟩
        · have hltz : ¬ (i : Int) < (cs.length : Int) := by omega
          obtain rfl : i = cs.length := by omega
          have hfu := HF.out.full
          have hP0 := pow_bounds limit 15 (by omega) (by omega)
          generalize psum (kr cs rs limit) cs.length = K7 at *
          generalize psum (one cs) cs.length = K8 at *
          generalize hP : (2 : Int) ^ limit.toNat = P at *
          by_cases h2 : K8 < 2
          · have d0 : decide (K8 < 2) = true := decide_eq_true h2
            clear hfu
            go_wp2_with (first | (go_at_call 15; with_reducible refine (awake_calls wr).mono ?_; rintro e w4 ⟨rfl, hb4⟩))
            go_ret
            exact ⟨rfl, below_then (below_then HB1.out hs1 HB2.out) (Nat.le_trans hs1 HB2.out.size) hb4⟩
          · have d0 : decide (K8 < 2) = false := decide_eq_false h2
            have hfu : K7 = P := by omega
            have d1 : (K7 == P) = true := by rw [hfu]; simp
            go_wp2_with (first | (go_at_call 15; with_reducible refine (awake_calls wr).mono ?_; rintro e w4 ⟨rfl, hb4⟩))
            go_ret
            exact ⟨rfl, below_then (below_then HB1.out hs1 HB2.out) (Nat.le_trans hs1 HB2.out.size) hb4⟩
    · have hne : (checkOf cs limit != 0) = true := by simp [hck]
      generalize checkOf cs limit = ck at *
      clear hr
      go_enter Try.func5, Try.ntmps5
      go_wp2_with (first | (go_at_call 16; refine hchk.mono ?_; rintro e w0 ⟨rfl, rfl⟩))
      go_ret
      exact ⟨rfl, Below.refl _ _⟩
end Go.Proofs.Ytdmhhgkplcaejaa
