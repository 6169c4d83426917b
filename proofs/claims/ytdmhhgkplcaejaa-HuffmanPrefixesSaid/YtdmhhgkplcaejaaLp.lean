/- The law HuffmanPrefixes walked: it returns true. -/
import Derived.Test.YtdmhhgkplcaejaaE18
import Derived.Test.YtdmhhgkplcaejaaE11
namespace Go.Proofs.Ytdmhhgkplcaejaa
open Go.RowKit Go.Sort Go.Proofs.YtdmhhgkplcaejaaW.PrintWords

set_option maxHeartbeats 4000000 in
set_option maxRecDepth 100000 in
theorem prefixes_law (A : Option Addr) (c : Nat) (ls : List Int) (w : World) (hr : Kd.C (Kd.int .i64) w A ls.length ls) :
    Calls Try.prog 9 #[.slice A ls.length c] w fun e w' => e = .returned (.bool true) ∧ Below w.heap.size w w' := by
  have hc := codes_calls A c ls w hr
  by_cases h60 : 60 < ls.length
  · have hz : decide ((60 : Int) < (ls.length : Int)) = true := decide_eq_true (by omega)
    generalize (if validOf ls then codesOf ls else []) = xs at *
    generalize (if validOf ls then (0 : Int) else 1) = er at *
    clear hr
    go_enter Try.func9, Try.ntmps9
    go_wp2_with (first | (go_at_call 19; refine hc.mono ?_; rintro e w1 ⟨v1, rfl, ho1, hb1⟩))
    go_ret
    exact ⟨rfl, hb1⟩
  · have hz : decide ((60 : Int) < (ls.length : Int)) = false := decide_eq_false (by omega)
    by_cases hv : validOf ls = true
    · rw [if_pos hv, if_pos hv] at hc
      have HPL := Aside0.mk (fun i k => prefix_law hv i k)
      have HCB := Aside0.mk (fun s hs => codesOf_lt hv s hs)
      have HOK := Aside0.mk (valid_ok hv).2.1
      have hcl := codesOf_length ls
      have HR := Aside0.mk hr
      clear hr hv
      generalize codesOf ls = cs at *
      have hlen : ((cs.length : Int) != (ls.length : Int)) = false := by simp [hcl]
      have HCL := Aside0.mk hcl
      clear hcl
      go_enter Try.func9, Try.ntmps9
      go_wp2_with (first | (go_at_call 19; refine hc.mono ?_; rintro e w1 ⟨v1, rfl, ho1, hb1⟩; obtain ⟨A1, c1, rfl⟩ := own_slice (Kd.own_of_R ho1)))
      have HC1 := Aside0.mk (Kd.R_reads' ho1).2.2
      have HB1 := Aside0.mk hb1
      have hs1 := hb1.size
      clear hc ho1 hb1
      go_loopg [28] ls.length (fun kx s28 w' => ∃ (i : Nat), s28 = .int .i64 i ∧ i ≤ ls.length ∧ ls.length - i ≤ kx ∧ Aside0 (Below w1.heap.size w1 w'))
      case atStart => exact ⟨0, rfl, by omega, by omega, ⟨Below.refl _ _⟩⟩
      case round =>
        obtain ⟨i, rfl, hi, hix, HB2⟩ := hrel
        by_cases hlt : i < ls.length
        · have hltz : (i : Int) < (ls.length : Int) := by omega
          obtain ⟨ad, rfl, hx⟩ := int_at HR.out i hlt
          have hx' := ((below_then HB1.out hs1 HB2.out).cell (World.block_lt_of_cell? w _ hx)).trans hx
          have HX := Aside0.mk hx
          clear hx
          have hn := HOK.out (rd ls i) (rd_mem hlt)
          go_wp2
          go_loopg [35] ls.length (fun kx s35 w' => ∃ (k : Nat), s35 = .int .i64 k ∧ k ≤ ls.length ∧ ls.length - k ≤ kx ∧ Aside0 (Below w1.heap.size w1 w'))
          case atStart => exact ⟨0, rfl, by omega, by omega, HB2⟩
          case round =>
            clear HB2 hx'
            obtain ⟨k, rfl, hk, hkx, HB2⟩ := hrel
            by_cases hlk : k < ls.length
            · have hlkz : (k : Int) < (ls.length : Int) := by omega
              obtain ⟨ad', hE, hy⟩ := int_at HR.out k hlk
              injection hE with hE
              subst hE
              replace hy := ((below_then HB1.out hs1 HB2.out).cell (World.block_lt_of_cell? w _ hy)).trans hy
              have hm := HOK.out (rd ls k) (rd_mem hlk)
              obtain ⟨bd, rfl, hzi⟩ := int_at (Kd.C_below HC1.out HB2.out) i (by rw [HCL.out]; exact hlt)
              obtain ⟨bd', hE, hzk⟩ := int_at (Kd.C_below HC1.out HB2.out) k (by rw [HCL.out]; exact hlk)
              injection hE with hE
              subst hE
              have hpl := HPL.out i k hlt hlk
              obtain ⟨hzi0, _⟩ := HCB.out i (by omega)
              obtain ⟨hzk0, hzk1⟩ := HCB.out k (by omega)
              have hzk2 : rd cs k ≤ 32768 := by
                have : (2 : Int) ^ (rd ls k).toNat ≤ 2 ^ 15 := by
                  have := Nat.pow_le_pow_right (n := 2) (by decide) (show (rd ls k).toNat ≤ 15 by omega)
                  exact_mod_cast this
                have h15 : (2 : Int) ^ 15 = 32768 := by decide
                omega
              have hik : (i : Int) < ((cs.length : Nat) : Int) := by rw [HCL.out]; exact hltz
              have hkk : (k : Int) < ((cs.length : Nat) : Int) := by rw [HCL.out]; exact hlkz
              have p0 : (0 : Int) ≤ (i : Int) := by omega
              have p1 : (0 : Int) ≤ (k : Int) := by omega
              clear hzk1
              generalize rd ls (i : Int) = n at *
              generalize rd ls (k : Int) = m at *
              generalize rd cs (i : Int) = zi at *
              generalize rd cs (k : Int) = zk at *
              have d3 : decide (n < 0) = false := decide_eq_false (by omega)
              have d4 : decide (m < 0) = false := decide_eq_false (by omega)
              have d6 : decide (15 < n) = false := decide_eq_false (by omega)
              have d7 : decide (15 < m) = false := decide_eq_false (by omega)
              by_cases hik2 : i = k
              · have d0 : ((i : Int) == (k : Int)) = true := by simp [hik2]
                clear hik2 hpl
                go_wp2
                go_roundg (ls.length - (k + 1))
                case measure => omega
                case rel => exact ⟨k + 1, by go_num, by omega, Nat.le_refl _, HB2⟩
              · have d0 : ((i : Int) == (k : Int)) = false := by rw [beq_eq_false_iff_ne]; omega
                by_cases hn0 : n = 0
                · have d1 : (n == 0) = true := by simp [hn0]
                  clear hn0 hpl
                  go_wp2
                  go_roundg (ls.length - (k + 1))
                  case measure => omega
                  case rel => exact ⟨k + 1, by go_num, by omega, Nat.le_refl _, HB2⟩
                · have d1 : (n == 0) = false := by simp [hn0]
                  by_cases hm0 : m = 0
                  · have d2 : (m == 0) = true := by simp [hm0]
                    clear hm0 hpl
                    go_wp2
                    go_roundg (ls.length - (k + 1))
                    case measure => omega
                    case rel => exact ⟨k + 1, by go_num, by omega, Nat.le_refl _, HB2⟩
                  · have d2 : (m == 0) = false := by simp [hm0]
                    by_cases hnm : m < n
                    · have d5 : decide (m < n) = true := decide_eq_true hnm
                      have d5' : decide (n > m) = true := decide_eq_true hnm
                      clear hpl
                      go_wp2
                      go_roundg (ls.length - (k + 1))
                      case measure => omega
                      case rel => exact ⟨k + 1, by go_num, by omega, Nat.le_refl _, HB2⟩
                    · have d5 : decide (m < n) = false := decide_eq_false hnm
                      have d5' : decide (n > m) = false := decide_eq_false hnm
                      obtain ⟨g1, g2⟩ := hpl hik2 (by omega) (by omega) (by omega)
                      have e0 : (zk / 2 ^ (m - n).toNat == zi) = false := beq_eq_false_iff_ne.2 g1
                      have hd0 : 0 ≤ m - n := by omega
                      have hd1 : m - n ≤ 64 := by omega
                      clear g1 hpl
                      by_cases hlt2 : n < m
                      · have e1 : decide (n < m) = true := decide_eq_true hlt2
                        obtain ⟨g3, g4⟩ := g2 hlt2
                        clear g2
                        generalize hP : zi * 2 ^ (m - n).toNat = P at g3 g4
                        have e2 : decide (zk < P) = false := decide_eq_false (by omega)
                        have e2' : decide (P > zk) = false := decide_eq_false (by omega)
                        have g5 : P ≤ 32768 := by omega
                        go_wp2_with fail
                        go_quiet (fail)
                        have HB3 : Aside0 (Below w1.heap.size w1 (wr.drewN nq)) := ⟨pw_below_drewN HB2.out nq⟩
                        clear HB2 hy hzi hzk
                        generalize wr.drewN nq = w3 at HB3 ⊢
                        go_wp2
                        go_roundg (ls.length - (k + 1))
                        case measure => omega
                        case rel => exact ⟨k + 1, by go_num, by omega, Nat.le_refl _, HB3⟩
                      · have e1 : decide (n < m) = false := decide_eq_false hlt2
                        clear g2
                        go_wp2_with fail
                        go_quiet (fail)
                        have HB3 : Aside0 (Below w1.heap.size w1 (wr.drewN nq)) := ⟨pw_below_drewN HB2.out nq⟩
                        clear HB2 hy hzi hzk
                        generalize wr.drewN nq = w3 at HB3 ⊢
                        go_wp2
                        go_roundg (ls.length - (k + 1))
                        case measure => omega
                        case rel => exact ⟨k + 1, by go_num, by omega, Nat.le_refl _, HB3⟩
            · have hlkz : ¬ (k : Int) < (ls.length : Int) := by omega
              go_wp2
              go_roundg (ls.length - (i + 1))
              case measure => omega
              case rel => exact ⟨i + 1, by go_num, by omega, Nat.le_refl _, HB2⟩
        · have hltz : ¬ (i : Int) < (ls.length : Int) := by omega
          go_wp2_with (first | (go_at_call 15; with_reducible refine (awake_calls wr).mono ?_; rintro e w4 ⟨rfl, hb4⟩))
          go_ret
          exact ⟨rfl, below_then (below_then HB1.out hs1 HB2.out) (Nat.le_trans hs1 HB2.out.size) hb4⟩
    · rw [if_neg hv, if_neg hv] at hc
      clear hr hv
      go_enter Try.func9, Try.ntmps9
      go_wp2_with (first | (go_at_call 19; refine hc.mono ?_; rintro e w1 ⟨v1, rfl, ho1, hb1⟩))
      go_ret
      exact ⟨rfl, hb1⟩
end Go.Proofs.Ytdmhhgkplcaejaa
