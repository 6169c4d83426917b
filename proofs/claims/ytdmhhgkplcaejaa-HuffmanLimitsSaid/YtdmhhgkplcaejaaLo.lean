/- The law HuffmanOptimal walked: it returns true. -/
import Derived.Test.YtdmhhgkplcaejaaLm
namespace Go.Proofs.Ytdmhhgkplcaejaa
open Go.RowKit Go.Sort Go.Proofs.YtdmhhgkplcaejaaW.PrintWords

def cwp (cs xs : List Int) (j : Nat) : Int := if 0 < rd cs j then rd cs j * rd xs j else 0
theorem mul_bounds {a b : Int} (h0 : 0 ≤ a) (h1 : a ≤ 4096) (h2 : 0 ≤ b) (h3 : b ≤ 15) : 0 ≤ a * b ∧ a * b ≤ 61440 := by
  have e1 := Int.mul_nonneg h0 h2
  have e2 := Int.mul_le_mul h1 h3 h2 (by omega)
  omega
theorem cwp_le {cs xs rs : List Int} {m : Int} (h : Fine cs m rs) (j : Nat) (hj : j < cs.length) (hx : 0 < rd cs j → 1 ≤ rd xs j ∧ rd xs j ≤ m) : 0 ≤ cwp cs xs j ∧ cwp cs xs j ≤ 61440 := by
  unfold cwp
  split
  · rename_i h0
    have h1 := h.cnt j hj
    have h2 := h.lim
    have h3 := hx h0
    exact mul_bounds h1.1 h1.2 (by omega) (by omega)
  · omega
theorem cw_cwp {cs rs : List Int} {m : Int} (h : Fine cs m rs) : psum (cw cs rs) cs.length = psum (cwp cs rs) cs.length := by
  apply psum_congr
  intro j hj
  unfold cw cwp
  split
  · rfl
  · have := h.cnt j hj
    rw [show rd cs j = 0 by omega, Int.zero_mul]

set_option maxHeartbeats 4000000 in
set_option maxRecDepth 100000 in
theorem optimal_law (A : Option Addr) (c : Nat) (cs : List Int) (B : Option Addr) (d : Nat) (os : List Int) (limit : Int) (w : World) (hr : Kd.C (Kd.int .i64) w A cs.length cs) (hs : Kd.C (Kd.int .i64) w B os.length os) :
    Calls Try.prog 4 #[.slice A cs.length c, .slice B os.length d, .int .i64 limit] w fun e w' => e = .returned (.bool true) ∧ Below w.heap.size w w' := by
  have hn := hr.2.1
  by_cases h30 : 30 < cs.length
  · have hz : decide ((30 : Int) < (cs.length : Int)) = true := decide_eq_true (by omega)
    clear hr hs
    go_enter Try.func4, Try.ntmps4
    go_wp2
    go_ret
    exact ⟨rfl, Below.refl _ _⟩
  have hz : decide ((30 : Int) < (cs.length : Int)) = false := decide_eq_false (by omega)
  by_cases hol : os.length < cs.length
  · have hz2 : decide ((os.length : Int) < (cs.length : Int)) = true := decide_eq_true (by omega)
    clear hr hs
    go_enter Try.func4, Try.ntmps4
    go_wp2
    go_ret
    exact ⟨rfl, Below.refl _ _⟩
  have hz2 : decide ((os.length : Int) < (cs.length : Int)) = false := decide_eq_false (by omega)
  have hchk := refCheck_calls A c cs limit w hr hn
  by_cases hck : checkOf cs limit = 0
  · have HL := fine_holds hck
    have hlen := lengths_calls A c cs limit w hr
    rw [if_pos hck] at hlen
    rw [hck] at hlen hchk
    clear hck
    generalize lengthsOf cs limit.toNat = rs at *
    have HR := Aside0.mk hr
    have HS := Aside0.mk hs
    clear hr hs
    have hne : ((rs.length : Int) != (cs.length : Int)) = false := by simp [HL.len]
    have hlim := HL.lim
    have HF := Aside0.mk HL
    clear HL
    go_enter Try.func4, Try.ntmps4
    go_wp2_with (first | (go_at_call 16; refine hchk.mono ?_; rintro e w0 ⟨rfl, rfl⟩) | (go_at_call 12; refine hlen.mono ?_; rintro e w1 ⟨v1, rfl, ho1, hb1⟩; obtain ⟨A1, c1, rfl⟩ := own_slice (Kd.own_of_R ho1)))
    have HC1 := Aside0.mk (Kd.R_reads' ho1).2.2
    have HB1 := Aside0.mk hb1
    have hs1 := hb1.size
    clear hchk hlen ho1 hb1
    go_loopg [10, 12, 13, 51] cs.length (fun kx s10 s12 s13 s51 w' => ∃ (i : Nat), s51 = .int .i64 i ∧ i ≤ cs.length ∧ cs.length - i ≤ kx ∧ s12 = .int .i64 (psum (cwp cs os) i) ∧ s13 = .int .i64 (psum (cwp cs rs) i) ∧ Aside0 ((Kd.int .i64).R 3 w' w1.heap.size (fun _ => True) s10 (mL cs os i)) ∧ Aside0 (Below w1.heap.size w1 w') ∧ Aside0 (∀ j : Nat, j < i → 1 ≤ rd os j ∧ rd os j ≤ limit))
    case atStart => exact ⟨0, rfl, by omega, by omega, rfl, rfl, ⟨Kd.R_nil _ _ _ _ _⟩, ⟨Below.refl _ _⟩, ⟨fun j hj => by omega⟩⟩
    case round =>
      obtain ⟨i, rfl, hi, hix, rfl, rfl, HO, HB2, HK⟩ := hrel
      have hps := psum_le (cwp cs os) 61440 i (fun j hj => cwp_le HF.out j (by omega) (fun _ => HK.out j hj))
      have hp1 := psum_le (cwp cs rs) 61440 i (fun j hj => cwp_le HF.out j (by omega) (HF.out.pos j (by omega)))
      have hml := mL_len cs os i
      by_cases hlt : i < cs.length
      · have hltz : (i : Int) < (cs.length : Int) := by omega
        have hltr : (i : Int) < (rs.length : Int) := by rw [HF.out.len]; exact hltz
        have hlto : (i : Int) < (os.length : Int) := by omega
        obtain ⟨ad, rfl, hx⟩ := int_at HR.out i hlt
        replace hx := ((below_then HB1.out hs1 HB2.out).cell (World.block_lt_of_cell? w _ hx)).trans hx
        obtain ⟨od, rfl, hk⟩ := int_at HS.out i (by omega)
        replace hk := ((below_then HB1.out hs1 HB2.out).cell (World.block_lt_of_cell? w _ hk)).trans hk
        have hcn := HF.out.cnt i hlt
        have hpo := HF.out.pos i hlt
        have HK2 : Hid (1 ≤ rd os i → rd os i ≤ limit → ∀ j : Nat, j < i + 1 → 1 ≤ rd os j ∧ rd os j ≤ limit) := by
          intro h1 h2 j hj
          rcases Nat.lt_or_ge j i with h | h
          · exact HK.out j h
          · rw [show j = i by omega]; exact ⟨h1, h2⟩
        have e12 : Hid (psum (cwp cs os) (i + 1) = psum (cwp cs os) i + if 0 < rd cs i then rd cs i * rd os i else 0) := rfl
        have e13 : Hid (psum (cwp cs rs) (i + 1) = psum (cwp cs rs) i + if 0 < rd cs i then rd cs i * rd rs i else 0) := rfl
        have e10 : Hid (mL cs os (i + 1) = if 0 < rd cs i then mL cs os i ++ [rd os i] else mL cs os i) := rfl
        have p0 : (0 : Int) ≤ (i : Int) := by omega
        obtain ⟨bd, rfl, hy⟩ := int_at (Kd.C_below HC1.out HB2.out) i (by rw [HF.out.len]; exact hlt)
        have HRI := Aside0.mk (show rd rs i = rd rs i from rfl)
        generalize rd cs (i : Int) = cc at *
        generalize rd os (i : Int) = ok at *
        generalize hRr : rd rs (i : Int) = r at hpo e13 hy
        replace HRI : Aside0 (rd rs (i : Int) = r) := ⟨hRr⟩
        clear hRr
        generalize psum (cwp cs os) i = K12 at *
        generalize psum (cwp cs rs) i = K13 at *
        generalize mL cs os i = ML at *
        by_cases g1 : ok < 1
        · have d1 : decide (ok < 1) = true := decide_eq_true g1
          go_wp2
          go_ret
          exact ⟨rfl, below_then HB1.out hs1 HB2.out⟩
        · have d1 : decide (ok < 1) = false := decide_eq_false g1
          by_cases g2 : limit < ok
          · have d2 : decide (limit < ok) = true := decide_eq_true g2
            have d2' : decide (ok > limit) = true := decide_eq_true g2
            go_wp2
            go_ret
            exact ⟨rfl, below_then HB1.out hs1 HB2.out⟩
          · have d2 : decide (limit < ok) = false := decide_eq_false g2
            have d2' : decide (ok > limit) = false := decide_eq_false g2
            have HK3 := Aside0.mk (HK2.out (by omega) (by omega))
            clear HK2 HK
            by_cases hc : 0 < cc
            · have e0 : decide (0 < cc) = true := decide_eq_true hc
              obtain ⟨q1, q2⟩ := hpo hc
              have m1 := mul_bounds hcn.1 hcn.2 (show 0 ≤ ok by omega) (by omega)
              have m2 := mul_bounds hcn.1 hcn.2 (show 0 ≤ r by omega) (by omega)
              replace e12 : Hid (psum (cwp cs os) (i + 1) = K12 + cc * ok) := by show _ = _; rw [e12.out, if_pos hc]
              replace e13 : Hid (psum (cwp cs rs) (i + 1) = K13 + cc * r) := by show _ = _; rw [e13.out, if_pos hc]
              replace e10 : Hid (mL cs os (i + 1) = ML ++ [ok]) := by show _ = _; rw [e10.out, if_pos hc]
              generalize hP1 : cc * ok = P1 at m1 e12
              generalize hP2 : cc * r = P2 at m2 e13
              clear hpo
              have hyw := hy
              clear hy
              go_wp2_with (first | (at_builtin; refine Kd.R_append (Kd.int .i64) (w0 := w1) w1.heap.size ?aG (.tmp 69) (.tmp 71) 22 3 (.int .i64 0) 8 ?aOp Try.underlying22 info3 rfl (by decide) (by omega) u10 ML ok [.int .i64 ok] (fun _ => True) (fun _ => False) ?aV ?aX ?aP (fun _ hk => hk.elim) ?aF ?aO ?aB ?aS ?aL ?_; (case aG => rfl); (case aOp => rfl); (case aV => rfl); (case aX => rfl); (case aF => exact fun _ _ => trivial); (case aO => exact HO.out); (case aB => exact HB2.out); (case aS => exact HB2.out.size); (case aL => omega); (case aP => exact rfl); intro v1 w2 ho hb hg hat; rw [← e10.out] at ho; clear hg hat; obtain ⟨bd', hE, hyi⟩ := int_at (Kd.C_below HC1.out hb) i (by rw [HF.out.len]; exact hlt); injection hE with hE; subst hE; rw [HRI.out] at hyi))
              go_roundg (cs.length - (i + 1))
              case measure => omega
              case rel => exact ⟨i + 1, by go_num, by omega, Nat.le_refl _, by rw [e12.out], by rw [e13.out], ⟨ho⟩, ⟨hb⟩, HK3⟩
            · have e0 : decide (0 < cc) = false := decide_eq_false hc
              replace e12 : Hid (psum (cwp cs os) (i + 1) = K12) := by show _ = _; rw [e12.out, if_neg hc]; omega
              replace e13 : Hid (psum (cwp cs rs) (i + 1) = K13) := by show _ = _; rw [e13.out, if_neg hc]; omega
              replace e10 : Hid (mL cs os (i + 1) = ML) := by show _ = _; rw [e10.out, if_neg hc]
              clear hpo
              go_wp2
              go_roundg (cs.length - (i + 1))
              case measure => omega
              case rel => exact ⟨i + 1, by go_num, by omega, Nat.le_refl _, by rw [e12.out], by rw [e13.out], ⟨by rw [e10.out]; exact HO.out⟩, HB2, HK3⟩
      · have hltz : ¬ (i : Int) < (cs.length : Int) := by omega
        obtain rfl : i = cs.length := by omega
        have hmb := mL_all cs os (fun x => 1 ≤ x ∧ x ≤ limit) cs.length (fun j hj _ => HK.out j hj)
        have hks := krL_mL cs os limit cs.length
        have hbest : psum (krL (mL cs os cs.length) limit) (mL cs os cs.length).length ≤ 2 ^ limit.toNat → psum (cwp cs rs) cs.length ≤ psum (cwp cs os) cs.length := by
          intro h
          rw [hks] at h
          have := HF.out.best os (fun j hj _ => HK.out j hj) h
          rw [cw_cwp HF.out] at this
          exact this
        generalize mL cs os cs.length = ML at *
        generalize psum (cwp cs os) cs.length = K12 at *
        generalize psum (cwp cs rs) cs.length = K13 at *
        obtain ⟨A2, c2, rfl⟩ := own_slice (Kd.own_of_R HO.out)
        have HCM := Aside0.mk (Kd.R_reads' HO.out).2.2
        have HBW := Aside0.mk (below_then HB1.out hs1 HB2.out)
        have hsw := HB2.out.size
        have HMB := Aside0.mk hmb
        have HBE := Aside0.mk hbest
        clear HO HB2 hks hmb hbest HK
        go_wp2
        go_loopg [11, 89] ML.length (fun kx s11 s89 w' => ∃ (k : Nat), s89 = .int .i64 k ∧ k ≤ ML.length ∧ ML.length - k ≤ kx ∧ s11 = .int .i64 (psum (krL ML limit) k) ∧ wr = w')
        case atStart => exact ⟨0, rfl, by omega, by omega, rfl, rfl⟩
        case round =>
          obtain ⟨k, rfl, hk, hkx, rfl, rfl⟩ := hrel
          have hpk := psum_le (krL ML limit) 32768 k (fun j hj => by
            have := HMB.out (rd ML j) (rd_mem (by omega))
            have := pow_bounds (limit - rd ML j) 15 (by omega) (by omega)
            unfold krL
            omega)
          by_cases hlk : k < ML.length
          · have hlkz : (k : Int) < (ML.length : Int) := by omega
            obtain ⟨md, rfl, hx⟩ := int_at HCM.out k hlk
            have hmk := HMB.out (rd ML k) (rd_mem hlk)
            have hP0 := pow_bounds (limit - rd ML k) 15 (by omega) (by omega)
            have e11 : Hid (psum (krL ML limit) (k + 1) = psum (krL ML limit) k + 2 ^ (limit - rd ML k).toNat) := rfl
            generalize rd ML (k : Int) = x at *
            generalize psum (krL ML limit) k = K11 at *
            generalize hP : (2 : Int) ^ (limit - x).toNat = P at *
            go_wp2
            go_roundg (ML.length - (k + 1))
            case measure => omega
            case rel => exact ⟨k + 1, by go_num, by omega, Nat.le_refl _, by rw [e11.out], rfl⟩
          · have hlkz : ¬ (k : Int) < (ML.length : Int) := by omega
            obtain rfl : k = ML.length := by omega
            have hP0 := pow_bounds limit 15 (by omega) (by omega)
            have hbe := HBE.out
            clear HBE
            generalize psum (krL ML limit) ML.length = K11 at *
            generalize hP : (2 : Int) ^ limit.toNat = P at *
            by_cases h2 : P < K11
            · have d0 : decide (P < K11) = true := decide_eq_true h2
              have d0' : decide (K11 > P) = true := decide_eq_true h2
              clear hbe
              go_wp2_with (first | (go_at_call 15; with_reducible refine (awake_calls wr).mono ?_; rintro e w4 ⟨rfl, hb4⟩))
              go_ret
              exact ⟨rfl, below_then HBW.out HBW.out.size hb4⟩
            · have d0 : decide (P < K11) = false := decide_eq_false h2
              have d0' : decide (K11 > P) = false := decide_eq_false h2
              have hle := hbe (by omega)
              have d1 : decide (K13 ≤ K12) = true := decide_eq_true hle
              clear hbe
              go_wp2_with (first | (go_at_call 15; with_reducible refine (awake_calls wr).mono ?_; rintro e w4 ⟨rfl, hb4⟩))
              go_ret
              exact ⟨rfl, below_then HBW.out HBW.out.size hb4⟩
  · have hne : (checkOf cs limit != 0) = true := by simp [hck]
    generalize checkOf cs limit = ck at *
    clear hr hs
    go_enter Try.func4, Try.ntmps4
    go_wp2_with (first | (go_at_call 16; refine hchk.mono ?_; rintro e w0 ⟨rfl, rfl⟩))
    go_ret
    exact ⟨rfl, Below.refl _ _⟩
end Go.Proofs.Ytdmhhgkplcaejaa
