/- The law HuffmanLimits walked: it returns true. -/
import Derived.Test.YtdmhhgkplcaejaaLo
namespace Go.Proofs.Ytdmhhgkplcaejaa
open Go.RowKit Go.Sort Go.Proofs.YtdmhhgkplcaejaaW.PrintWords

theorem check_more {cs : List Int} {m d : Int} (h : checkOf cs m = 0) (hd : 0 ≤ d) (hl : m + d ≤ 15) : checkOf cs (m + d) = 0 := by
  obtain ⟨h1, h2, h3, h4, h5⟩ := check_ok h
  unfold checkOf at *
  have hp : 2 ^ m.toNat ≤ 2 ^ (m + d).toNat := Nat.pow_le_pow_right (by decide) (by omega)
  rw [if_neg (by omega), if_neg (by omega)] at h ⊢
  by_cases hb : cs.any badC = true
  · rw [if_pos hb] at h; omega
  · rw [if_neg hb, if_neg (by omega)]
theorem kr_scale (cs xs : List Int) (m d : Int) (hd : 0 ≤ d) : ∀ n : Nat, (∀ j : Nat, j < n → 0 < rd cs j → rd xs j ≤ m) → psum (kr cs xs (m + d)) n = 2 ^ d.toNat * psum (kr cs xs m) n
  | 0, _ => by simp [psum]
  | n + 1, h => by
    rw [psum, psum, kr_scale cs xs m d hd n (fun j hj => h j (by omega)), Int.mul_add]
    congr 1
    unfold kr
    split
    · rename_i h0
      have := h n (by omega) h0
      rw [show (m + d - rd xs n).toNat = d.toNat + (m - rd xs n).toNat by omega, Int.pow_add]
    · rw [Int.mul_zero]
theorem pow_split (m d : Int) (hm : 0 ≤ m) (hd : 0 ≤ d) : (2 : Int) ^ (m + d).toNat = 2 ^ d.toNat * 2 ^ m.toNat := by
  rw [show (m + d).toNat = d.toNat + m.toNat by omega, Int.pow_add]
theorem pow_pos' (n : Nat) : (0 : Int) < 2 ^ n := by
  have : 0 < 2 ^ n := Nat.two_pow_pos n
  exact_mod_cast this

theorem cw_le {cs rs : List Int} {m : Int} (h : Fine cs m rs) (j : Nat) (hj : j < cs.length) : 0 ≤ cw cs rs j ∧ cw cs rs j ≤ 61440 := by
  have h1 := h.cnt j hj
  have h2 := h.lim
  have h3 : 0 ≤ rd rs j ∧ rd rs j ≤ 15 := by
    rcases Int.lt_or_le 0 (rd cs j) with g | g
    · have := h.pos j hj g; omega
    · have := h.zero j hj (by omega); omega
  exact mul_bounds h1.1 h1.2 h3.1 h3.2

/-- More room costs no more. -/
theorem more_le {cs a b : List Int} {m d : Int} (ha : Fine cs m a) (hb : Fine cs (m + d) b) (hd : 0 ≤ d) : psum (cw cs b) cs.length ≤ psum (cw cs a) cs.length := by
  have h := hb.best a (fun j hj h0 => by have := ha.pos j hj h0; omega) (by
    rw [kr_scale cs a m d hd cs.length (fun j hj h0 => (ha.pos j hj h0).2), pow_split m d (by have := ha.lim; omega) hd]
    exact Int.mul_le_mul_of_nonneg_left ha.kraft (Int.le_of_lt (pow_pos' _)))
  rw [cw_cwp ha]
  exact h
theorem same_cost {cs a b : List Int} {m d : Int} (ha : Fine cs m a) (hb : Fine cs (m + d) b) (hd : 0 ≤ d) (hl : ∀ j : Nat, j < cs.length → rd b j ≤ m) : psum (cw cs a) cs.length = psum (cw cs b) cs.length := by
  have h1 := more_le ha hb hd
  have h := ha.best b (fun j hj h0 => ⟨(hb.pos j hj h0).1, hl j hj⟩) (by
    have h2 := hb.kraft
    rw [kr_scale cs b m d hd cs.length (fun j hj _ => hl j hj), pow_split m d (by have := ha.lim; omega) hd] at h2
    exact Int.le_of_mul_le_mul_left h2 (pow_pos' _))
  have e := cw_cwp hb
  unfold cwp at e
  omega
/-- The longest of the first ones. -/
def mxs (b : List Int) : Nat → Int
  | 0 => 0
  | i + 1 => max (mxs b i) (rd b i)
theorem mxs_ge (b : List Int) : ∀ i j : Nat, j < i → rd b j ≤ mxs b i
  | 0, j, h => by omega
  | i + 1, j, h => by
    rw [mxs]
    rcases Nat.lt_or_ge j i with h1 | h1
    · have := mxs_ge b i j h1; omega
    · rw [show j = i by omega]; omega

set_option maxHeartbeats 4000000 in
set_option maxRecDepth 100000 in
theorem limits_law (A : Option Addr) (c : Nat) (cs : List Int) (limit more : Int) (w : World) (hr : Kd.C (Kd.int .i64) w A cs.length cs) :
    Calls Try.prog 7 #[.slice A cs.length c, .int .i64 limit, .int .i64 more] w fun e w' => e = .returned (.bool true) ∧ Below w.heap.size w w' := by
  have hn := hr.2.1
  by_cases h30 : 30 < cs.length
  · have hz : decide ((30 : Int) < (cs.length : Int)) = true := decide_eq_true (by omega)
    clear hr
    go_enter Try.func7, Try.ntmps7
    go_wp2
    go_ret
    exact ⟨rfl, Below.refl _ _⟩
  have hz : decide ((30 : Int) < (cs.length : Int)) = false := decide_eq_false (by omega)
  by_cases hm0 : more < 0
  · have hz2 : decide (more < 0) = true := decide_eq_true hm0
    clear hr
    go_enter Try.func7, Try.ntmps7
    go_wp2
    go_ret
    exact ⟨rfl, Below.refl _ _⟩
  have hz2 : decide (more < 0) = false := decide_eq_false hm0
  by_cases hm1 : 15 < more
  · have hz3 : decide (15 < more) = true := decide_eq_true hm1
    clear hr
    go_enter Try.func7, Try.ntmps7
    go_wp2
    go_ret
    exact ⟨rfl, Below.refl _ _⟩
  have hz3 : decide (15 < more) = false := decide_eq_false hm1
  have hchk := refCheck_calls A c cs limit w hr hn
  by_cases hck : checkOf cs limit = 0
  · have HL := fine_holds hck
    have hlim := HL.lim
    by_cases hm2 : 15 < limit + more
    · have hz4 : decide (15 < limit + more) = true := decide_eq_true hm2
      rw [hck] at hchk
      clear hr hck HL
      go_enter Try.func7, Try.ntmps7
      go_wp2_with (first | (go_at_call 16; refine hchk.mono ?_; rintro e w0 ⟨rfl, rfl⟩))
      go_ret
      exact ⟨rfl, Below.refl _ _⟩
    have hz4 : decide (15 < limit + more) = false := decide_eq_false hm2
    have hck2 := check_more hck (show 0 ≤ more by omega) (by omega)
    have HL2 := fine_holds hck2
    have hlen := lengths_calls A c cs limit w hr
    have hlen2 := Aside0.mk (fun W (h : Below w.heap.size w W) => lengths_calls A c cs (limit + more) W (Kd.C_below hr h))
    rw [if_pos hck] at hlen
    simp only [hck2, if_true] at hlen2
    rw [hck] at hlen hchk
    clear hck hck2
    have hcost := more_le HL HL2 (by omega)
    have hcost2 := same_cost HL HL2 (by omega)
    generalize lengthsOf cs limit.toNat = a at *
    generalize lengthsOf cs (limit + more).toNat = b at *
    have HR := Aside0.mk hr
    clear hr
    have hne : ((a.length : Int) != (cs.length : Int)) = false := by simp [HL.len]
    have hne2 : ((b.length : Int) != (cs.length : Int)) = false := by simp [HL2.len]
    have HF := Aside0.mk HL
    have HG := Aside0.mk HL2
    have HCO := Aside0.mk hcost
    have HCO2 := Aside0.mk hcost2
    clear HL HL2 hcost hcost2
    go_enter Try.func7, Try.ntmps7
    go_wp2_with (first | (go_at_call 16; refine hchk.mono ?_; rintro e w0 ⟨rfl, rfl⟩) | (go_at_call 12; refine hlen.mono ?_; rintro e w1 ⟨v1, rfl, ho1, hb1⟩; obtain ⟨A1, c1, rfl⟩ := own_slice (Kd.own_of_R ho1); clear hlen) | (go_at_call 12; refine (hlen2.out w1 hb1).mono ?_; rintro e w2 ⟨v2, rfl, ho2, hb2⟩; obtain ⟨A2, c2, rfl⟩ := own_slice (Kd.own_of_R ho2); clear hlen2))
    have HC1 := Aside0.mk (Kd.R_reads' (Kd.R_below ho1 hb2)).2.2
    have HC2 := Aside0.mk (Kd.R_reads' ho2).2.2
    have HBW := Aside0.mk (below_then hb1 hb1.size hb2)
    have HXC := Aside0.mk (Kd.C_below HR.out HBW.out)
    clear hchk ho1 ho2 hb1 hb2
    go_loopg [11, 12, 13, 75] cs.length (fun kx s11 s12 s13 s75 w' => ∃ (i : Nat), s75 = .int .i64 i ∧ i ≤ cs.length ∧ cs.length - i ≤ kx ∧ s11 = .int .i64 (psum (cw cs a) i) ∧ s12 = .int .i64 (psum (cw cs b) i) ∧ s13 = .int .i64 (mxs b i) ∧ w2 = w')
    case atStart => exact ⟨0, rfl, by omega, by omega, rfl, rfl, rfl, rfl⟩
    case round =>
      obtain ⟨i, rfl, hi, hix, rfl, rfl, rfl, rfl⟩ := hrel
      have hpa := psum_le (cw cs a) 61440 i (fun j hj => cw_le HF.out j (by omega))
      have hpb := psum_le (cw cs b) 61440 i (fun j hj => cw_le HG.out j (by omega))
      by_cases hlt : i < cs.length
      · have hltz : (i : Int) < (cs.length : Int) := by omega
        have hlta : (i : Int) < (a.length : Int) := by rw [HF.out.len]; exact hltz
        have hltb : (i : Int) < (b.length : Int) := by rw [HG.out.len]; exact hltz
        obtain ⟨ad, rfl, hx⟩ := int_at HXC.out i hlt
        obtain ⟨bd, rfl, hy⟩ := int_at HC1.out i (by rw [HF.out.len]; exact hlt)
        obtain ⟨dd, rfl, hy2⟩ := int_at HC2.out i (by rw [HG.out.len]; exact hlt)
        have q1 := cw_le HF.out i hlt
        have q2 := cw_le HG.out i hlt
        have e11 : Hid (psum (cw cs a) (i + 1) = psum (cw cs a) i + cw cs a i) := rfl
        have e12 : Hid (psum (cw cs b) (i + 1) = psum (cw cs b) i + cw cs b i) := rfl
        have e13 : Hid (mxs b (i + 1) = max (mxs b i) (rd b i)) := rfl
        have f1 : rd cs i * rd a i = cw cs a i := rfl
        have f2 : rd cs i * rd b i = cw cs b i := rfl
        generalize rd cs (i : Int) = cc at *
        generalize rd a (i : Int) = ra at *
        generalize rd b (i : Int) = rb at *
        generalize cw cs a i = P1 at *
        generalize cw cs b i = P2 at *
        generalize psum (cw cs a) i = K11 at *
        generalize psum (cw cs b) i = K12 at *
        generalize mxs b i = M at *
        go_wp2
        go_roundg (cs.length - (i + 1))
        case measure => omega
        case rel => exact ⟨i + 1, by go_num, by omega, Nat.le_refl _, by rw [e11.out], by rw [e12.out], by rw [e13.out], rfl⟩
      · have hltz : ¬ (i : Int) < (cs.length : Int) := by omega
        obtain rfl : i = cs.length := by omega
        have hle := HCO.out
        have heq : mxs b cs.length ≤ limit → psum (cw cs a) cs.length = psum (cw cs b) cs.length := fun h => HCO2.out (fun j hj => by have := mxs_ge b cs.length j hj; omega)
        generalize psum (cw cs a) cs.length = K11 at *
        generalize psum (cw cs b) cs.length = K12 at *
        generalize mxs b cs.length = M at *
        have d0 : decide (K12 ≤ K11) = true := decide_eq_true hle
        by_cases h2 : limit < M
        · have d1 : decide (limit < M) = true := decide_eq_true h2
          have d1' : decide (M > limit) = true := decide_eq_true h2
          clear heq
          go_wp2_with (first | (go_at_call 15; with_reducible refine (awake_calls _).mono ?_; rintro e w4 ⟨rfl, hb4⟩))
          go_ret
          exact ⟨rfl, below_then HBW.out HBW.out.size hb4⟩
        · have d1 : decide (limit < M) = false := decide_eq_false h2
          have d1' : decide (M > limit) = false := decide_eq_false h2
          have d2 : (K11 == K12) = true := by rw [heq (by omega)]; simp
          clear heq
          go_wp2_with (first | (go_at_call 15; with_reducible refine (awake_calls _).mono ?_; rintro e w4 ⟨rfl, hb4⟩))
          go_ret
          exact ⟨rfl, below_then HBW.out HBW.out.size hb4⟩
  · have hne : (checkOf cs limit != 0) = true := by simp [hck]
    generalize checkOf cs limit = ck at *
    clear hr
    go_enter Try.func7, Try.ntmps7
    go_wp2_with (first | (go_at_call 16; refine hchk.mono ?_; rintro e w0 ⟨rfl, rfl⟩))
    go_ret
    exact ⟨rfl, Below.refl _ _⟩
end Go.Proofs.Ytdmhhgkplcaejaa
