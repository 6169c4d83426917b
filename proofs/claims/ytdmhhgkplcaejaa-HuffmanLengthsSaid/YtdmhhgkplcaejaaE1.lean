/- Whether lengths are valid (huffman.valid, the reference's Valid). -/
import Derived.Test.YtdmhhgkplcaejaaH2
import Derived.WalkLawsBesides
namespace Go.Proofs.Ytdmhhgkplcaejaa
open Go.RowKit Go.Proofs.YtdmhhgkplcaejaaW.PrintWords

/-- A length's part of the whole, in parts of 2^15. -/
def part (n : Int) : Nat := if 0 < n then 2 ^ (15 - n.toNat) else 0
def kraft (ls : List Int) : Nat := (ls.map part).sum
def badL (n : Int) : Bool := decide (n < 0) || decide (15 < n)
/-- Whether lengths are valid. -/
def validOf (ls : List Int) : Bool := decide (ls.length ≤ 1024) && !ls.any badL && decide (kraft ls ≤ 32768)

theorem part_le (n : Int) : part n ≤ 32768 := by
  unfold part
  split
  · have h : 2 ^ (15 - n.toNat) ≤ 2 ^ 15 := Nat.pow_le_pow_right (by decide) (by omega)
    simpa using h
  · omega
theorem kraft_snoc (ls : List Int) (n : Int) : kraft (ls ++ [n]) = kraft ls + part n := by unfold kraft; simp
theorem kraft_le (ls : List Int) : kraft ls ≤ 32768 * ls.length := by
  induction ls with
  | nil => simp [kraft]
  | cons a ls ih => unfold kraft at *; simp only [List.map_cons, List.sum_cons, List.length_cons]; have := part_le a; omega
theorem valid_ok {ls : List Int} (h : validOf ls = true) : ls.length ≤ 1024 ∧ (∀ n ∈ ls, 0 ≤ n ∧ n ≤ 15) ∧ kraft ls ≤ 32768 := by
  unfold validOf at h
  simp only [Bool.and_eq_true, decide_eq_true_eq, Bool.not_eq_true'] at h
  obtain ⟨⟨a, b⟩, c⟩ := h
  refine ⟨a, fun n hn => ?_, c⟩
  have : badL n = false := by
    cases e : badL n with
    | false => rfl
    | true => exact absurd (List.any_eq_true.2 ⟨n, hn, e⟩) (by rw [b]; simp)
  unfold badL at this
  simp at this
  omega

set_option maxHeartbeats 4000000 in
set_option maxRecDepth 100000 in
theorem valid_calls (A : Option Addr) (c : Nat) (ls : List Int) (w : World) (hr : Kd.C (Kd.int .i64) w A ls.length ls) :
    Calls Try.prog 27 #[.slice A ls.length c] w fun e w' => e = .returned (.bool (validOf ls)) ∧ w = w' := by
  have hn := hr.2.1
  have HR := Aside0.mk hr
  clear hr
  by_cases h3 : 1024 < ls.length
  · have hf : Hid (validOf ls = false) := by show _ = _; unfold validOf; rw [decide_eq_false (by omega)]; rfl
    have h3z : (1024 : Int) < (ls.length : Int) := by omega
    go_enter Try.func27, Try.ntmps27
    go_wp2
    go_ret
    exact ⟨by rw [hf.out]; rfl, rfl⟩
  have h3z : ¬ (1024 : Int) < (ls.length : Int) := by omega
  have hf : Hid (validOf ls = (!ls.any badL && decide (kraft ls ≤ 32768))) := by show _ = _; unfold validOf; rw [decide_eq_true (by omega), Bool.true_and]
  go_enter Try.func27, Try.ntmps27
  go_wp2
  go_loopg [3, 11] ls.length (fun kx s3 s11 w' => ∃ (k : Nat), s11 = .int .i64 k ∧ k ≤ ls.length ∧ ls.length - k ≤ kx ∧ s3 = .int .i64 (kraft (ls.take k)) ∧ w = w' ∧ Hid ((ls.take k).any badL = false))
  case atStart => exact ⟨0, rfl, by omega, by omega, rfl, rfl, rfl⟩
  case round =>
    obtain ⟨k, rfl, hk, hkx, rfl, rfl, HNB⟩ := hrel
    have hpl := kraft_le (ls.take k)
    have htl : (ls.take k).length ≤ k := List.length_take_le _ _
    by_cases hlt : k < ls.length
    · have hltz : (k : Int) < (ls.length : Int) := by omega
      obtain ⟨ad, rfl, hx⟩ := int_at HR.out k hlt
      have hts := take_snoc_rd ls k hlt
      have hps : Hid (kraft (ls.take (k + 1)) = kraft (ls.take k) + part (rd ls k)) := by
        show _ = _
        rw [hts, kraft_snoc]
      have hbad : Hid ((ls.take (k + 1)).any badL = badL (rd ls k)) := by
        show _ = _
        rw [hts, List.any_append, HNB.out]
        simp
      have hbm : Hid (badL (rd ls k) = true → ls.any badL = true) := by
        intro h
        rw [← List.take_append_drop (k + 1) ls, List.any_append, hbad.out, h]
        rfl
      clear hts
      generalize rd ls (k : Int) = x at hx hps hbad hbm
      by_cases hx0 : x < 0
      · have hd : decide (x < 0) = true := decide_eq_true hx0
        have hfin : Hid (validOf ls = false) := by show _ = _; rw [hf.out, hbm.out (by simp [badL, hx0])]; rfl
        go_wp2
        go_ret
        exact ⟨by rw [hfin.out]; rfl, rfl⟩
      · have hd : decide (x < 0) = false := decide_eq_false hx0
        by_cases hx1 : 15 < x
        · have hd1 : decide (15 < x) = true := decide_eq_true hx1
          have hfin : Hid (validOf ls = false) := by show _ = _; rw [hf.out, hbm.out (by simp [badL, hx1])]; rfl
          go_wp2
          go_ret
          exact ⟨by rw [hfin.out]; rfl, rfl⟩
        · have hd1 : decide (15 < x) = false := decide_eq_false hx1
          have hnb : Hid ((ls.take (k + 1)).any badL = false) := by show _ = _; rw [hbad.out]; simp [badL, hx0, hx1]
          by_cases hp : 0 < x
          · have hlim : x = 1 ∨ x = 2 ∨ x = 3 ∨ x = 4 ∨ x = 5 ∨ x = 6 ∨ x = 7 ∨ x = 8 ∨ x = 9 ∨ x = 10 ∨ x = 11 ∨ x = 12 ∨ x = 13 ∨ x = 14 ∨ x = 15 := by omega
            generalize kraft (ls.take k) = K at hps hpl ⊢
            have hlk : (ls.take k).length ≤ 1024 := by omega
            have hK : K ≤ 33554432 := by omega
            clear hd hd1 hx0 hx1 hp hbad hbm
            rcases hlim with rfl | rfl | rfl | rfl | rfl | rfl | rfl | rfl | rfl | rfl | rfl | rfl | rfl | rfl | rfl
            all_goals go_wp2
            all_goals go_roundg (ls.length - (k + 1))
            all_goals first | (case measure => omega) | skip
            all_goals exact ⟨k + 1, by go_num, by omega, Nat.le_refl _, by rw [hps.out]; simp [part]; try rfl, rfl, hnb⟩
          · have hps2 : Hid (kraft (ls.take (k + 1)) = kraft (ls.take k)) := by show _ = _; rw [hps.out]; simp [part, hp]
            go_wp2
            go_roundg (ls.length - (k + 1))
            case measure => omega
            case rel => exact ⟨k + 1, by go_num, by omega, Nat.le_refl _, by rw [hps2.out], rfl, hnb⟩
    · have hltz : ¬ (k : Int) < (ls.length : Int) := by omega
      obtain rfl : k = ls.length := by omega
      rw [List.take_length] at *
      have hfin : Hid (validOf ls = decide ((kraft ls : Int) ≤ 32768)) := by
        show _ = _
        rw [hf.out, HNB.out]
        simp only [Bool.not_false, Bool.true_and]
        congr 1
        rw [eq_iff_iff]
        omega
      generalize kraft ls = K at *
      have hK : K ≤ 33554432 := by omega
      go_wp2
      go_ret
      exact ⟨by rw [hfin.out]; rfl, rfl⟩
end Go.Proofs.Ytdmhhgkplcaejaa
