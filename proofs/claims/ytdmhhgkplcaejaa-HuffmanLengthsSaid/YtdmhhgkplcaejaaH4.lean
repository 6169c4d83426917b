/- The errors of Lengths' arguments (huffman.check, the reference's Check). -/
import Derived.Test.YtdmhhgkplcaejaaH2
import Derived.WalkLawsBesides
namespace Go.Proofs.Ytdmhhgkplcaejaa
open Go.RowKit Go.Proofs.YtdmhhgkplcaejaaW.PrintWords

/-- How many numbers are greater than 0. -/
def npos (cs : List Int) : Nat := (cs.filter fun c => decide (0 < c)).length
def badC (c : Int) : Bool := decide (c < 0) || decide (4096 < c)
/-- The error of Lengths. -/
def checkOf (cs : List Int) (limit : Int) : Int :=
  if limit < 1 ∨ 15 < limit then 1 else if 1024 < cs.length then 2 else if cs.any badC = true then 8 else if 2 ^ limit.toNat < npos cs then 2 else 0

theorem npos_snoc (cs : List Int) (c : Int) : npos (cs ++ [c]) = npos cs + if 0 < c then 1 else 0 := by
  unfold npos
  rw [List.filter_append, List.length_append]
  by_cases h : 0 < c <;> simp [h]
theorem npos_le (cs : List Int) : npos cs ≤ cs.length := List.length_filter_le _ _

set_option maxHeartbeats 2000000 in
set_option maxRecDepth 100000 in
theorem check_calls (A : Option Addr) (c : Nat) (cs : List Int) (limit : Int) (w : World) (hr : Kd.C (Kd.int .i64) w A cs.length cs) (hn : cs.length ≤ 9223372036854775807) :
    Calls Try.prog 23 #[.slice A cs.length c, .int .i64 limit] w fun e w' => e = .returned (.int .i64 (checkOf cs limit)) ∧ w = w' := by
  have HR := Aside0.mk hr
  clear hr
  by_cases h1 : limit < 1
  · have hf : Hid (checkOf cs limit = 1) := by show _ = _; unfold checkOf; rw [if_pos (.inl h1)]
    have h1d : decide (limit < 1) = true := decide_eq_true h1
    go_enter Try.func23, Try.ntmps23
    go_wp2
    go_ret
    exact ⟨by rw [hf.out]; rfl, rfl⟩
  by_cases h2 : 15 < limit
  · have hf : Hid (checkOf cs limit = 1) := by show _ = _; unfold checkOf; rw [if_pos (.inr h2)]
    have h1d : decide (limit < 1) = false := decide_eq_false h1
    have h2d : decide (15 < limit) = true := decide_eq_true h2
    go_enter Try.func23, Try.ntmps23
    go_wp2
    go_ret
    exact ⟨by rw [hf.out]; rfl, rfl⟩
  have h1d : decide (limit < 1) = false := decide_eq_false h1
  have h2d : decide (15 < limit) = false := decide_eq_false h2
  by_cases h3 : 1024 < cs.length
  · have hf : Hid (checkOf cs limit = 2) := by show _ = _; unfold checkOf; rw [if_neg (by omega), if_pos h3]
    have h3z : (1024 : Int) < (cs.length : Int) := by omega
    go_enter Try.func23, Try.ntmps23
    go_wp2
    go_ret
    exact ⟨by rw [hf.out]; rfl, rfl⟩
  have h3z : ¬ (1024 : Int) < (cs.length : Int) := by omega
  have hf : Hid (checkOf cs limit = if cs.any badC = true then 8 else if 2 ^ limit.toNat < npos cs then 2 else 0) := by show _ = _; unfold checkOf; rw [if_neg (by omega), if_neg h3]
  go_enter Try.func23, Try.ntmps23
  go_wp2
  go_loopg [5, 21] cs.length (fun kx s5 s21 w' => ∃ (k : Nat), s21 = .int .i64 k ∧ k ≤ cs.length ∧ cs.length - k ≤ kx ∧ s5 = .int .i64 (npos (cs.take k)) ∧ w = w' ∧ Hid ((cs.take k).any badC = false))
  case atStart => exact ⟨0, rfl, by omega, by omega, rfl, rfl, rfl⟩
  case round =>
    obtain ⟨k, rfl, hk, hkx, rfl, rfl, HNB⟩ := hrel
    have hpl := npos_le (cs.take k)
    have htl : (cs.take k).length ≤ k := List.length_take_le _ _
    by_cases hlt : k < cs.length
    · have hltz : (k : Int) < (cs.length : Int) := by omega
      obtain ⟨ad, rfl, hx⟩ := int_at HR.out k hlt
      have hts := take_snoc_rd cs k hlt
      have hps : Hid (npos (cs.take (k + 1)) = npos (cs.take k) + if 0 < rd cs k then 1 else 0) := by
        show _ = _
        rw [hts, npos_snoc]
      have hbad : Hid ((cs.take (k + 1)).any badC = badC (rd cs k)) := by
        show _ = _
        rw [hts, List.any_append, HNB.out]
        simp
      have hbm : Hid (badC (rd cs k) = true → cs.any badC = true) := by
        intro h
        rw [← List.take_append_drop (k + 1) cs, List.any_append, hbad.out, h]
        rfl
      clear hts
      generalize rd cs (k : Int) = x at hx hps hbad hbm
      by_cases hx0 : x < 0
      · have hd : decide (x < 0) = true := decide_eq_true hx0
        have hfin : Hid (checkOf cs limit = 8) := by show _ = _; rw [hf.out, if_pos (hbm.out (by simp [badC, hx0]))]
        go_wp2
        go_ret
        exact ⟨by rw [hfin.out]; rfl, rfl⟩
      · have hd : decide (x < 0) = false := decide_eq_false hx0
        by_cases hx1 : 4096 < x
        · have hd1 : decide (4096 < x) = true := decide_eq_true hx1
          have hfin : Hid (checkOf cs limit = 8) := by show _ = _; rw [hf.out, if_pos (hbm.out (by simp [badC, hx1]))]
          go_wp2
          go_ret
          exact ⟨by rw [hfin.out]; rfl, rfl⟩
        · have hd1 : decide (4096 < x) = false := decide_eq_false hx1
          have hnb : Hid ((cs.take (k + 1)).any badC = false) := by show _ = _; rw [hbad.out]; simp [badC, hx0, hx1]
          by_cases hp : 0 < x
          · have hps2 : Hid (npos (cs.take (k + 1)) = npos (cs.take k) + 1) := by show _ = _; rw [hps.out, if_pos hp]
            go_wp2
            go_roundg (cs.length - (k + 1))
            case measure => omega
            case rel => exact ⟨k + 1, by go_num, by omega, Nat.le_refl _, by rw [hps2.out]; go_num, rfl, hnb⟩
          · have hps2 : Hid (npos (cs.take (k + 1)) = npos (cs.take k)) := by show _ = _; rw [hps.out, if_neg hp]; rfl
            go_wp2
            go_roundg (cs.length - (k + 1))
            case measure => omega
            case rel => exact ⟨k + 1, by go_num, by omega, Nat.le_refl _, by rw [hps2.out], rfl, hnb⟩
    · have hltz : ¬ (k : Int) < (cs.length : Int) := by omega
      obtain rfl : k = cs.length := by omega
      rw [List.take_length] at *
      have hfin : Hid (checkOf cs limit = if 2 ^ limit.toNat < npos cs then 2 else 0) := by show _ = _; rw [hf.out, if_neg (by rw [HNB.out]; simp)]
      generalize npos cs = p at *
      have hlim : limit = 1 ∨ limit = 2 ∨ limit = 3 ∨ limit = 4 ∨ limit = 5 ∨ limit = 6 ∨ limit = 7 ∨ limit = 8 ∨ limit = 9 ∨ limit = 10 ∨ limit = 11 ∨ limit = 12 ∨ limit = 13 ∨ limit = 14 ∨ limit = 15 := by omega
      clear hf HNB h1 h2 h1d h2d
      by_cases hq : 2 ^ limit.toNat < p
      · have hfin2 : Hid (checkOf cs limit = 2) := by show _ = _; rw [hfin.out, if_pos hq]
        clear hfin
        rcases hlim with rfl | rfl | rfl | rfl | rfl | rfl | rfl | rfl | rfl | rfl | rfl | rfl | rfl | rfl | rfl
        all_goals simp at hq
        all_goals go_wp2
        all_goals go_ret
        all_goals exact ⟨by rw [hfin2.out]; rfl, rfl⟩
      · have hfin2 : Hid (checkOf cs limit = 0) := by show _ = _; rw [hfin.out, if_neg hq]
        clear hfin
        rcases hlim with rfl | rfl | rfl | rfl | rfl | rfl | rfl | rfl | rfl | rfl | rfl | rfl | rfl | rfl | rfl
        all_goals simp at hq
        all_goals go_wp2
        all_goals go_ret
        all_goals exact ⟨by rw [hfin2.out]; rfl, rfl⟩
set_option maxHeartbeats 2000000 in
set_option maxRecDepth 100000 in
theorem refCheck_calls (A : Option Addr) (c : Nat) (cs : List Int) (limit : Int) (w : World) (hr : Kd.C (Kd.int .i64) w A cs.length cs) (hn : cs.length ≤ 9223372036854775807) :
    Calls Try.prog 16 #[.slice A cs.length c, .int .i64 limit] w fun e w' => e = .returned (.int .i64 (checkOf cs limit)) ∧ w = w' := by
  have HR := Aside0.mk hr
  clear hr
  by_cases h1 : limit < 1
  · have hf : Hid (checkOf cs limit = 1) := by show _ = _; unfold checkOf; rw [if_pos (.inl h1)]
    have h1d : decide (limit < 1) = true := decide_eq_true h1
    go_enter Try.func16, Try.ntmps16
    go_wp2
    go_ret
    exact ⟨by rw [hf.out]; rfl, rfl⟩
  by_cases h2 : 15 < limit
  · have hf : Hid (checkOf cs limit = 1) := by show _ = _; unfold checkOf; rw [if_pos (.inr h2)]
    have h1d : decide (limit < 1) = false := decide_eq_false h1
    have h2d : decide (15 < limit) = true := decide_eq_true h2
    go_enter Try.func16, Try.ntmps16
    go_wp2
    go_ret
    exact ⟨by rw [hf.out]; rfl, rfl⟩
  have h1d : decide (limit < 1) = false := decide_eq_false h1
  have h2d : decide (15 < limit) = false := decide_eq_false h2
  by_cases h3 : 1024 < cs.length
  · have hf : Hid (checkOf cs limit = 2) := by show _ = _; unfold checkOf; rw [if_neg (by omega), if_pos h3]
    have h3z : (1024 : Int) < (cs.length : Int) := by omega
    go_enter Try.func16, Try.ntmps16
    go_wp2
    go_ret
    exact ⟨by rw [hf.out]; rfl, rfl⟩
  have h3z : ¬ (1024 : Int) < (cs.length : Int) := by omega
  have hf : Hid (checkOf cs limit = if cs.any badC = true then 8 else if 2 ^ limit.toNat < npos cs then 2 else 0) := by show _ = _; unfold checkOf; rw [if_neg (by omega), if_neg h3]
  go_enter Try.func16, Try.ntmps16
  go_wp2
  go_loopg [5, 19] cs.length (fun kx s5 s19 w' => ∃ (k : Nat), s19 = .int .i64 k ∧ k ≤ cs.length ∧ cs.length - k ≤ kx ∧ s5 = .int .i64 (npos (cs.take k)) ∧ w = w' ∧ Hid ((cs.take k).any badC = false))
  case atStart => exact ⟨0, rfl, by omega, by omega, rfl, rfl, rfl⟩
  case round =>
    obtain ⟨k, rfl, hk, hkx, rfl, rfl, HNB⟩ := hrel
    have hpl := npos_le (cs.take k)
    have htl : (cs.take k).length ≤ k := List.length_take_le _ _
    by_cases hlt : k < cs.length
    · have hltz : (k : Int) < (cs.length : Int) := by omega
      obtain ⟨ad, rfl, hx⟩ := int_at HR.out k hlt
      have hts := take_snoc_rd cs k hlt
      have hps : Hid (npos (cs.take (k + 1)) = npos (cs.take k) + if 0 < rd cs k then 1 else 0) := by
        show _ = _
        rw [hts, npos_snoc]
      have hbad : Hid ((cs.take (k + 1)).any badC = badC (rd cs k)) := by
        show _ = _
        rw [hts, List.any_append, HNB.out]
        simp
      have hbm : Hid (badC (rd cs k) = true → cs.any badC = true) := by
        intro h
        rw [← List.take_append_drop (k + 1) cs, List.any_append, hbad.out, h]
        rfl
      clear hts
      generalize rd cs (k : Int) = x at hx hps hbad hbm
      by_cases hx0 : x < 0
      · have hd : decide (x < 0) = true := decide_eq_true hx0
        have hfin : Hid (checkOf cs limit = 8) := by show _ = _; rw [hf.out, if_pos (hbm.out (by simp [badC, hx0]))]
        go_wp2
        go_ret
        exact ⟨by rw [hfin.out]; rfl, rfl⟩
      · have hd : decide (x < 0) = false := decide_eq_false hx0
        by_cases hx1 : 4096 < x
        · have hd1 : decide (4096 < x) = true := decide_eq_true hx1
          have hfin : Hid (checkOf cs limit = 8) := by show _ = _; rw [hf.out, if_pos (hbm.out (by simp [badC, hx1]))]
          go_wp2
          go_ret
          exact ⟨by rw [hfin.out]; rfl, rfl⟩
        · have hd1 : decide (4096 < x) = false := decide_eq_false hx1
          have hnb : Hid ((cs.take (k + 1)).any badC = false) := by show _ = _; rw [hbad.out]; simp [badC, hx0, hx1]
          by_cases hp : 0 < x
          · have hps2 : Hid (npos (cs.take (k + 1)) = npos (cs.take k) + 1) := by show _ = _; rw [hps.out, if_pos hp]
            go_wp2
            go_roundg (cs.length - (k + 1))
            case measure => omega
            case rel => exact ⟨k + 1, by go_num, by omega, Nat.le_refl _, by rw [hps2.out]; go_num, rfl, hnb⟩
          · have hps2 : Hid (npos (cs.take (k + 1)) = npos (cs.take k)) := by show _ = _; rw [hps.out, if_neg hp]; rfl
            go_wp2
            go_roundg (cs.length - (k + 1))
            case measure => omega
            case rel => exact ⟨k + 1, by go_num, by omega, Nat.le_refl _, by rw [hps2.out], rfl, hnb⟩
    · have hltz : ¬ (k : Int) < (cs.length : Int) := by omega
      obtain rfl : k = cs.length := by omega
      rw [List.take_length] at *
      have hfin : Hid (checkOf cs limit = if 2 ^ limit.toNat < npos cs then 2 else 0) := by show _ = _; rw [hf.out, if_neg (by rw [HNB.out]; simp)]
      generalize npos cs = p at *
      have hlim : limit = 1 ∨ limit = 2 ∨ limit = 3 ∨ limit = 4 ∨ limit = 5 ∨ limit = 6 ∨ limit = 7 ∨ limit = 8 ∨ limit = 9 ∨ limit = 10 ∨ limit = 11 ∨ limit = 12 ∨ limit = 13 ∨ limit = 14 ∨ limit = 15 := by omega
      clear hf HNB h1 h2 h1d h2d
      by_cases hq : 2 ^ limit.toNat < p
      · have hfin2 : Hid (checkOf cs limit = 2) := by show _ = _; rw [hfin.out, if_pos hq]
        clear hfin
        rcases hlim with rfl | rfl | rfl | rfl | rfl | rfl | rfl | rfl | rfl | rfl | rfl | rfl | rfl | rfl | rfl
        all_goals simp at hq
        all_goals go_wp2
        all_goals go_ret
        all_goals exact ⟨by rw [hfin2.out]; rfl, rfl⟩
      · have hfin2 : Hid (checkOf cs limit = 0) := by show _ = _; rw [hfin.out, if_neg hq]
        clear hfin
        rcases hlim with rfl | rfl | rfl | rfl | rfl | rfl | rfl | rfl | rfl | rfl | rfl | rfl | rfl | rfl | rfl
        all_goals simp at hq
        all_goals go_wp2
        all_goals go_ret
        all_goals exact ⟨by rw [hfin2.out]; rfl, rfl⟩
end Go.Proofs.Ytdmhhgkplcaejaa
