/- What the table tells agrees with a search through all codes. -/
import Derived.Test.YtdmhhgkplcaejaaD3
namespace Go.Proofs.Ytdmhhgkplcaejaa
open Go.RowKit Go.Sort Go.Proofs.YtdmhhgkplcaejaaW.PrintWords

theorem pow_posI (n : Nat) : (0 : Int) < 2 ^ n := by
  have : 0 < 2 ^ n := Nat.two_pow_pos n
  exact_mod_cast this
theorem mem_cls {ls l : List Int} {n : Nat} {s : Int} : s ∈ cls ls l n ↔ s ∈ l ∧ rd ls s = n := by
  unfold cls
  rw [List.mem_filter, decide_eq_true_eq]
theorem mem_order {ls : List Int} {s : Nat} (hs : s < ls.length) (hp : 0 < rd ls s) : (s : Int) ∈ orderOf ls := by
  rw [show (s : Int) ∈ orderOf ls ↔ (s : Int) ∈ syms 0 ls from (isort_perm _ _).mem_iff, mem_syms]
  exact ⟨s, hs, by simp, by rw [rd_nat _ _ hs] at hp; exact hp⟩
theorem cls_all {ls : List Int} (hv : validOf ls = true) (n t : Nat) (ht : t < (cls ls (orderOf ls) n).length) :
    rd (codesOf ls) (rd (cls ls (orderOf ls) n) t) = fst' ls (codesOf ls) (orderOf ls) n + t ∧ 0 ≤ rd (cls ls (orderOf ls) n) t ∧ rd (cls ls (orderOf ls) n) t < ls.length ∧ rd ls (rd (cls ls (orderOf ls) n) t) = n := by
  have h1 := (cls_codes hv (orderOf ls).length (Nat.le_refl _)).1 n t
  rw [List.take_length] at h1
  have h2 := mem_cls.1 (rd_mem ht)
  have h3 := orderOf_mem h2.1
  exact ⟨h1 ht, h3.1, h3.2, h2.2⟩
theorem cls_idx {ls : List Int} (hv : validOf ls = true) {s : Nat} (hs : s < ls.length) {n : Nat} (hn : 0 < n) (h : rd ls s = n) : ∃ t, t < (cls ls (orderOf ls) n).length ∧ rd (cls ls (orderOf ls) n) t = s ∧ rd (codesOf ls) s = fst' ls (codesOf ls) (orderOf ls) n + t := by
  have h1 : (s : Int) ∈ cls ls (orderOf ls) n := mem_cls.2 ⟨mem_order hs (by omega), h⟩
  obtain ⟨t, ht, he⟩ := List.getElem_of_mem h1
  have h2 := (cls_all hv n t ht).1
  rw [rd_nat _ _ ht, he] at h2
  exact ⟨t, ht, by rw [rd_nat _ _ ht, he], h2⟩

/-- The longest length among the first j symbols in order. -/
def lgst (ls l : List Int) : Nat → Int
  | 0 => 0
  | j + 1 => rd ls (rd l j)

theorem tab_find {ls : List Int} (hv : validOf ls = true) (v : Int) (n : Nat) (hn : 0 < n) (h : fst' ls (codesOf ls) (orderOf ls) n ≤ v ∧ v - fst' ls (codesOf ls) (orderOf ls) n < ((cls ls (orderOf ls) n).length : Nat)) :
    refFind ls (codesOf ls) v n ls.length = rd (cls ls (orderOf ls) n) (v - fst' ls (codesOf ls) (orderOf ls) n) ∧ 0 ≤ refFind ls (codesOf ls) v n ls.length := by
  obtain ⟨t, ht⟩ := Int.eq_ofNat_of_zero_le (show 0 ≤ v - fst' ls (codesOf ls) (orderOf ls) n by omega)
  rw [ht]
  obtain ⟨h1, h2, h3, h4⟩ := cls_all hv n t (by omega)
  obtain ⟨s, hs⟩ := Int.eq_ofNat_of_zero_le h2
  rw [hs] at h1 h3 h4 ⊢
  have hsl : s < ls.length := by omega
  have hcv : rd (codesOf ls) s = v := by omega
  rcases refFind_spec ls (codesOf ls) v n ls.length with ⟨g1, g2⟩ | ⟨s', g1, g2, g3, g4⟩
  · exact absurd ⟨h4, hcv⟩ (g2 s hsl)
  · rw [g2]
    refine ⟨?_, by omega⟩
    rcases Nat.lt_trichotomy s s' with h | h | h
    · exfalso
      have := (prefix_law hv s s' hsl g1 (by omega) (by omega) (by omega) (by omega)).1
      rw [show rd ls s' - rd ls s = 0 by omega] at this
      simp at this
      omega
    · omega
    · exfalso
      have := (prefix_law hv s s' hsl g1 (by omega) (by omega) (by omega) (by omega)).1
      rw [show rd ls s' - rd ls s = 0 by omega] at this
      simp at this
      omega
theorem tab_none {ls : List Int} (hv : validOf ls = true) (v : Int) (n : Nat) (hn : 0 < n) (h : ¬ (fst' ls (codesOf ls) (orderOf ls) n ≤ v ∧ v - fst' ls (codesOf ls) (orderOf ls) n < ((cls ls (orderOf ls) n).length : Nat))) :
    refFind ls (codesOf ls) v n ls.length = -1 := by
  rcases refFind_spec ls (codesOf ls) v n ls.length with ⟨g1, g2⟩ | ⟨s, g1, g2, g3, g4⟩
  · exact g1
  · exfalso
    obtain ⟨t, h1, h2, h3⟩ := cls_idx hv g1 hn g3
    omega

theorem lgst_le {ls : List Int} (hv : validOf ls = true) {n : Nat} (hc : 0 < (cls ls (orderOf ls) n).length) : (n : Int) ≤ lgst ls (orderOf ls) (orderOf ls).length := by
  have hI := inOrd hv
  have h1 := mem_cls.1 (List.getElem_mem hc)
  obtain ⟨a, ha, hae⟩ := List.getElem_of_mem h1.1
  obtain ⟨j, hj⟩ : ∃ j, (orderOf ls).length = j + 1 := ⟨(orderOf ls).length - 1, by omega⟩
  rw [hj, lgst]
  have h5 := hI.ln_mono' (show a ≤ j by omega) (by omega)
  have p1 := hI.pos a (by omega)
  have p2 := hI.pos j (by omega)
  unfold ln at h5
  rw [rd_nat (orderOf ls) a ha, hae] at h5 p1
  have e := h1.2
  omega
theorem lgst_15 {ls : List Int} (hv : validOf ls = true) : 0 ≤ lgst ls (orderOf ls) (orderOf ls).length ∧ lgst ls (orderOf ls) (orderOf ls).length ≤ 15 := by
  have hI := inOrd hv
  rcases Nat.eq_zero_or_pos (orderOf ls).length with h | h
  · rw [h, lgst]; omega
  · obtain ⟨j, hj⟩ : ∃ j, (orderOf ls).length = j + 1 := ⟨(orderOf ls).length - 1, by omega⟩
    rw [hj, lgst]
    have p2 := hI.pos j (by omega)
    omega

/-- begins, at one length. -/
def begP (ls : List Int) (v : Int) (n k : Nat) : Prop :=
  0 < (cls ls (orderOf ls) k).length ∧ v ≤ (fst' ls (codesOf ls) (orderOf ls) k + ((cls ls (orderOf ls) k).length : Nat) - 1) / 2 ^ (k - n) ∧ fst' ls (codesOf ls) (orderOf ls) k / 2 ^ (k - n) ≤ v

theorem tab_alive {ls : List Int} (hv : validOf ls = true) (v : Int) (n : Nat) (hn : 0 < n) :
    (∃ k : Nat, n ≤ k ∧ (k : Int) ≤ lgst ls (orderOf ls) (orderOf ls).length ∧ begP ls v n k) ↔ refAlive ls (codesOf ls) v n ls.length = true := by
  rw [refAlive_iff]
  constructor
  · rintro ⟨k, h1, h2, h3, h4, h5⟩
    have hp := pow_posI (k - n)
    have key : ∃ t : Nat, t < (cls ls (orderOf ls) k).length ∧ (fst' ls (codesOf ls) (orderOf ls) k + t) / 2 ^ (k - n) = v := by
      generalize fst' ls (codesOf ls) (orderOf ls) k = f at *
      generalize (cls ls (orderOf ls) k).length = m at *
      generalize (2 : Int) ^ (k - n) = D at *
      rcases Int.lt_or_le (f / D) v with h | h
      · have g1 : f < v * D := by
          have := (Int.ediv_lt_iff_lt_mul hp).1 h
          exact this
        have g2 : v * D ≤ f + m - 1 := (Int.le_ediv_iff_mul_le hp).1 h4
        refine ⟨(v * D - f).toNat, by omega, ?_⟩
        rw [show f + ((v * D - f).toNat : Nat) = v * D by omega]
        exact Int.mul_ediv_cancel _ (by omega)
      · exact ⟨0, h3, by simp; omega⟩
    obtain ⟨t, ht, he⟩ := key
    obtain ⟨g1, g2, g3, g4⟩ := cls_all hv k t ht
    obtain ⟨s, hs⟩ := Int.eq_ofNat_of_zero_le g2
    rw [hs] at g1 g3 g4
    refine ⟨s, by omega, by omega, ?_⟩
    rw [g4, g1, show ((k : Int) - n).toNat = k - n by omega]
    exact he
  · rintro ⟨s, h1, h2, h3⟩
    obtain ⟨k, hk⟩ := Int.eq_ofNat_of_zero_le (show 0 ≤ rd ls s by omega)
    obtain ⟨t, g1, g2, g3⟩ := cls_idx hv h1 (n := k) (by omega) hk
    refine ⟨k, by omega, lgst_le hv (by omega), by omega, ?_, ?_⟩
    · rw [← h3, hk, g3, show ((k : Int) - n).toNat = k - n by omega]
      exact Int.ediv_le_ediv (pow_posI _) (by omega)
    · rw [← h3, hk, g3, show ((k : Int) - n).toNat = k - n by omega]
      exact Int.ediv_le_ediv (pow_posI _) (by omega)
theorem alive_bound {ls : List Int} (hv : validOf ls = true) {v : Int} {n : Nat} (h : refAlive ls (codesOf ls) v n ls.length = true) : n ≤ 15 ∧ 0 ≤ v ∧ v ≤ 32768 := by
  obtain ⟨s, h1, h2, h3⟩ := (refAlive_iff _ _ _ _ _).1 h
  have h4 := (valid_ok hv).2.1 _ (rd_mem h1)
  have h5 := codesOf_lt hv s (by omega)
  have h6 : rd (codesOf ls) s ≤ 32768 := by
    have := Nat.pow_le_pow_right (n := 2) (by decide) (show (rd ls s).toNat ≤ 15 by omega)
    have h7 : (2 : Int) ^ (rd ls s).toNat ≤ 2 ^ 15 := by exact_mod_cast this
    have h8 : (2 : Int) ^ 15 = 32768 := by decide
    omega
  have h9 := Int.ediv_nonneg h5.1 (Int.le_of_lt (pow_posI (rd ls s - n).toNat))
  have h10 := Int.ediv_le_self (2 ^ (rd ls s - (n : Int)).toNat) h5.1
  omega
theorem fst_bound {ls : List Int} (hv : validOf ls = true) (n : Nat) : 0 ≤ fst' ls (codesOf ls) (orderOf ls) n ∧ fst' ls (codesOf ls) (orderOf ls) n ≤ 32768 := by
  unfold fst'
  split
  · omega
  · rename_i h
    obtain ⟨g1, g2, g3, g4⟩ := cls_all hv n 0 (by omega)
    have h5 := codesOf_lt hv (rd (cls ls (orderOf ls) n) (0 : Nat)) g2
    have h4 := (valid_ok hv).2.1 (rd ls (rd (cls ls (orderOf ls) n) (0 : Nat))) (by
      obtain ⟨s, hs⟩ := Int.eq_ofNat_of_zero_le g2
      rw [hs]
      exact rd_mem (by omega))
    have h6 := Nat.pow_le_pow_right (n := 2) (by decide) (show (rd ls (rd (cls ls (orderOf ls) n) (0 : Nat))).toNat ≤ 15 by omega)
    have h7 : (2 : Int) ^ (rd ls (rd (cls ls (orderOf ls) n) (0 : Nat))).toNat ≤ 2 ^ 15 := by exact_mod_cast h6
    have h8 : (2 : Int) ^ 15 = 32768 := by decide
    change 0 ≤ rd (codesOf ls) (rd (cls ls (orderOf ls) n) ((0 : Nat) : Int)) ∧ rd (codesOf ls) (rd (cls ls (orderOf ls) n) ((0 : Nat) : Int)) ≤ 32768
    omega
end Go.Proofs.Ytdmhhgkplcaejaa
