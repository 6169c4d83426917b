/- No code of valid lengths is the beginning of another one: the plain law. -/
import Derived.Test.YtdmhhgkplcaejaaE9
import Derived.Test.YtdmhhgkplcaejaaE12
namespace Go.Proofs.Ytdmhhgkplcaejaa
open Go.Shelf Go.RowKit Go.Lib Go.Sort Go.Proofs.YtdmhhgkplcaejaaW.PrintWords

theorem fillC_at {ls l : List Int} (h : InOrd ls l) (s : Int) (hs : 0 ≤ s) : ∀ k, k ≤ l.length → (∃ j, j < k ∧ rd l j = s) → ∃ j, j < k ∧ rd l j = s ∧ rd (fillC ls l k) s = cd ls l j
  | 0, _, hj => by obtain ⟨j, hj, _⟩ := hj; omega
  | k + 1, hk, hj => by
    have hm := h.mem k (by omega)
    rw [fillC, rd_set _ _ _ _ hs, fillC_length]
    by_cases hc : rd l k = s
    · rw [if_pos ⟨by omega, by omega⟩]
      exact ⟨k, by omega, hc, rfl⟩
    · rw [if_neg (fun hh => hc (by omega))]
      obtain ⟨j, h1, h2⟩ := hj
      have hjk : j ≠ k := fun e => hc (by rw [← e]; exact h2)
      obtain ⟨j', h1', h2', h3'⟩ := fillC_at h s hs k (by omega) ⟨j, by omega, h2⟩
      exact ⟨j', by omega, h2', h3'⟩

theorem codes_at {ls : List Int} (hv : validOf ls = true) (s : Nat) (hs : s < ls.length) (hp : 0 < rd ls s) :
    ∃ j, j < (orderOf ls).length ∧ rd (orderOf ls) j = s ∧ rd (codesOf ls) s = cd ls (orderOf ls) j := by
  have hm : (s : Int) ∈ orderOf ls := by
    rw [show (s : Int) ∈ orderOf ls ↔ (s : Int) ∈ syms 0 ls from (isort_perm _ _).mem_iff, mem_syms]
    exact ⟨s, hs, by simp, by rw [rd_nat _ _ hs] at hp; exact hp⟩
  obtain ⟨j, hj, he⟩ := List.getElem_of_mem hm
  exact fillC_at (inOrd hv) s (by omega) _ (Nat.le_refl _) ⟨j, hj, by rw [rd_nat _ _ hj]; exact he⟩

theorem InOrd.cd_scaled {ls l : List Int} (h : InOrd ls l) {k : Nat} (hk : k < l.length) : cd ls l k * 2 ^ (15 - ln ls l k) = ksum ls l k := by
  have h1 := h.cd_sum k hk
  rw [ksum_succ _ _ _ hk, h.part_ln hk, Nat.add_mul, Nat.one_mul] at h1
  omega
theorem ksum_mono {ls l : List Int} {a b : Nat} (hab : a ≤ b) (hb : b ≤ l.length) : ksum ls l a ≤ ksum ls l b := by
  induction b with
  | zero => have : a = 0 := by omega
            subst this; exact Nat.le_refl _
  | succ b ih =>
    rcases Nat.lt_or_ge a (b + 1) with h | h
    · have := ih (by omega) (by omega)
      rw [ksum_succ _ _ _ (by omega)]
      omega
    · have : a = b + 1 := by omega
      subst this; exact Nat.le_refl _
theorem InOrd.ln_mono' {ls l : List Int} (h : InOrd ls l) {a b : Nat} (hab : a ≤ b) (hb : b < l.length) : ln ls l a ≤ ln ls l b := by
  induction b with
  | zero => have : a = 0 := by omega
            subst this; exact Nat.le_refl _
  | succ b ih =>
    rcases Nat.lt_or_ge a (b + 1) with h1 | h1
    · exact Nat.le_trans (ih (by omega) (by omega)) (h.ln_mono hb)
    · have : a = b + 1 := by omega
      subst this; exact Nat.le_refl _

theorem InOrd.before {ls l : List Int} (h : InOrd ls l) {a b : Nat} (hab : a < b) (hb : b < l.length) : (cd ls l a + 1) * 2 ^ (ln ls l b - ln ls l a) ≤ cd ls l b := by
  have h1 := h.cd_sum a (by omega)
  have h2 := h.cd_scaled hb
  have h3 := ksum_mono (ls := ls) (show a + 1 ≤ b from hab) (Nat.le_of_lt hb)
  have h4 := h.ln_mono' (Nat.le_of_lt hab) hb
  have h5 := h.ln_pos hb
  rw [← h1, ← h2, show 15 - ln ls l a = (ln ls l b - ln ls l a) + (15 - ln ls l b) by omega, Nat.pow_add, ← Nat.mul_assoc] at h3
  exact Nat.le_of_mul_le_mul_right h3 (Nat.two_pow_pos _)

theorem prefix_law {ls : List Int} (hv : validOf ls = true) (i k : Nat) (hi : i < ls.length) (hk : k < ls.length) (hne : i ≠ k) (hn : 0 < rd ls i) (hm : 0 < rd ls k) (hnm : rd ls i ≤ rd ls k) :
    rd (codesOf ls) k / 2 ^ (rd ls k - rd ls i).toNat ≠ rd (codesOf ls) i ∧ (rd ls i < rd ls k → 0 ≤ rd (codesOf ls) i * 2 ^ (rd ls k - rd ls i).toNat ∧ rd (codesOf ls) i * 2 ^ (rd ls k - rd ls i).toNat ≤ rd (codesOf ls) k) := by
  obtain ⟨a, ha, ea, ca⟩ := codes_at hv i hi hn
  obtain ⟨b, hb, eb, cb⟩ := codes_at hv k hk hm
  have hI := inOrd hv
  have la : ln ls (orderOf ls) a = (rd ls i).toNat := by unfold ln; rw [ea]
  have lb : ln ls (orderOf ls) b = (rd ls k).toNat := by unfold ln; rw [eb]
  have hd : (rd ls k - rd ls i).toNat = ln ls (orderOf ls) b - ln ls (orderOf ls) a := by rw [la, lb]; omega
  rw [ca, cb, hd]
  have hab : a ≠ b := by rintro rfl; omega
  have hcast : ∀ x e : Nat, (x : Int) * 2 ^ e = ((x * 2 ^ e : Nat) : Int) := fun x e => by push_cast; rfl
  have hcastd : ∀ x e : Nat, (x : Int) / 2 ^ e = ((x / 2 ^ e : Nat) : Int) := fun x e => by push_cast; rfl
  rcases Nat.lt_or_ge a b with h | h
  · have h1 := hI.before h hb
    generalize ln ls (orderOf ls) b - ln ls (orderOf ls) a = e at *
    constructor
    · rw [hcastd]
      intro h2
      have h3 : cd ls (orderOf ls) b / 2 ^ e = cd ls (orderOf ls) a := by exact_mod_cast h2
      have h4 : cd ls (orderOf ls) a + 1 ≤ cd ls (orderOf ls) b / 2 ^ e := (Nat.le_div_iff_mul_le (Nat.two_pow_pos _)).2 h1
      omega
    · intro _
      rw [hcast]
      rw [Nat.add_mul] at h1
      omega
  · have hba : b < a := by omega
    have h1 := hI.before hba ha
    have h2 := hI.ln_mono' (Nat.le_of_lt hba) ha
    have h3 : ln ls (orderOf ls) a ≤ ln ls (orderOf ls) b := by rw [la, lb]; exact Int.toNat_le_toNat hnm
    have h4 : ln ls (orderOf ls) b - ln ls (orderOf ls) a = 0 := by omega
    have h5 : ln ls (orderOf ls) a - ln ls (orderOf ls) b = 0 := by omega
    rw [h5] at h1
    rw [h4]
    constructor
    · rw [Int.pow_zero, Int.ediv_one]
      omega
    · intro h6
      have : (rd ls i).toNat = (rd ls k).toNat := by omega
      omega
end Go.Proofs.Ytdmhhgkplcaejaa
