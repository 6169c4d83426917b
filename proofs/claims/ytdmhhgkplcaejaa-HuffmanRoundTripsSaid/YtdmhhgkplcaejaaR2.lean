/- Counted symbols: the lengths for their counts serve; the cost is the number of bits. -/
import Derived.Test.YtdmhhgkplcaejaaPMA
import Derived.Test.YtdmhhgkplcaejaaR1
namespace Go.Proofs.Ytdmhhgkplcaejaa
open Go.RowKit Go.Sort Go.Proofs.YtdmhhgkplcaejaaW.PrintWords

theorem kr_scale' (cs xs : List Int) (m d : Int) (hd : 0 ≤ d) : ∀ n : Nat, (∀ j : Nat, j < n → 0 < rd cs j → rd xs j ≤ m) → psum (kr cs xs (m + d)) n = 2 ^ d.toNat * psum (kr cs xs m) n
  | 0, _ => by simp [psum]
  | n + 1, h => by
    rw [psum, psum, kr_scale' cs xs m d hd n (fun j hj => h j (by omega)), Int.mul_add]
    congr 1
    unfold kr
    split
    · rename_i h0
      have := h n (by omega) h0
      rw [show (m + d - rd xs n).toNat = d.toNat + (m - rd xs n).toNat by omega, Int.pow_add]
    · rw [Int.mul_zero]
theorem kraft_psum (ls : List Int) : (kraft ls : Int) = psum (fun j => (part (rd ls j) : Int)) ls.length := by
  unfold kraft
  rw [nat_sum]
  induction ls with
  | nil => rfl
  | cons a ls ih =>
    rw [List.map_cons, List.sum_cons, ih, List.length_cons, psum_front]
    rfl
theorem fine_valid {cs ls : List Int} {m : Int} (h : Fine cs m ls) (hl : cs.length ≤ 1024) : validOf ls = true := by
  have hlim := h.lim
  have hr : ∀ j : Nat, j < cs.length → 0 ≤ rd ls j ∧ rd ls j ≤ 15 := fun j hj => by
    have := h.cnt j hj
    rcases Int.lt_or_le 0 (rd cs j) with g | g
    · have := h.pos j hj g; omega
    · have := h.zero j hj (by omega); omega
  have hk : (kraft ls : Int) ≤ 32768 := by
    rw [kraft_psum, h.len]
    have e : psum (fun j => (part (rd ls j) : Int)) cs.length = psum (kr cs ls (m + (15 - m))) cs.length := by
      apply psum_congr
      intro j hj
      unfold kr part
      have := h.cnt j hj
      by_cases g : 0 < rd cs j
      · have := h.pos j hj g
        rw [if_pos g, if_pos (by omega), show (m + (15 - m) - rd ls j).toNat = 15 - (rd ls j).toNat by omega]
        simp
      · have := h.zero j hj (by omega)
        rw [if_neg g, if_neg (by omega)]
        rfl
    rw [e, kr_scale' cs ls m (15 - m) (by omega) cs.length (fun j hj g => (h.pos j hj g).2)]
    have h1 := Int.mul_le_mul_of_nonneg_left h.kraft (Int.le_of_lt (pow_posI (15 - m).toNat))
    rw [← Int.pow_add, show (15 - m).toNat + m.toNat = 15 by omega] at h1
    have h2 : (2 : Int) ^ 15 = 32768 := by decide
    omega
  have hb : ls.any badL = false := by
    cases e : ls.any badL with
    | false => rfl
    | true =>
      obtain ⟨x, hx, hxb⟩ := List.any_eq_true.1 e
      obtain ⟨j, hj, he⟩ := List.getElem_of_mem hx
      have := hr j (by rw [← h.len]; exact hj)
      rw [rd_nat _ _ hj, he] at this
      unfold badL at hxb
      simp at hxb
      omega
  unfold validOf
  rw [hb, decide_eq_true (by rw [h.len]; exact hl), decide_eq_true (by omega)]
  rfl

/-- The counts of the first k symbols. -/
def cntOf (ss : List Int) : Nat → List Int
  | 0 => List.replicate 32 0
  | k + 1 => (cntOf ss k).set (rd ss k).toNat (rd (cntOf ss k) (rd ss k) + 1)
theorem cntOf_length (ss : List Int) : ∀ k, (cntOf ss k).length = 32
  | 0 => by simp [cntOf]
  | k + 1 => by rw [cntOf, List.length_set, cntOf_length ss k]
theorem cntOf_bound (ss : List Int) : ∀ (k : Nat) (s : Int), 0 ≤ s → 0 ≤ rd (cntOf ss k) s ∧ rd (cntOf ss k) s ≤ k
  | 0, s, _ => by rw [cntOf, rd_zeros]; omega
  | k + 1, s, hs => by
    have ih := cntOf_bound ss k s hs
    rw [cntOf, rd_set _ _ _ _ hs]
    split
    · rename_i h
      have := cntOf_bound ss k (rd ss k)
      rcases Int.lt_or_le (rd ss k) 0 with g | g
      · have e : (rd ss k).toNat = 0 := by omega
        rw [e] at h
        have e0 : rd (cntOf ss k) (rd ss k) = rd (cntOf ss k) 0 := by
          show (cntOf ss k).getD (rd ss k).toNat 0 = (cntOf ss k).getD (0 : Int).toNat 0
          rw [e]
          rfl
        have := cntOf_bound ss k 0 (by omega)
        rw [e0]
        omega
      · have := this g
        omega
    · omega
theorem cntOf_pos (ss : List Int) (hss : ∀ s ∈ ss, 0 ≤ s ∧ s < 32) : ∀ k, k ≤ ss.length → ∀ i, i < k → 0 < rd (cntOf ss k) (rd ss i)
  | 0, _, i, h => by omega
  | k + 1, hk, i, hi => by
    have hs := hss _ (rd_mem (show i < ss.length by omega))
    have hb := cntOf_bound ss k (rd ss i) hs.1
    rw [cntOf, rd_set _ _ _ _ hs.1]
    rcases Nat.lt_or_ge i k with h | h
    · have := cntOf_pos ss hss k (by omega) i h
      split
      · rename_i g
        have hk2 := hss _ (rd_mem (show k < ss.length by omega))
        have := cntOf_bound ss k (rd ss k) hk2.1
        omega
      · exact this
    · have e : i = k := by omega
      subst e
      rw [if_pos ⟨by rw [cntOf_length]; omega, by omega⟩]
      omega
theorem cw_comm (a b : List Int) (n : Nat) : psum (cw a b) n = psum (cw b a) n := psum_congr _ _ n (fun j _ => Int.mul_comm _ _)
theorem cost_bits (ls cs ss : List Int) (hl : ls.length = 32) (hn : ∀ s : Int, 0 ≤ s → 0 ≤ rd ls s) (hss : ∀ s ∈ ss, 0 ≤ s ∧ s < 32) : ∀ k, k ≤ ss.length → psum (cw (cntOf ss k) ls) 32 = ((bitsOf ls cs (ss.take k)).length : Int)
  | 0, _ => by
    have : ∀ n : Nat, psum (cw (cntOf ss 0) ls) n = 0 := by
      intro n
      induction n with
      | zero => rfl
      | succ n ih => rw [psum, ih, cw, cntOf, rd_zeros]; simp
    rw [this]
    simp [bitsOf]
  | k + 1, hk => by
    have ih := cost_bits ls cs ss hl hn hss k (by omega)
    have hs := hss _ (rd_mem (show k < ss.length by omega))
    have hnn := hn (rd ss k) hs.1
    rw [take_snoc_rd ss k (by omega), bitsOf_snoc, List.length_append, low_length]
    have h1 := dot_set ls (cntOf ss k) (rd ss k).toNat (rd (cntOf ss k) (rd ss k) + 1) (by omega) (by rw [cntOf_length]; omega)
    rw [show (((rd ss k).toNat : Nat) : Int) = rd ss k by omega] at h1
    rw [dot_psum ls _ (by rw [List.length_set, cntOf_length, hl]), dot_psum ls _ (by rw [cntOf_length, hl]), hl, cw_comm ls, cw_comm ls, ih] at h1
    rw [cntOf, h1, show rd (cntOf ss k) (rd ss k) + 1 - rd (cntOf ss k) (rd ss k) = 1 by omega, Int.mul_one]
    omega

/-- The whole: counts, lengths, bits, symbols. -/
theorem trips {ss : List Int} {limit : Int} (h100 : ss.length ≤ 100) (h5 : 5 ≤ limit) (h15 : limit ≤ 15) (hss : ∀ s ∈ ss, 0 ≤ s ∧ s < 32) :
    checkOf (cntOf ss ss.length) limit = 0 ∧ (lengthsOf (cntOf ss ss.length) limit.toNat).length = 32 ∧
    encE (lengthsOf (cntOf ss ss.length) limit.toNat) ss = 0 ∧
    psum (cw (cntOf ss ss.length) (lengthsOf (cntOf ss ss.length) limit.toNat)) 32 = ((encB (lengthsOf (cntOf ss ss.length) limit.toNat) ss).length : Int) ∧
    decV (lengthsOf (cntOf ss ss.length) limit.toNat) (packS (encB (lengthsOf (cntOf ss ss.length) limit.toNat) ss)) ((encB (lengthsOf (cntOf ss ss.length) limit.toNat) ss).length : Int) (ss.length : Int) = (ss, 0) ∧
    (∀ j : Nat, j < 32 → 0 ≤ rd (lengthsOf (cntOf ss ss.length) limit.toNat) j ∧ rd (lengthsOf (cntOf ss ss.length) limit.toNat) j ≤ 15) := by
  have hcl := cntOf_length ss ss.length
  have hcb := cntOf_bound ss ss.length
  have hcp := cntOf_pos ss hss ss.length (Nat.le_refl _)
  generalize hcs : cntOf ss ss.length = cs at *
  have hck : checkOf cs limit = 0 := by
    unfold checkOf
    have hb : cs.any badC = false := by
      cases e : cs.any badC with
      | false => rfl
      | true =>
        obtain ⟨x, hx, hxb⟩ := List.any_eq_true.1 e
        obtain ⟨j, hj, he⟩ := List.getElem_of_mem hx
        have := hcb j (by omega)
        rw [rd_nat _ _ hj, he] at this
        unfold badC at hxb
        simp at hxb
        omega
    have hp := npos_le cs
    have h32 : 2 ^ 5 ≤ 2 ^ limit.toNat := Nat.pow_le_pow_right (by decide) (by omega)
    rw [if_neg (by omega), if_neg (by omega), hb, if_neg (by simp), if_neg (by omega)]
  have hF := fine_holds hck
  have hv := fine_valid hF (by omega)
  generalize hls : lengthsOf cs limit.toNat = ls at *
  have hlen : ls.length = 32 := by rw [hF.len, hcl]
  have hr : ∀ j : Nat, j < 32 → 0 ≤ rd ls j ∧ rd ls j ≤ 15 := fun j hj => by
    have := (valid_ok hv).2.1 _ (rd_mem (show j < ls.length by omega))
    exact this
  have hpos : ∀ s ∈ ss, 0 ≤ s ∧ s < ls.length ∧ 0 < rd ls s := fun s hs => by
    obtain ⟨i, hi, he⟩ := List.getElem_of_mem hs
    have h1 := hcp i hi
    rw [rd_nat _ _ hi, he] at h1
    obtain ⟨h2, h3⟩ := hss s hs
    obtain ⟨t, rfl⟩ := Int.eq_ofNat_of_zero_le h2
    have := hF.pos t (by omega) h1
    exact ⟨by omega, by omega, by omega⟩
  have hbad : ss.any (badS ls) = false := by
    cases e : ss.any (badS ls) with
    | false => rfl
    | true =>
      obtain ⟨x, hx, hxb⟩ := List.any_eq_true.1 e
      have := hpos x hx
      unfold badS at hxb
      simp at hxb
      omega
  have hE : encE ls ss = 0 := by
    unfold encE
    rw [if_pos hv, if_neg (by omega), hbad]
    rfl
  have hB : encB ls ss = bitsOf ls (codesOf ls) ss := by unfold encB; rw [if_pos hE]
  have hcost := cost_bits ls (codesOf ls) ss hlen (fun s hs => by
    rcases Int.lt_or_le s 32 with g | g
    · obtain ⟨t, rfl⟩ := Int.eq_ofNat_of_zero_le hs
      exact (hr t (by omega)).1
    · unfold rd
      rw [List.getD_eq_getElem?_getD, List.getElem?_eq_none (by omega)]
      exact Int.le_refl _) hss ss.length (Nat.le_refl _)
  rw [hcs, List.take_length] at hcost
  refine ⟨hck, hlen, hE, by rw [hB]; exact hcost, ?_, hr⟩
  rw [hB]
  have hpl := packS_length (bitsOf ls (codesOf ls) ss)
  have hargs : decArgs ls (packS (bitsOf ls (codesOf ls) ss)) ((bitsOf ls (codesOf ls) ss).length : Int) (ss.length : Int) := ⟨hv, by omega, by omega, by omega, by omega⟩
  unfold decV
  rw [if_pos hargs, Int.toNat_natCast, Int.toNat_natCast, bits_pack, decOf_bits hv hpos]
end Go.Proofs.Ytdmhhgkplcaejaa
