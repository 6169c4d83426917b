/- Encoding and decoding, plain: bits packed and unpacked; symbols decoded again. -/
import Derived.Test.YtdmhhgkplcaejaaD7
namespace Go.Proofs.Ytdmhhgkplcaejaa
open Go.RowKit Go.Sort Go.Proofs.YtdmhhgkplcaejaaW.PrintWords

theorem or_nat : ∀ r q : Fin 8, ∀ y : Fin 256, (y.val ||| (128 / 2 ^ r.val)) / 2 ^ (7 - q.val) % 2 = if q = r then 1 else y.val / 2 ^ (7 - q.val) % 2 := by decide +kernel
theorem orB_bit (y : Int) (r q : Nat) (h0 : 0 ≤ y) (h1 : y ≤ 255) (hr : r < 8) (hq : q < 8) : orB y r / 2 ^ (7 - q) % 2 = if q = r then 1 else y / 2 ^ (7 - q) % 2 := by
  obtain ⟨n, rfl⟩ := Int.eq_ofNat_of_zero_le h0
  have key := or_nat ⟨r, hr⟩ ⟨q, hq⟩ ⟨n, by omega⟩
  simp only [Fin.mk.injEq] at key
  unfold orB
  rw [Int.toNat_natCast]
  have e1 : ((n ||| 128 / 2 ^ r : Nat) : Int) / 2 ^ (7 - q) % 2 = (((n ||| 128 / 2 ^ r) / 2 ^ (7 - q) % 2 : Nat) : Int) := by push_cast; rfl
  have e2 : (n : Int) / 2 ^ (7 - q) % 2 = ((n / 2 ^ (7 - q) % 2 : Nat) : Int) := by push_cast; rfl
  rw [e1, e2, key]
  split <;> rfl

/-- Packed bits are found again; what stands behind them is 0. -/
theorem packS_bits (l : List Bool) : ∀ m, m ≤ l.length → ∀ k, k < 8 * (packS (l.take m)).length → bitAt (packS (l.take m)) k = if (l.take m).getD k false then 1 else 0 := by
  intro m
  induction m with
  | zero => intro _ k hk; simp [packS, packF] at hk
  | succ m ih =>
    intro hm k hk
    have ih := ih (by omega)
    have hl : (l.take m).length = m := by rw [List.length_take]; omega
    have hok := packS_ok (l.take m)
    rw [hl] at hok
    rw [List.take_succ_eq_append_getElem hm, packS_snoc, hl] at hk ⊢
    generalize l.take m = a at *
    generalize l[m] = x at *
    obtain ⟨r1, r2⟩ := roomB_ok hok
    have hroom : ∀ j, j < 8 * (roomB (packS a) m).length → bitAt (roomB (packS a) m) j = if a.getD j false then 1 else 0 := by
      intro j hj
      unfold roomB at hj ⊢
      split at hj
      · rename_i h8
        rw [if_pos h8]
        rw [List.length_append, List.length_singleton] at hj
        rcases Nat.lt_or_ge j (8 * (packS a).length) with h | h
        · rw [← ih j h]
          unfold bitAt
          rw [rd_app _ _ _ (by omega)]
        · have hlen := hok.2
          have e : j / 8 = (packS a).length := by omega
          have hg0 : a.getD j false = false := by
            rw [List.getD_eq_getElem?_getD, List.getElem?_eq_none (by omega)]
            rfl
          unfold bitAt rd
          rw [e, hg0]
          simp
      · rename_i h8
        rw [if_neg h8]
        exact ih j hj
    have hget : (a ++ [x]).getD k false = if k = m then x else a.getD k false := by
      rw [List.getD_eq_getElem?_getD, List.getD_eq_getElem?_getD]
      rcases Nat.lt_trichotomy k m with h | h | h
      · rw [List.getElem?_append_left (by omega), if_neg (by omega)]
      · subst h
        rw [if_pos rfl, List.getElem?_append_right (by omega), hl]
        simp
      · rw [if_neg (by omega), List.getElem?_eq_none (by rw [List.length_append]; simp; omega), List.getElem?_eq_none (by omega)]
    rw [hget]
    unfold putB at hk ⊢
    cases x with
    | false =>
      simp only [if_false, Bool.false_eq_true] at hk ⊢
      rw [hroom k hk]
      by_cases h : k = m
      · subst h
        rw [if_pos rfl, List.getD_eq_getElem?_getD, List.getElem?_eq_none (by omega)]
        simp
      · rw [if_neg h]
    | true =>
      simp only [if_true] at hk ⊢
      rw [List.length_set] at hk
      have hin : m / 8 < (roomB (packS a) m).length := by omega
      by_cases hb : k / 8 = m / 8
      · have hy := r1 _ (rd_mem hin)
        have h1 := orB_bit (rd (roomB (packS a) m) (m / 8 : Nat)) (m % 8) (k % 8) hy.1 hy.2 (by omega) (by omega)
        have h2 := hroom k hk
        unfold bitAt at h2 ⊢
        rw [rd_set _ _ _ _ (by omega), if_pos ⟨hin, by omega⟩, h1]
        by_cases h : k = m
        · subst h; simp
        · rw [if_neg (by omega), if_neg h, ← hb, h2]
      · unfold bitAt
        rw [rd_set _ _ _ _ (by omega), if_neg (by omega), if_neg (show ¬ k = m by omega)]
        exact hroom k hk

theorem bits_pack (l : List Bool) : bitsB (packS l) l.length = l := by
  have h := packS_bits l l.length (Nat.le_refl _)
  rw [List.take_length] at h
  have hlen := packS_length l
  unfold bitsB
  apply List.ext_getElem
  · simp
  · intro i h1 h2
    simp only [List.getElem_map, List.getElem_range]
    rw [h i (by omega), List.getD_eq_getElem?_getD, List.getElem?_eq_getElem h2]
    cases l[i] <;> rfl

theorem code_unique {ls : List Int} (hv : validOf ls = true) {s t : Nat} (hs : s < ls.length) (ht : t < ls.length) (hp : 0 < rd ls s) (hl : rd ls t = rd ls s) (hc : rd (codesOf ls) t = rd (codesOf ls) s) : t = s := by
  rcases Nat.lt_trichotomy t s with h | h | h
  · exfalso
    have := (prefix_law hv s t hs ht (by omega) hp (by omega) (by omega)).1
    rw [show rd ls t - rd ls s = 0 by omega] at this
    simp at this
    omega
  · exact h
  · exfalso
    have := (prefix_law hv s t hs ht (by omega) hp (by omega) (by omega)).1
    rw [show rd ls t - rd ls s = 0 by omega] at this
    simp at this
    omega

/-- A symbol's code is read as that symbol. -/
theorem symL_low {ls : List Int} (hv : validOf ls = true) {s : Nat} (hs : s < ls.length) {k : Nat} (hk : rd ls s = k) (rest : List Bool) : ∀ j m, j + m = k → 0 < j →
    symL ls (codesOf ls) (low (rd (codesOf ls) s) j ++ rest) (rd (codesOf ls) s / 2 ^ j) m = ((s : Int), 0, rest) := by
  intro j
  induction j with
  | zero => intro m _ h; omega
  | succ j ih =>
    intro m hm _
    have hc := codesOf_lt hv s (by omega)
    generalize hcc : rd (codesOf ls) s = c at *
    have hdiv : c / 2 ^ (j + 1) = c / 2 ^ j / 2 := by rw [Int.pow_succ, Int.ediv_ediv_of_nonneg (Int.le_of_lt (pow_posI j))]
    have hv' : 2 * (c / 2 ^ (j + 1)) + (if decide (c / 2 ^ j % 2 = 1) then 1 else 0) = c / 2 ^ j := by
      rw [hdiv]
      by_cases h : c / 2 ^ j % 2 = 1
      · simp only [h, decide_true, if_true]; omega
      · simp only [h, decide_false, if_false, Bool.false_eq_true]; omega
    rw [low, List.cons_append, symL_step ls (codesOf ls) _ _ _ _ m rfl, hv']
    have halive : refAlive ls (codesOf ls) (c / 2 ^ j) (m + 1) ls.length = true := by
      rw [refAlive_iff]
      exact ⟨s, hs, by omega, by rw [hcc, hk, show ((k : Int) - ((m + 1 : Nat) : Int)).toNat = j by omega]⟩
    rw [if_pos halive]
    rcases refFind_spec ls (codesOf ls) (c / 2 ^ j) (m + 1) ls.length with ⟨h1, h2⟩ | ⟨t, h1, h2, h3, h4⟩
    · rw [h1, if_neg (by omega)]
      rcases Nat.eq_zero_or_pos j with h | h
      · exfalso
        subst h
        refine h2 s hs ⟨by omega, ?_⟩
        rw [hcc]
        simp
      · exact ih (m + 1) (by omega) h
    · rw [h2, if_pos (by omega)]
      have hts : t = s ∧ j = 0 := by
        rcases Nat.eq_zero_or_pos j with h | h
        · subst h
          refine ⟨code_unique hv hs h1 (by omega) (by omega) ?_, rfl⟩
          rw [h4, hcc]
          simp
        · exfalso
          have hne : t ≠ s := fun e => by rw [e] at h3; omega
          have := (prefix_law hv t s h1 hs hne (by omega) (by omega) (by omega)).1
          rw [hcc, h4, hk, h3, show ((k : Int) - ((m + 1 : Nat) : Int)).toNat = j by omega] at this
          exact absurd rfl this
      obtain ⟨rfl, rfl⟩ := hts
      simp [low]

theorem decL_bits {ls : List Int} (hv : validOf ls = true) : ∀ (ss out : List Int), (∀ s ∈ ss, 0 ≤ s ∧ s < ls.length ∧ 0 < rd ls s) → decL ls (codesOf ls) ss.length (bitsOf ls (codesOf ls) ss) out = (out ++ ss, 0, []) := by
  intro ss
  induction ss with
  | nil => intro out _; simp [decL, bitsOf]
  | cons s ss ih =>
    intro out h
    obtain ⟨h1, h2, h3⟩ := h s List.mem_cons_self
    obtain ⟨s, rfl⟩ := Int.eq_ofNat_of_zero_le h1
    obtain ⟨k, hk⟩ := Int.eq_ofNat_of_zero_le (show 0 ≤ rd ls s by omega)
    have hc := codesOf_lt hv s (by omega)
    have hz : rd (codesOf ls) s / 2 ^ k = 0 := by
      rw [hk, Int.toNat_natCast] at hc
      exact Int.ediv_eq_zero_of_lt hc.1 hc.2
    have hsym := symL_low hv (show s < ls.length by omega) hk (bitsOf ls (codesOf ls) ss) k 0 (by omega) (by omega)
    rw [hz] at hsym
    have hbits : bitsOf ls (codesOf ls) ((s : Int) :: ss) = low (rd (codesOf ls) s) k ++ bitsOf ls (codesOf ls) ss := by
      unfold bitsOf
      rw [List.flatMap_cons, hk, Int.toNat_natCast]
    rw [List.length_cons, decL, hbits, hsym]
    simp only [if_true]
    rw [ih (out ++ [(s : Int)]) (fun x hx => h x (List.mem_cons_of_mem _ hx)), List.append_assoc]
    rfl
theorem decOf_bits {ls : List Int} (hv : validOf ls = true) {ss : List Int} (h : ∀ s ∈ ss, 0 ≤ s ∧ s < ls.length ∧ 0 < rd ls s) : decOf ls (bitsOf ls (codesOf ls) ss) ss.length = (ss, 0) := by
  unfold decOf
  rw [decL_bits hv ss [] h]
  simp
end Go.Proofs.Ytdmhhgkplcaejaa
