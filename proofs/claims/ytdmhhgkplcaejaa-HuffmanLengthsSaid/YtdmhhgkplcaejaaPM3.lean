/- Package-merge in plain lists: the least cost. -/
import Derived.Test.YtdmhhgkplcaejaaPM2
namespace Go.Proofs.Ytdmhhgkplcaejaa
open Go.Shelf Go.RowKit Go.Lib Go.Sort Go.Proofs.YtdmhhgkplcaejaaW.PrintWords

variable {ls : List It}
theorem W_nonneg {l : List It} (h : ∀ x ∈ l, 0 < x.w) : 0 ≤ W l := by
  induction l with
  | nil => exact Int.le_refl _
  | cons x l ih => rw [W_cons]; have := h x List.mem_cons_self; have := ih (fun y hy => h y (List.mem_cons_of_mem _ hy)); omega
theorem W_take_le {l : List It} (h : ∀ x ∈ l, 0 < x.w) {a b : Nat} (hab : a ≤ b) : W (l.take a) ≤ W (l.take b) := by
  have h1 : (l.take b) = (l.take a) ++ ((l.take b).drop a) := by
    conv => lhs; rw [← List.take_append_drop a (l.take b), List.take_take, Nat.min_eq_left hab]
  rw [h1, W_append]
  have := W_nonneg (l := (l.take b).drop a) (fun x hx => h x (List.mem_of_mem_take (List.mem_of_mem_drop hx)))
  omega

/-- Of a sorted list the first items weigh least. -/
theorem W_sub {l s : List It} (hs : Srt l) (h : s.Sublist l) : W (l.take s.length) ≤ W s := by
  induction h with
  | slnil => exact Int.le_refl _
  | @cons s l a hsub ih =>
    have h1 := List.pairwise_cons.1 hs
    have h2 := ih h1.2
    have hlen := hsub.length_le
    rcases Nat.eq_zero_or_pos s.length with h0 | h0
    · rw [h0] at h2 ⊢; simpa using h2
    · refine Int.le_trans ?_ h2
      obtain ⟨k, hk⟩ : ∃ k, s.length = k + 1 := ⟨s.length - 1, by omega⟩
      rw [hk, List.take_succ_cons, W_cons, List.take_succ_eq_append_getElem (show k < l.length by omega), W_append]
      have h3 := h1.1 _ (List.getElem_mem (show k < l.length by omega))
      unfold ltW at h3
      rw [decide_eq_false_iff_not] at h3
      have : W [l[k]] = l[k].w := by simp [W]
      omega
  | @cons_cons s l a hsub ih =>
    have h1 := List.pairwise_cons.1 hs
    have h2 := ih h1.2
    rw [List.length_cons, List.take_succ_cons, W_cons, W_cons]
    omega
theorem W_subperm {l l' s : List It} (hs : Srt l) (hp : l'.Perm l) (h : s.Sublist l') : W (l.take s.length) ≤ W s := by
  obtain ⟨s', h1, h2⟩ := List.exists_perm_sublist h hp
  have := W_sub hs h2
  rw [h1.length_eq, W_perm h1] at this
  exact this

/-- Of sublists of the leaves, one for each level: their width, their weight. -/
def sz (X : Nat → List It) : Nat → Nat
  | 0 => (X 0).length
  | j + 1 => sz X j + (X (j + 1)).length * 2 ^ (j + 1)
def wx (X : Nat → List It) : Nat → Int
  | 0 => W (X 0)
  | j + 1 => wx X j + W (X (j + 1))

theorem sz_le {X : Nat → List It} (hX : ∀ j, (X j).Sublist ls) : ∀ j, sz X j + ls.length ≤ ls.length * 2 ^ (j + 1)
  | 0 => by have := (hX 0).length_le; show (X 0).length + _ ≤ _; omega
  | j + 1 => by
    have ih := sz_le hX j
    have h1 := Nat.mul_le_mul_right (2 ^ (j + 1)) (hX (j + 1)).length_le
    rw [sz, Nat.pow_succ 2 (j + 1)]
    have : ls.length * (2 ^ (j + 1) * 2) = ls.length * 2 ^ (j + 1) * 2 := by rw [Nat.mul_assoc]
    omega
theorem lvl_many (ls : List It) : ∀ j, ls.length * 2 ^ (j + 1) < ((lvl ls j).length + 1) * 2 ^ j + ls.length
  | 0 => by show _ < (ls.length + 1) * 1 + _; omega
  | j + 1 => by
    have ih := lvl_many ls j
    rw [lvl_succ_length]
    have h1 : 2 * ls.length + (lvl ls j).length + 1 ≤ 2 * (ls.length + (lvl ls j).length / 2 + 1) := by omega
    have h2 := Nat.mul_le_mul_right (2 ^ j) h1
    have e1 : ls.length * 2 ^ (j + 1 + 1) = 2 * (ls.length * 2 ^ (j + 1)) := by rw [Nat.pow_succ 2 (j + 1), ← Nat.mul_assoc, Nat.mul_comm]
    have e2 : (ls.length + (lvl ls j).length / 2 + 1) * 2 ^ (j + 1) = 2 * (ls.length + (lvl ls j).length / 2 + 1) * 2 ^ j := by rw [Nat.pow_succ, ← Nat.mul_assoc, Nat.mul_comm _ 2, ← Nat.mul_assoc]
    have e3 : (2 * ls.length + (lvl ls j).length + 1) * 2 ^ j = ls.length * 2 ^ (j + 1) + ((lvl ls j).length + 1) * 2 ^ j := by rw [Nat.pow_succ, ← Nat.mul_assoc, Nat.add_assoc, Nat.add_mul, Nat.mul_comm 2 ls.length, Nat.mul_right_comm]
    rw [e1, e2]
    rw [e3] at h2
    omega

theorem leaves_sublist (h : Lvs ls) (j : Nat) : ls.Sublist (lvl ls j) := by
  have := List.filter_sublist (l := lvl ls j) (p := fun x => !isPk x)
  rw [lvl_leaves h.srt h.leaf] at this
  exact this

/-- Whatever lists of leaves are taken, one for each level: of the same width they weigh no less. -/
theorem least (h : Lvs ls) {X : Nat → List It} (hX : ∀ j, (X j).Sublist ls) : ∀ j T, T * 2 ^ j ≤ sz X j → W ((lvl ls j).take T) ≤ wx X j
  | 0, T, hT => by
    have h1 : T ≤ (X 0).length := by simpa [sz] using hT
    have h2 := W_sub h.srt (hX 0)
    exact Int.le_trans (W_take_le h.pos h1) h2
  | j + 1, T, hT => by
    rw [sz] at hT
    rw [wx]
    have hsub := hX (j + 1)
    have hpx : ∀ j, ∀ x ∈ X j, 0 < x.w := fun j x hx => h.pos x ((hX j).subset hx)
    have hwx : ∀ j, 0 ≤ wx X j := by
      intro j
      induction j with
      | zero => exact W_nonneg (hpx 0)
      | succ j ih => rw [wx]; have := W_nonneg (hpx (j + 1)); omega
    have h2 := W_sub h.srt hsub
    have hxn := hsub.length_le
    by_cases hx : T ≤ (X (j + 1)).length
    · have h3 := W_take_le h.pos hx
      have h4 := W_sub (lvl_srt h.srt (j + 1)) ((List.take_sublist T ls).trans (leaves_sublist h (j + 1)))
      rw [List.length_take, Nat.min_eq_left (by omega)] at h4
      have := hwx j
      omega
    · obtain ⟨y, hy⟩ : ∃ y, T = (X (j + 1)).length + y := ⟨T - (X (j + 1)).length, by omega⟩
      have hT2 : (2 * y) * 2 ^ j ≤ sz X j := by
        rw [hy, Nat.add_mul] at hT
        have e : y * 2 ^ (j + 1) = 2 * y * 2 ^ j := by rw [Nat.pow_succ, ← Nat.mul_assoc, Nat.mul_comm _ 2, ← Nat.mul_assoc]
        omega
      have ih := least h hX j (2 * y) hT2
      have hle : 2 * y ≤ (lvl ls j).length := by
        have h3 := sz_le hX j
        have h4 := lvl_many ls j
        rcases Nat.lt_or_ge (lvl ls j).length (2 * y) with h5 | h5
        · have h6 := Nat.mul_le_mul_right (2 ^ j) (show (lvl ls j).length + 1 ≤ 2 * y from h5)
          omega
        · exact h5
      rw [← packs_W _ _ hle] at ih
      have hs : (ls.take (X (j + 1)).length ++ packs (lvl ls j) y).Sublist (ls ++ packs (lvl ls j) ((lvl ls j).length / 2)) := by
        refine List.Sublist.append (List.take_sublist _ _) ?_
        rw [← packs_take (lvl ls j) ((lvl ls j).length / 2) y (by omega)]
        exact List.take_sublist _ _
      have h5 := W_subperm (lvl_srt h.srt (j + 1)) (nextOf_perm ls (lvl ls j)).symm hs
      rw [List.length_append, List.length_take, Nat.min_eq_left hxn, packs_length, ← hy, W_append] at h5
      omega
end Go.Proofs.Ytdmhhgkplcaejaa
