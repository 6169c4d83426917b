/- Package-merge in plain lists: how many leaves each level takes. -/
import Derived.Test.YtdmhhgkplcaejaaPM1
namespace Go.Proofs.Ytdmhhgkplcaejaa
open Go.Shelf Go.RowKit Go.Lib Go.Sort Go.Proofs.YtdmhhgkplcaejaaW.PrintWords

/-- Leaves in order, of positive weights. -/
structure Lvs (ls : List It) : Prop where
  srt : Srt ls
  leaf : ∀ x ∈ ls, 0 ≤ x.s
  pos : ∀ x ∈ ls, 0 < x.w

variable {ls : List It}
theorem Lvs.lvl_pos (h : Lvs ls) (j : Nat) : ∀ x ∈ lvl ls j, 0 < x.w := by
  induction j with
  | zero => exact h.pos
  | succ j ih =>
    intro x hx
    rcases List.mem_append.1 ((nextOf_perm ls (lvl ls j)).mem_iff.1 hx) with hx | hx
    · exact h.pos x hx
    · unfold packs at hx
      obtain ⟨t, ht, rfl⟩ := List.mem_map.1 hx
      rw [List.mem_range] at ht
      have h1 := ih _ (List.getElem_mem (l := lvl ls j) (show 2 * t < _ by omega))
      have h2 := ih _ (List.getElem_mem (l := lvl ls j) (show 2 * t + 1 < _ by omega))
      simp only [List.getD_eq_getElem?_getD, List.getElem?_eq_getElem (show 2 * t < (lvl ls j).length by omega), List.getElem?_eq_getElem (show 2 * t + 1 < (lvl ls j).length by omega), Option.getD_some]
      omega

theorem lf_le (h : Lvs ls) (j t : Nat) : lf ls j t ≤ ls.length := by
  unfold lf
  have := (((List.take_sublist t (lvl ls j)).filter (fun x => !isPk x))).length_le
  rw [lvl_leaves h.srt h.leaf] at this
  exact this

/-- The leaves that lie behind the first t items. -/
theorem drop_leaves (h : Lvs ls) (j t : Nat) : ((lvl ls j).drop t).filter (fun x => !isPk x) = ls.drop (lf ls j t) := by
  have h1 := lvl_leaves h.srt h.leaf j
  rw [← List.take_append_drop t (lvl ls j), List.filter_append, take_leaves h.srt h.leaf] at h1
  have h2 := List.take_append_drop (lf ls j t) ls
  conv at h2 => rhs; rw [← h1]
  exact (List.append_cancel_left h2).symm

theorem lf_mono (h : Lvs ls) (k t : Nat) : lf ls k (2 * npk ((lvl ls (k + 1)).take t)) ≤ lf ls (k + 1) t := by
  rcases Nat.lt_or_ge (lf ls (k + 1) t) (lf ls k (2 * npk ((lvl ls (k + 1)).take t))) with hlt | hge
  · exfalso
    have hp1 := npk_take_le (lvl ls (k + 1)) t
    rw [npk_lvl h.leaf] at hp1
    have hpk := take_packs h.srt h.leaf k t
    generalize npk ((lvl ls (k + 1)).take t) = p at *
    have han : lf ls (k + 1) t < ls.length := Nat.lt_of_lt_of_le hlt (lf_le h _ _)
    have hmem : ls[lf ls (k + 1) t] ∈ (lvl ls k).take (2 * p) := by
      have : ls[lf ls (k + 1) t] ∈ ((lvl ls k).take (2 * p)).filter (fun x => !isPk x) := by
        rw [take_leaves h.srt h.leaf]
        exact List.mem_take_iff_getElem.2 ⟨lf ls (k + 1) t, by omega, rfl⟩
      exact (List.mem_filter.1 this).1
    obtain ⟨q, hq, hqe⟩ := List.mem_take_iff_getElem.1 hmem
    have hq2 : q / 2 < p := by omega
    have hql : 2 * (q / 2) + 1 < (lvl ls k).length := by omega
    -- the package that holds it is taken
    have hpm : (⟨((lvl ls k).getD (2 * (q / 2)) default).w + ((lvl ls k).getD (2 * (q / 2) + 1) default).w, -1, (2 * (q / 2) : Nat), (2 * (q / 2) + 1 : Nat)⟩ : It) ∈ (lvl ls (k + 1)).take t := by
      have : (⟨((lvl ls k).getD (2 * (q / 2)) default).w + ((lvl ls k).getD (2 * (q / 2) + 1) default).w, -1, (2 * (q / 2) : Nat), (2 * (q / 2) + 1 : Nat)⟩ : It) ∈ ((lvl ls (k + 1)).take t).filter isPk := by
        rw [hpk]
        unfold packs
        exact List.mem_map.2 ⟨q / 2, List.mem_range.2 hq2, rfl⟩
      exact (List.mem_filter.1 this).1
    -- the leaf is not
    have hdm : ls[lf ls (k + 1) t] ∈ (lvl ls (k + 1)).drop t := by
      have : ls[lf ls (k + 1) t] ∈ ((lvl ls (k + 1)).drop t).filter (fun x => !isPk x) := by
        rw [drop_leaves h]
        exact List.mem_drop_iff_getElem.2 ⟨0, by omega, by simp⟩
      exact (List.mem_filter.1 this).1
    have hs := lvl_srt h.srt (k + 1)
    unfold Srt at hs
    rw [← List.take_append_drop t (lvl ls (k + 1))] at hs
    have hle := (List.pairwise_append.1 hs).2.2 _ hpm _ hdm
    unfold ltW at hle
    rw [decide_eq_false_iff_not] at hle
    have h0 := h.lvl_pos k _ (List.getElem_mem (l := lvl ls k) (show 2 * (q / 2) < _ by omega))
    have h1 := h.lvl_pos k _ (List.getElem_mem (l := lvl ls k) hql)
    simp only [List.getD_eq_getElem?_getD, List.getElem?_eq_getElem (show 2 * (q / 2) < (lvl ls k).length by omega), List.getElem?_eq_getElem hql, Option.getD_some] at hle
    rw [← hqe] at hle
    rcases Nat.mod_two_eq_zero_or_one q with he | he
    · have e : q = 2 * (q / 2) := by omega
      have e2 : (lvl ls k)[q] = (lvl ls k)[2 * (q / 2)] := by congr 1
      rw [e2] at hle
      omega
    · have e : q = 2 * (q / 2) + 1 := by omega
      have e2 : (lvl ls k)[q] = (lvl ls k)[2 * (q / 2) + 1] := by congr 1
      rw [e2] at hle
      omega
  · exact hge

theorem lvl_lt (hn : 0 < ls.length) (j : Nat) : (lvl ls j).length + 1 ≤ 2 * ls.length := by
  induction j with
  | zero => show ls.length + 1 ≤ _; omega
  | succ j ih => rw [lvl_succ_length]; omega

/-- Where a level has the items to be taken, all leaves are among them. -/
theorem lf_full (h : Lvs ls) (hn : 2 ≤ ls.length) : ∀ j, 2 * ls.length - 2 ≤ (lvl ls j).length → lf ls j (2 * ls.length - 2) = ls.length := by
  intro j
  induction j with
  | zero =>
    intro hj
    have hj' : 2 * ls.length - 2 ≤ ls.length := hj
    unfold lf
    rw [List.take_of_length_le (show (lvl ls 0).length ≤ _ by show ls.length ≤ _; omega), lvl_leaves h.srt h.leaf]
  | succ j ih =>
    intro hj
    have hlt := lvl_lt (show 0 < ls.length by omega) (j + 1)
    by_cases he : (lvl ls (j + 1)).length = 2 * ls.length - 2
    · unfold lf
      rw [List.take_of_length_le (by omega), lvl_leaves h.srt h.leaf]
    · have h1 : (lvl ls j).length / 2 = ls.length - 1 := by rw [lvl_succ_length] at hlt hj he; omega
      have h2 := ih (by omega)
      have h3 := lf_le h (j + 1) (2 * ls.length - 2)
      have h4 := lf_npk (ls := ls) (j + 1) (2 * ls.length - 2) hj
      have h5 := npk_take_le (lvl ls (j + 1)) (2 * ls.length - 2)
      rw [npk_lvl h.leaf, h1] at h5
      have h6 := lf_mono h j (2 * ls.length - 2)
      rcases Nat.lt_or_ge (lf ls (j + 1) (2 * ls.length - 2)) ls.length with h7 | h7
      · have h8 : 2 * npk ((lvl ls (j + 1)).take (2 * ls.length - 2)) = 2 * ls.length - 2 := by omega
        rw [h8, h2] at h6
        omega
      · omega

/-- How many leaves are taken, from the last level down. -/
def tk (ls : List It) : Nat → Nat → List Nat
  | 0, _ => []
  | k + 1, t => lf ls k t :: tk ls k (2 * npk ((lvl ls k).take t))
theorem tk_length (ls : List It) : ∀ k t, (tk ls k t).length = k
  | 0, _ => rfl
  | k + 1, t => by rw [tk, List.length_cons, tk_length]
/-- Each level takes no more leaves than the one behind it. -/
theorem tk_pw (h : Lvs ls) : ∀ k t, (tk ls k t).Pairwise (fun a b => b ≤ a)
  | 0, _ => List.Pairwise.nil
  | k + 1, t => by
    rw [tk]
    refine List.pairwise_cons.2 ⟨?_, tk_pw h k _⟩
    have : ∀ k t, ∀ b ∈ tk ls k (2 * npk ((lvl ls k).take t)), b ≤ lf ls k t := by
      intro k
      induction k with
      | zero => intro t b hb; cases hb
      | succ k ih =>
        intro t b hb
        rw [tk] at hb
        have hm := lf_mono h k t
        rcases List.mem_cons.1 hb with rfl | hb
        · exact hm
        · exact Nat.le_trans (ih _ b hb) hm
    exact this k t

/-- The value of such a list. -/
def vsum : List Nat → Nat
  | [] => 0
  | a :: r => a * 2 ^ r.length + vsum r
theorem tk_vsum (h : Lvs ls) : ∀ k t, (k = 0 ∨ t ≤ (lvl ls (k - 1)).length) → vsum (tk ls k t) * 2 = if k = 0 then 0 else t * 2 ^ k
  | 0, _, _ => rfl
  | k + 1, t, ht => by
    have ht' : t ≤ (lvl ls k).length := by rcases ht with h | h; · omega
                                           · exact h
    have hl := lf_npk (ls := ls) k t ht'
    rw [tk, vsum, tk_length, if_neg (by omega), Nat.add_mul]
    cases k with
    | zero =>
      have : npk ((lvl ls 0).take t) = 0 := by
        have h1 := npk_take_le (lvl ls 0) t
        have h2 : npk (lvl ls 0) = 0 := by rw [npk_eq, show lvl ls 0 = ls from rfl, (leaf_filter h.leaf).1]; rfl
        omega
      rw [this] at hl ⊢
      simp only [tk, vsum]
      omega
    | succ k =>
      have h1 := npk_take_le (lvl ls (k + 1)) t
      rw [npk_lvl h.leaf] at h1
      have ih := tk_vsum h (k + 1) (2 * npk ((lvl ls (k + 1)).take t)) (.inr (by show _ ≤ (lvl ls k).length; omega))
      rw [if_neg (by omega)] at ih
      rw [ih]
      have e : t * 2 ^ (k + 1 + 1) = lf ls (k + 1) t * 2 ^ (k + 1) * 2 + 2 * npk ((lvl ls (k + 1)).take t) * 2 ^ (k + 1) := by
        conv => lhs; rw [← hl]
        rw [Nat.pow_succ 2 (k + 1), Nat.add_mul]
        generalize 2 ^ (k + 1) = E
        rw [← Nat.mul_assoc, ← Nat.mul_assoc, Nat.mul_right_comm _ E 2, Nat.mul_right_comm (npk _) E 2, Nat.mul_comm (npk _) 2]
      rw [e]

/-- The identity behind Kraft's sum. -/
def bsum (i : Nat) : List Nat → Nat
  | [] => 0
  | a :: r => (if i < a then 2 ^ r.length else 0) + bsum i r
theorem bsum_count (i : Nat) : ∀ l : List Nat, l.Pairwise (fun a b => b ≤ a) → bsum i l + 2 ^ (l.length - l.countP (fun a => decide (i < a))) = 2 ^ l.length
  | [], _ => rfl
  | a :: r, h => by
    have h1 := List.pairwise_cons.1 h
    rw [bsum, List.countP_cons, List.length_cons]
    by_cases hi : i < a
    · have ih := bsum_count i r h1.2
      have hc : r.countP (fun a => decide (i < a)) ≤ r.length := List.countP_le_length
      simp only [hi, if_true, decide_true]
      rw [show r.length + 1 - (r.countP (fun a => decide (i < a)) + 1) = r.length - r.countP (fun a => decide (i < a)) by omega, Nat.pow_succ]
      omega
    · have hz : r.countP (fun a => decide (i < a)) = 0 := by
        rw [List.countP_eq_zero]
        intro b hb
        have := h1.1 b hb
        simp; omega
      have hb : ∀ r : List Nat, r.countP (fun a => decide (i < a)) = 0 → bsum i r = 0 := by
        intro r
        induction r with
        | nil => intro _; rfl
        | cons b r ih =>
          intro hz
          rw [List.countP_cons] at hz
          rw [bsum, ih (by omega)]
          by_cases hb : i < b
          · simp [hb] at hz
          · simp [hb]
      simp only [hi, if_false, decide_false]
      rw [hz, hb r hz]
      simp

theorem bsum_total (n : Nat) : ∀ l : List Nat, (∀ a ∈ l, a ≤ n) → ((List.range n).map (fun i => bsum i l)).sum = vsum l
  | [], _ => by
    have : ∀ m, ((List.range m).map (fun i => bsum i [])).sum = 0 := by
      intro m
      induction m with
      | zero => rfl
      | succ m ih => rw [List.range_succ, List.map_append, List.sum_append, ih]; rfl
    exact this n
  | a :: r, h => by
    have ih := bsum_total n r (fun b hb => h b (List.mem_cons_of_mem _ hb))
    have ha := h a List.mem_cons_self
    rw [vsum, ← ih]
    have key : ∀ m, ((List.range m).map (fun i => bsum i (a :: r))).sum = min a m * 2 ^ r.length + ((List.range m).map (fun i => bsum i r)).sum := by
      intro m
      induction m with
      | zero => simp
      | succ m ihm =>
        rw [List.range_succ, List.map_append, List.map_append, List.sum_append, List.sum_append, ihm]
        simp only [List.map_cons, List.map_nil, List.sum_cons, List.sum_nil, bsum]
        by_cases hm : m < a
        · rw [if_pos hm, Nat.min_eq_right (by omega), Nat.min_eq_right (by omega), Nat.add_mul, Nat.one_mul]; omega
        · rw [if_neg hm, Nat.min_eq_left (by omega), Nat.min_eq_left (by omega)]; omega
    rw [key n, Nat.min_eq_left ha]
end Go.Proofs.Ytdmhhgkplcaejaa
