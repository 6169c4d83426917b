/- Package-merge, plain: PM1 to PM7 as one text. -/
import Derived.Test.YtdmhhgkplcaejaaHP
import Derived.Test.YtdmhhgkplcaejaaE3
import Derived.Test.YtdmhhgkplcaejaaE9
import Derived.Test.YtdmhhgkplcaejaaE12
namespace Go.Proofs.Ytdmhhgkplcaejaa
open Go.Shelf Go.RowKit Go.Lib Go.Sort Go.Proofs.YtdmhhgkplcaejaaW.PrintWords

section
variable {α : Type}
/-- Of two sorted lists, sorted together, each keeps its order. -/
theorem isort_keeps {lt : α → α → Bool} (hO : SWO lt) (l : List α) (p : α → Bool) (hs : (l.filter p).Pairwise (fun a b => lt b a = false)) : (isort lt l).filter p = l.filter p := by
  have hO2 : SWO (fun x y : α × Nat => lt x.1 y.1) := ⟨fun x => hO.irrefl _, fun x y z => hO.trans _ _ _, fun x y z => hO.ntrans _ _ _⟩
  have hz := zipIdx_pw l 0
  have e1 : (isort (fun x y : α × Nat => lt x.1 y.1) (l.zipIdx 0)).map Prod.fst = isort lt l := by
    rw [isort_map Prod.fst lt]
    simp
  have h1 : ((isort (fun x y : α × Nat => lt x.1 y.1) (l.zipIdx 0)).filter (fun x => p x.1)).Pairwise (Lx (fun x y : α × Nat => lt x.1 y.1) Prod.snd) :=
    (isort_from_pw hO2 Prod.snd _ [] List.Pairwise.nil hz (by simp)).filter _
  have h2 : ((l.zipIdx 0).filter (fun x => p x.1)).Pairwise (Lx (fun x y : α × Nat => lt x.1 y.1) Prod.snd) := by
    have e3 : ((l.zipIdx 0).filter (fun x => p x.1)).map Prod.fst = l.filter p := by
      rw [show (fun x : α × Nat => p x.1) = p ∘ Prod.fst from rfl, ← List.filter_map]
      simp
    have h3 : ((l.zipIdx 0).filter (fun x => p x.1)).Pairwise (fun a b => lt b.1 a.1 = false) := by
      rw [← e3] at hs
      exact List.pairwise_map.1 hs
    have h4 := hz.filter (fun x => p x.1)
    exact (h3.and h4).imp (fun h => .inr ⟨h.1, h.2⟩)
  have h5 := Lx.uniq hO2 h1 h2 ((isort_perm _ _).filter _)
  have h6 := congrArg (List.map Prod.fst) h5
  rw [show (fun x : α × Nat => p x.1) = p ∘ Prod.fst from rfl, ← List.filter_map, ← List.filter_map, e1] at h6
  simpa using h6

theorem filter_take (l : List α) (p : α → Bool) (t : Nat) : (l.take t).filter p = (l.filter p).take ((l.take t).filter p).length := by
  conv => rhs; rw [← List.take_append_drop t l, List.filter_append]
  rw [List.take_append_drop, List.take_left']
  rfl
end

theorem swoI : SWO ltW where
  irrefl x := by unfold ltW; simp
  trans x y z h1 h2 := by unfold ltW at *; simp at *; omega
  ntrans x y z h1 h2 := by unfold ltW at *; simp at *; omega

/-- The weight of a list. -/
def W (l : List It) : Int := (l.map It.w).sum
theorem W_append (a b : List It) : W (a ++ b) = W a + W b := by unfold W; rw [List.map_append, List.sum_append]
theorem W_cons (x : It) (l : List It) : W (x :: l) = x.w + W l := by unfold W; rw [List.map_cons, List.sum_cons]
theorem W_perm {a b : List It} (h : a.Perm b) : W a = W b := by
  induction h with
  | nil => rfl
  | cons x _ ih => rw [W_cons, W_cons, ih]
  | swap x y l => rw [W_cons, W_cons, W_cons, W_cons]; omega
  | trans _ _ h1 h2 => rw [h1, h2]
def isPk (x : It) : Bool := decide (x.s < 0)
theorem W_split (l : List It) : W l = W (l.filter (fun x => !isPk x)) + W (l.filter isPk) := by
  induction l with
  | nil => rfl
  | cons x l ih =>
    rw [W_cons, List.filter_cons, List.filter_cons, ih]
    cases isPk x
    · simp only [Bool.not_false, if_true, Bool.false_eq_true, if_false, W_cons]; omega
    · simp only [Bool.not_true, if_true, Bool.false_eq_true, if_false, W_cons]; omega

/-- A list sorted by weight. -/
def Srt (l : List It) : Prop := l.Pairwise (fun a b => ltW b a = false)
theorem Srt.le {l : List It} (h : Srt l) {i j : Nat} (hij : i ≤ j) (hj : j < l.length) : (l.getD i default).w ≤ (l.getD j default).w := by
  rcases Nat.lt_or_ge i j with h1 | h1
  · have := List.pairwise_iff_getElem.1 h i j (by omega) hj h1
    unfold ltW at this
    simp only [List.getD_eq_getElem?_getD, List.getElem?_eq_getElem hj, List.getElem?_eq_getElem (show i < l.length by omega), Option.getD_some]
    simpa using this
  · have : i = j := by omega
    subst this; exact Int.le_refl _
theorem packs_srt {bs : List It} (h : Srt bs) {j : Nat} (hj : 2 * j ≤ bs.length) : Srt (packs bs j) := by
  unfold Srt packs
  rw [List.pairwise_map, List.pairwise_iff_getElem]
  intro a b ha hb hab
  simp only [List.getElem_range]
  rw [List.length_range] at ha hb
  have h1 := h.le (show 2 * a ≤ 2 * b by omega) (by omega)
  have h2 := h.le (show 2 * a + 1 ≤ 2 * b + 1 by omega) (by omega)
  show decide (_ + _ < _ + _) = false
  rw [decide_eq_false_iff_not]
  omega

section
variable {ls : List It} (hs : Srt ls) (hl : ∀ x ∈ ls, 0 ≤ x.s)
include hs in
theorem lvl_srt (j : Nat) : Srt (lvl ls j) := by
  cases j with
  | zero => exact hs
  | succ j => exact isort_sorted swoI _
include hl in
theorem leaf_filter : ls.filter isPk = [] ∧ ls.filter (fun x => !isPk x) = ls := by
  have h : ∀ x ∈ ls, isPk x = false := fun x hx => by have := hl x hx; unfold isPk; simp; omega
  constructor
  · rw [List.filter_eq_nil_iff]; intro x hx; rw [h x hx]; simp
  · rw [List.filter_eq_self]; intro x hx; rw [h x hx]; rfl
theorem packs_filter (bs : List It) (j : Nat) : (packs bs j).filter isPk = packs bs j ∧ (packs bs j).filter (fun x => !isPk x) = [] := by
  have h : ∀ x ∈ packs bs j, isPk x = true := fun x hx => by
    unfold packs at hx
    obtain ⟨t, _, rfl⟩ := List.mem_map.1 hx
    rfl
  constructor
  · rw [List.filter_eq_self]; intro x hx; exact h x hx
  · rw [List.filter_eq_nil_iff]; intro x hx; rw [h x hx]; simp
include hs hl in
theorem lvl_leaves (j : Nat) : (lvl ls j).filter (fun x => !isPk x) = ls := by
  cases j with
  | zero => exact (leaf_filter hl).2
  | succ j =>
    have e : (ls ++ packs (lvl ls j) ((lvl ls j).length / 2)).filter (fun x => !isPk x) = ls := by
      rw [List.filter_append, (leaf_filter hl).2, (packs_filter _ _).2, List.append_nil]
    rw [show lvl ls (j + 1) = isort ltW (ls ++ packs (lvl ls j) ((lvl ls j).length / 2)) from rfl, isort_keeps swoI _ _ (by rw [e]; exact hs), e]
include hs hl in
theorem lvl_packs (j : Nat) : (lvl ls (j + 1)).filter isPk = packs (lvl ls j) ((lvl ls j).length / 2) := by
  have e : (ls ++ packs (lvl ls j) ((lvl ls j).length / 2)).filter isPk = packs (lvl ls j) ((lvl ls j).length / 2) := by
    rw [List.filter_append, (leaf_filter hl).1, (packs_filter _ _).1, List.nil_append]
  rw [show lvl ls (j + 1) = isort ltW (ls ++ packs (lvl ls j) ((lvl ls j).length / 2)) from rfl, isort_keeps swoI _ _ (by rw [e]; exact packs_srt (lvl_srt hs j) (by omega)), e]
end

theorem npk_eq (l : List It) : npk l = (l.filter isPk).length := by unfold npk; rw [List.countP_eq_length_filter]; rfl
theorem packs_take (bs : List It) (j p : Nat) (h : p ≤ j) : (packs bs j).take p = packs bs p := by
  unfold packs
  rw [← List.map_take, List.take_range, Nat.min_eq_left h]
theorem packs_W (bs : List It) : ∀ p, 2 * p ≤ bs.length → W (packs bs p) = W (bs.take (2 * p))
  | 0, _ => by simp [packs, W]
  | p + 1, h => by
    rw [packs_succ, W_append, packs_W bs p (by omega), show 2 * (p + 1) = 2 * p + 1 + 1 by omega, List.take_succ_eq_append_getElem (show 2 * p + 1 < bs.length by omega), List.take_succ_eq_append_getElem (show 2 * p < bs.length by omega), W_append, W_append]
    simp only [W, List.map_cons, List.map_nil, List.sum_cons, List.sum_nil, List.getD_eq_getElem?_getD, List.getElem?_eq_getElem (show 2 * p + 1 < bs.length by omega), List.getElem?_eq_getElem (show 2 * p < bs.length by omega), Option.getD_some]
    omega

section
variable {ls : List It} (hs : Srt ls) (hl : ∀ x ∈ ls, 0 ≤ x.s)
/-- How many leaves are among the first t items of a level. -/
def lf (ls : List It) (j t : Nat) : Nat := (((lvl ls j).take t).filter (fun x => !isPk x)).length
include hs hl in
theorem take_leaves (j t : Nat) : ((lvl ls j).take t).filter (fun x => !isPk x) = ls.take (lf ls j t) := by
  have := filter_take (lvl ls j) (fun x => !isPk x) t
  rw [lvl_leaves hs hl] at this
  exact this
include hs hl in
theorem take_packs (j t : Nat) : ((lvl ls (j + 1)).take t).filter isPk = packs (lvl ls j) (npk ((lvl ls (j + 1)).take t)) := by
  have h1 := filter_take (lvl ls (j + 1)) isPk t
  rw [lvl_packs hs hl, ← npk_eq] at h1
  rw [h1, packs_take]
  have := npk_take_le (lvl ls (j + 1)) t
  rw [npk_lvl hl] at this
  exact this
theorem lf_npk (j t : Nat) (h : t ≤ (lvl ls j).length) : lf ls j t + npk ((lvl ls j).take t) = t := by
  unfold lf
  rw [npk_eq]
  have h1 : ((lvl ls j).take t).length = (((lvl ls j).take t).filter (fun x => !isPk x)).length + (((lvl ls j).take t).filter isPk).length := by
    generalize (lvl ls j).take t = l
    induction l with
    | nil => rfl
    | cons x l ih => rw [List.length_cons, ih, List.filter_cons, List.filter_cons]; cases isPk x <;> simp <;> omega
  rw [List.length_take, Nat.min_eq_left h] at h1
  omega
include hs hl in
theorem W_level (j t : Nat) : W ((lvl ls (j + 1)).take t) = W (ls.take (lf ls (j + 1) t)) + W ((lvl ls j).take (2 * npk ((lvl ls (j + 1)).take t))) := by
  rw [W_split, take_leaves hs hl, take_packs hs hl, packs_W]
  have := npk_take_le (lvl ls (j + 1)) t
  rw [npk_lvl hl] at this
  omega
end
end Go.Proofs.Ytdmhhgkplcaejaa

namespace Go.Proofs.Ytdmhhgkplcaejaa
open Go.Shelf Go.RowKit Go.Lib Go.Sort Go.Proofs.YtdmhhgkplcaejaaW.PrintWords

/-- Leaves in order, of positive weights. -/
structure Lvs (ls : List It) : Prop where
  srt : Srt ls
  leaf : ∀ x ∈ ls, 0 ≤ x.s
  pos : ∀ x ∈ ls, 0 < x.w

variable {ls : List It}
theorem Lvs.lvl_pos (h : Lvs ls) (j : Nat) : ∀ x ∈ lvl ls j, 0 < x.w := by
  induction j with
  | zero => exact h.pos
  | succ j ih =>
    intro x hx
    rcases List.mem_append.1 ((nextOf_perm ls (lvl ls j)).mem_iff.1 hx) with hx | hx
    · exact h.pos x hx
    · unfold packs at hx
      obtain ⟨t, ht, rfl⟩ := List.mem_map.1 hx
      rw [List.mem_range] at ht
      have h1 := ih _ (List.getElem_mem (l := lvl ls j) (show 2 * t < _ by omega))
      have h2 := ih _ (List.getElem_mem (l := lvl ls j) (show 2 * t + 1 < _ by omega))
      simp only [List.getD_eq_getElem?_getD, List.getElem?_eq_getElem (show 2 * t < (lvl ls j).length by omega), List.getElem?_eq_getElem (show 2 * t + 1 < (lvl ls j).length by omega), Option.getD_some]
      omega

theorem lf_le (h : Lvs ls) (j t : Nat) : lf ls j t ≤ ls.length := by
  unfold lf
  have := (((List.take_sublist t (lvl ls j)).filter (fun x => !isPk x))).length_le
  rw [lvl_leaves h.srt h.leaf] at this
  exact this

/-- The leaves that lie behind the first t items. -/
theorem drop_leaves (h : Lvs ls) (j t : Nat) : ((lvl ls j).drop t).filter (fun x => !isPk x) = ls.drop (lf ls j t) := by
  have h1 := lvl_leaves h.srt h.leaf j
  rw [← List.take_append_drop t (lvl ls j), List.filter_append, take_leaves h.srt h.leaf] at h1
  have h2 := List.take_append_drop (lf ls j t) ls
  conv at h2 => rhs; rw [← h1]
  exact (List.append_cancel_left h2).symm

theorem lf_mono (h : Lvs ls) (k t : Nat) : lf ls k (2 * npk ((lvl ls (k + 1)).take t)) ≤ lf ls (k + 1) t := by
  rcases Nat.lt_or_ge (lf ls (k + 1) t) (lf ls k (2 * npk ((lvl ls (k + 1)).take t))) with hlt | hge
  · exfalso
    have hp1 := npk_take_le (lvl ls (k + 1)) t
    rw [npk_lvl h.leaf] at hp1
    have hpk := take_packs h.srt h.leaf k t
    generalize npk ((lvl ls (k + 1)).take t) = p at *
    have han : lf ls (k + 1) t < ls.length := Nat.lt_of_lt_of_le hlt (lf_le h _ _)
    have hmem : ls[lf ls (k + 1) t] ∈ (lvl ls k).take (2 * p) := by
      have : ls[lf ls (k + 1) t] ∈ ((lvl ls k).take (2 * p)).filter (fun x => !isPk x) := by
        rw [take_leaves h.srt h.leaf]
        exact List.mem_take_iff_getElem.2 ⟨lf ls (k + 1) t, by omega, rfl⟩
      exact (List.mem_filter.1 this).1
    obtain ⟨q, hq, hqe⟩ := List.mem_take_iff_getElem.1 hmem
    have hq2 : q / 2 < p := by omega
    have hql : 2 * (q / 2) + 1 < (lvl ls k).length := by omega
    -- the package that holds it is taken
    have hpm : (⟨((lvl ls k).getD (2 * (q / 2)) default).w + ((lvl ls k).getD (2 * (q / 2) + 1) default).w, -1, (2 * (q / 2) : Nat), (2 * (q / 2) + 1 : Nat)⟩ : It) ∈ (lvl ls (k + 1)).take t := by
      have : (⟨((lvl ls k).getD (2 * (q / 2)) default).w + ((lvl ls k).getD (2 * (q / 2) + 1) default).w, -1, (2 * (q / 2) : Nat), (2 * (q / 2) + 1 : Nat)⟩ : It) ∈ ((lvl ls (k + 1)).take t).filter isPk := by
        rw [hpk]
        unfold packs
        exact List.mem_map.2 ⟨q / 2, List.mem_range.2 hq2, rfl⟩
      exact (List.mem_filter.1 this).1
    -- the leaf is not
    have hdm : ls[lf ls (k + 1) t] ∈ (lvl ls (k + 1)).drop t := by
      have : ls[lf ls (k + 1) t] ∈ ((lvl ls (k + 1)).drop t).filter (fun x => !isPk x) := by
        rw [drop_leaves h]
        exact List.mem_drop_iff_getElem.2 ⟨0, by omega, by simp⟩
      exact (List.mem_filter.1 this).1
    have hs := lvl_srt h.srt (k + 1)
    unfold Srt at hs
    rw [← List.take_append_drop t (lvl ls (k + 1))] at hs
    have hle := (List.pairwise_append.1 hs).2.2 _ hpm _ hdm
    unfold ltW at hle
    rw [decide_eq_false_iff_not] at hle
    have h0 := h.lvl_pos k _ (List.getElem_mem (l := lvl ls k) (show 2 * (q / 2) < _ by omega))
    have h1 := h.lvl_pos k _ (List.getElem_mem (l := lvl ls k) hql)
    simp only [List.getD_eq_getElem?_getD, List.getElem?_eq_getElem (show 2 * (q / 2) < (lvl ls k).length by omega), List.getElem?_eq_getElem hql, Option.getD_some] at hle
    rw [← hqe] at hle
    rcases Nat.mod_two_eq_zero_or_one q with he | he
    · have e : q = 2 * (q / 2) := by omega
      have e2 : (lvl ls k)[q] = (lvl ls k)[2 * (q / 2)] := by congr 1
      rw [e2] at hle
      omega
    · have e : q = 2 * (q / 2) + 1 := by omega
      have e2 : (lvl ls k)[q] = (lvl ls k)[2 * (q / 2) + 1] := by congr 1
      rw [e2] at hle
      omega
  · exact hge

theorem lvl_lt (hn : 0 < ls.length) (j : Nat) : (lvl ls j).length + 1 ≤ 2 * ls.length := by
  induction j with
  | zero => show ls.length + 1 ≤ _; omega
  | succ j ih => rw [lvl_succ_length]; omega

/-- Where a level has the items to be taken, all leaves are among them. -/
theorem lf_full (h : Lvs ls) (hn : 2 ≤ ls.length) : ∀ j, 2 * ls.length - 2 ≤ (lvl ls j).length → lf ls j (2 * ls.length - 2) = ls.length := by
  intro j
  induction j with
  | zero =>
    intro hj
    have hj' : 2 * ls.length - 2 ≤ ls.length := hj
    unfold lf
    rw [List.take_of_length_le (show (lvl ls 0).length ≤ _ by show ls.length ≤ _; omega), lvl_leaves h.srt h.leaf]
  | succ j ih =>
    intro hj
    have hlt := lvl_lt (show 0 < ls.length by omega) (j + 1)
    by_cases he : (lvl ls (j + 1)).length = 2 * ls.length - 2
    · unfold lf
      rw [List.take_of_length_le (by omega), lvl_leaves h.srt h.leaf]
    · have h1 : (lvl ls j).length / 2 = ls.length - 1 := by rw [lvl_succ_length] at hlt hj he; omega
      have h2 := ih (by omega)
      have h3 := lf_le h (j + 1) (2 * ls.length - 2)
      have h4 := lf_npk (ls := ls) (j + 1) (2 * ls.length - 2) hj
      have h5 := npk_take_le (lvl ls (j + 1)) (2 * ls.length - 2)
      rw [npk_lvl h.leaf, h1] at h5
      have h6 := lf_mono h j (2 * ls.length - 2)
      rcases Nat.lt_or_ge (lf ls (j + 1) (2 * ls.length - 2)) ls.length with h7 | h7
      · have h8 : 2 * npk ((lvl ls (j + 1)).take (2 * ls.length - 2)) = 2 * ls.length - 2 := by omega
        rw [h8, h2] at h6
        omega
      · omega

/-- How many leaves are taken, from the last level down. -/
def tk (ls : List It) : Nat → Nat → List Nat
  | 0, _ => []
  | k + 1, t => lf ls k t :: tk ls k (2 * npk ((lvl ls k).take t))
theorem tk_length (ls : List It) : ∀ k t, (tk ls k t).length = k
  | 0, _ => rfl
  | k + 1, t => by rw [tk, List.length_cons, tk_length]
/-- Each level takes no more leaves than the one behind it. -/
theorem tk_pw (h : Lvs ls) : ∀ k t, (tk ls k t).Pairwise (fun a b => b ≤ a)
  | 0, _ => List.Pairwise.nil
  | k + 1, t => by
    rw [tk]
    refine List.pairwise_cons.2 ⟨?_, tk_pw h k _⟩
    have : ∀ k t, ∀ b ∈ tk ls k (2 * npk ((lvl ls k).take t)), b ≤ lf ls k t := by
      intro k
      induction k with
      | zero => intro t b hb; cases hb
      | succ k ih =>
        intro t b hb
        rw [tk] at hb
        have hm := lf_mono h k t
        rcases List.mem_cons.1 hb with rfl | hb
        · exact hm
        · exact Nat.le_trans (ih _ b hb) hm
    exact this k t

/-- The value of such a list. -/
def vsum : List Nat → Nat
  | [] => 0
  | a :: r => a * 2 ^ r.length + vsum r
theorem tk_vsum (h : Lvs ls) : ∀ k t, (k = 0 ∨ t ≤ (lvl ls (k - 1)).length) → vsum (tk ls k t) * 2 = if k = 0 then 0 else t * 2 ^ k
  | 0, _, _ => rfl
  | k + 1, t, ht => by
    have ht' : t ≤ (lvl ls k).length := by rcases ht with h | h; · omega
                                           · exact h
    have hl := lf_npk (ls := ls) k t ht'
    rw [tk, vsum, tk_length, if_neg (by omega), Nat.add_mul]
    cases k with
    | zero =>
      have : npk ((lvl ls 0).take t) = 0 := by
        have h1 := npk_take_le (lvl ls 0) t
        have h2 : npk (lvl ls 0) = 0 := by rw [npk_eq, show lvl ls 0 = ls from rfl, (leaf_filter h.leaf).1]; rfl
        omega
      rw [this] at hl ⊢
      simp only [tk, vsum]
      omega
    | succ k =>
      have h1 := npk_take_le (lvl ls (k + 1)) t
      rw [npk_lvl h.leaf] at h1
      have ih := tk_vsum h (k + 1) (2 * npk ((lvl ls (k + 1)).take t)) (.inr (by show _ ≤ (lvl ls k).length; omega))
      rw [if_neg (by omega)] at ih
      rw [ih]
      have e : t * 2 ^ (k + 1 + 1) = lf ls (k + 1) t * 2 ^ (k + 1) * 2 + 2 * npk ((lvl ls (k + 1)).take t) * 2 ^ (k + 1) := by
        conv => lhs; rw [← hl]
        rw [Nat.pow_succ 2 (k + 1), Nat.add_mul]
        generalize 2 ^ (k + 1) = E
        rw [← Nat.mul_assoc, ← Nat.mul_assoc, Nat.mul_right_comm _ E 2, Nat.mul_right_comm (npk _) E 2, Nat.mul_comm (npk _) 2]
      rw [e]

/-- The identity behind Kraft's sum. -/
def bsum (i : Nat) : List Nat → Nat
  | [] => 0
  | a :: r => (if i < a then 2 ^ r.length else 0) + bsum i r
theorem bsum_count (i : Nat) : ∀ l : List Nat, l.Pairwise (fun a b => b ≤ a) → bsum i l + 2 ^ (l.length - l.countP (fun a => decide (i < a))) = 2 ^ l.length
  | [], _ => rfl
  | a :: r, h => by
    have h1 := List.pairwise_cons.1 h
    rw [bsum, List.countP_cons, List.length_cons]
    by_cases hi : i < a
    · have ih := bsum_count i r h1.2
      have hc : r.countP (fun a => decide (i < a)) ≤ r.length := List.countP_le_length
      simp only [hi, if_true, decide_true]
      rw [show r.length + 1 - (r.countP (fun a => decide (i < a)) + 1) = r.length - r.countP (fun a => decide (i < a)) by omega, Nat.pow_succ]
      omega
    · have hz : r.countP (fun a => decide (i < a)) = 0 := by
        rw [List.countP_eq_zero]
        intro b hb
        have := h1.1 b hb
        simp; omega
      have hb : ∀ r : List Nat, r.countP (fun a => decide (i < a)) = 0 → bsum i r = 0 := by
        intro r
        induction r with
        | nil => intro _; rfl
        | cons b r ih =>
          intro hz
          rw [List.countP_cons] at hz
          rw [bsum, ih (by omega)]
          by_cases hb : i < b
          · simp [hb] at hz
          · simp [hb]
      simp only [hi, if_false, decide_false]
      rw [hz, hb r hz]
      simp

theorem bsum_total (n : Nat) : ∀ l : List Nat, (∀ a ∈ l, a ≤ n) → ((List.range n).map (fun i => bsum i l)).sum = vsum l
  | [], _ => by
    have : ∀ m, ((List.range m).map (fun i => bsum i [])).sum = 0 := by
      intro m
      induction m with
      | zero => rfl
      | succ m ih => rw [List.range_succ, List.map_append, List.sum_append, ih]; rfl
    exact this n
  | a :: r, h => by
    have ih := bsum_total n r (fun b hb => h b (List.mem_cons_of_mem _ hb))
    have ha := h a List.mem_cons_self
    rw [vsum, ← ih]
    have key : ∀ m, ((List.range m).map (fun i => bsum i (a :: r))).sum = min a m * 2 ^ r.length + ((List.range m).map (fun i => bsum i r)).sum := by
      intro m
      induction m with
      | zero => simp
      | succ m ihm =>
        rw [List.range_succ, List.map_append, List.map_append, List.sum_append, List.sum_append, ihm]
        simp only [List.map_cons, List.map_nil, List.sum_cons, List.sum_nil, bsum]
        by_cases hm : m < a
        · rw [if_pos hm, Nat.min_eq_right (by omega), Nat.min_eq_right (by omega), Nat.add_mul, Nat.one_mul]; omega
        · rw [if_neg hm, Nat.min_eq_left (by omega), Nat.min_eq_left (by omega)]; omega
    rw [key n, Nat.min_eq_left ha]
end Go.Proofs.Ytdmhhgkplcaejaa

namespace Go.Proofs.Ytdmhhgkplcaejaa
open Go.Shelf Go.RowKit Go.Lib Go.Sort Go.Proofs.YtdmhhgkplcaejaaW.PrintWords

variable {ls : List It}
theorem W_nonneg {l : List It} (h : ∀ x ∈ l, 0 < x.w) : 0 ≤ W l := by
  induction l with
  | nil => exact Int.le_refl _
  | cons x l ih => rw [W_cons]; have := h x List.mem_cons_self; have := ih (fun y hy => h y (List.mem_cons_of_mem _ hy)); omega
theorem W_take_le {l : List It} (h : ∀ x ∈ l, 0 < x.w) {a b : Nat} (hab : a ≤ b) : W (l.take a) ≤ W (l.take b) := by
  have h1 : (l.take b) = (l.take a) ++ ((l.take b).drop a) := by
    conv => lhs; rw [← List.take_append_drop a (l.take b), List.take_take, Nat.min_eq_left hab]
  rw [h1, W_append]
  have := W_nonneg (l := (l.take b).drop a) (fun x hx => h x (List.mem_of_mem_take (List.mem_of_mem_drop hx)))
  omega

/-- Of a sorted list the first items weigh least. -/
theorem W_sub {l s : List It} (hs : Srt l) (h : s.Sublist l) : W (l.take s.length) ≤ W s := by
  induction h with
  | slnil => exact Int.le_refl _
  | @cons s l a hsub ih =>
    have h1 := List.pairwise_cons.1 hs
    have h2 := ih h1.2
    have hlen := hsub.length_le
    rcases Nat.eq_zero_or_pos s.length with h0 | h0
    · rw [h0] at h2 ⊢; simpa using h2
    · refine Int.le_trans ?_ h2
      obtain ⟨k, hk⟩ : ∃ k, s.length = k + 1 := ⟨s.length - 1, by omega⟩
      rw [hk, List.take_succ_cons, W_cons, List.take_succ_eq_append_getElem (show k < l.length by omega), W_append]
      have h3 := h1.1 _ (List.getElem_mem (show k < l.length by omega))
      unfold ltW at h3
      rw [decide_eq_false_iff_not] at h3
      have : W [l[k]] = l[k].w := by simp [W]
      omega
  | @cons_cons s l a hsub ih =>
    have h1 := List.pairwise_cons.1 hs
    have h2 := ih h1.2
    rw [List.length_cons, List.take_succ_cons, W_cons, W_cons]
    omega
theorem W_subperm {l l' s : List It} (hs : Srt l) (hp : l'.Perm l) (h : s.Sublist l') : W (l.take s.length) ≤ W s := by
  obtain ⟨s', h1, h2⟩ := List.exists_perm_sublist h hp
  have := W_sub hs h2
  rw [h1.length_eq, W_perm h1] at this
  exact this

/-- Of sublists of the leaves, one for each level: their width, their weight. -/
def sz (X : Nat → List It) : Nat → Nat
  | 0 => (X 0).length
  | j + 1 => sz X j + (X (j + 1)).length * 2 ^ (j + 1)
def wx (X : Nat → List It) : Nat → Int
  | 0 => W (X 0)
  | j + 1 => wx X j + W (X (j + 1))

theorem sz_le {X : Nat → List It} (hX : ∀ j, (X j).Sublist ls) : ∀ j, sz X j + ls.length ≤ ls.length * 2 ^ (j + 1)
  | 0 => by have := (hX 0).length_le; show (X 0).length + _ ≤ _; omega
  | j + 1 => by
    have ih := sz_le hX j
    have h1 := Nat.mul_le_mul_right (2 ^ (j + 1)) (hX (j + 1)).length_le
    rw [sz, Nat.pow_succ 2 (j + 1)]
    have : ls.length * (2 ^ (j + 1) * 2) = ls.length * 2 ^ (j + 1) * 2 := by rw [Nat.mul_assoc]
    omega
theorem lvl_many (ls : List It) : ∀ j, ls.length * 2 ^ (j + 1) < ((lvl ls j).length + 1) * 2 ^ j + ls.length
  | 0 => by show _ < (ls.length + 1) * 1 + _; omega
  | j + 1 => by
    have ih := lvl_many ls j
    rw [lvl_succ_length]
    have h1 : 2 * ls.length + (lvl ls j).length + 1 ≤ 2 * (ls.length + (lvl ls j).length / 2 + 1) := by omega
    have h2 := Nat.mul_le_mul_right (2 ^ j) h1
    have e1 : ls.length * 2 ^ (j + 1 + 1) = 2 * (ls.length * 2 ^ (j + 1)) := by rw [Nat.pow_succ 2 (j + 1), ← Nat.mul_assoc, Nat.mul_comm]
    have e2 : (ls.length + (lvl ls j).length / 2 + 1) * 2 ^ (j + 1) = 2 * (ls.length + (lvl ls j).length / 2 + 1) * 2 ^ j := by rw [Nat.pow_succ, ← Nat.mul_assoc, Nat.mul_comm _ 2, ← Nat.mul_assoc]
    have e3 : (2 * ls.length + (lvl ls j).length + 1) * 2 ^ j = ls.length * 2 ^ (j + 1) + ((lvl ls j).length + 1) * 2 ^ j := by rw [Nat.pow_succ, ← Nat.mul_assoc, Nat.add_assoc, Nat.add_mul, Nat.mul_comm 2 ls.length, Nat.mul_right_comm]
    rw [e1, e2]
    rw [e3] at h2
    omega

theorem leaves_sublist (h : Lvs ls) (j : Nat) : ls.Sublist (lvl ls j) := by
  have := List.filter_sublist (l := lvl ls j) (p := fun x => !isPk x)
  rw [lvl_leaves h.srt h.leaf] at this
  exact this

/-- Whatever lists of leaves are taken, one for each level: of the same width they weigh no less. -/
theorem least (h : Lvs ls) {X : Nat → List It} (hX : ∀ j, (X j).Sublist ls) : ∀ j T, T * 2 ^ j ≤ sz X j → W ((lvl ls j).take T) ≤ wx X j
  | 0, T, hT => by
    have h1 : T ≤ (X 0).length := by simpa [sz] using hT
    have h2 := W_sub h.srt (hX 0)
    exact Int.le_trans (W_take_le h.pos h1) h2
  | j + 1, T, hT => by
    rw [sz] at hT
    rw [wx]
    have hsub := hX (j + 1)
    have hpx : ∀ j, ∀ x ∈ X j, 0 < x.w := fun j x hx => h.pos x ((hX j).subset hx)
    have hwx : ∀ j, 0 ≤ wx X j := by
      intro j
      induction j with
      | zero => exact W_nonneg (hpx 0)
      | succ j ih => rw [wx]; have := W_nonneg (hpx (j + 1)); omega
    have h2 := W_sub h.srt hsub
    have hxn := hsub.length_le
    by_cases hx : T ≤ (X (j + 1)).length
    · have h3 := W_take_le h.pos hx
      have h4 := W_sub (lvl_srt h.srt (j + 1)) ((List.take_sublist T ls).trans (leaves_sublist h (j + 1)))
      rw [List.length_take, Nat.min_eq_left (by omega)] at h4
      have := hwx j
      omega
    · obtain ⟨y, hy⟩ : ∃ y, T = (X (j + 1)).length + y := ⟨T - (X (j + 1)).length, by omega⟩
      have hT2 : (2 * y) * 2 ^ j ≤ sz X j := by
        rw [hy, Nat.add_mul] at hT
        have e : y * 2 ^ (j + 1) = 2 * y * 2 ^ j := by rw [Nat.pow_succ, ← Nat.mul_assoc, Nat.mul_comm _ 2, ← Nat.mul_assoc]
        omega
      have ih := least h hX j (2 * y) hT2
      have hle : 2 * y ≤ (lvl ls j).length := by
        have h3 := sz_le hX j
        have h4 := lvl_many ls j
        rcases Nat.lt_or_ge (lvl ls j).length (2 * y) with h5 | h5
        · have h6 := Nat.mul_le_mul_right (2 ^ j) (show (lvl ls j).length + 1 ≤ 2 * y from h5)
          omega
        · exact h5
      rw [← packs_W _ _ hle] at ih
      have hs : (ls.take (X (j + 1)).length ++ packs (lvl ls j) y).Sublist (ls ++ packs (lvl ls j) ((lvl ls j).length / 2)) := by
        refine List.Sublist.append (List.take_sublist _ _) ?_
        rw [← packs_take (lvl ls j) ((lvl ls j).length / 2) y (by omega)]
        exact List.take_sublist _ _
      have h5 := W_subperm (lvl_srt h.srt (j + 1)) (nextOf_perm ls (lvl ls j)).symm hs
      rw [List.length_append, List.length_take, Nat.min_eq_left hxn, packs_length, ← hy, W_append] at h5
      omega
end Go.Proofs.Ytdmhhgkplcaejaa

namespace Go.Proofs.Ytdmhhgkplcaejaa
open Go.Shelf Go.RowKit Go.Lib Go.Sort Go.Proofs.YtdmhhgkplcaejaaW.PrintWords

variable {ls : List It}
theorem pass_rd (s : Int) (hs : 0 ≤ s) (l : List It) : ∀ st : List Int × Nat, s < st.1.length → rd (pass l st).1 s = rd st.1 s + (l.countP (fun x => decide (x.s = s)) : Nat) := by
  induction l with
  | nil => intro st _; simp [pass]
  | cons x l ih =>
    intro st hl
    have h1 := ih (stepI st x) (by rw [stepI_len]; exact hl)
    rw [show pass (x :: l) st = pass l (stepI st x) from rfl, h1, List.countP_cons]
    unfold stepI
    by_cases h0 : 0 ≤ x.s
    · rw [if_pos h0]
      simp only
      rw [rd_set _ _ _ _ hs]
      by_cases he : x.s = s
      · rw [if_pos ⟨by omega, by omega⟩, he]
        simp
        omega
      · rw [if_neg (fun h => he (by omega))]
        simp [he]
    · rw [if_neg h0]
      have he : ¬ x.s = s := by omega
      simp [he]

/-- How often a symbol is taken. -/
def cntS (ls : List It) (s : Int) : Nat → Nat → Nat
  | 0, _ => 0
  | k + 1, t => ((lvl ls k).take t).countP (fun x => decide (x.s = s)) + cntS ls s k (2 * npk ((lvl ls k).take t))
theorem down_len (L : Nat → List It) : ∀ k t acc, (down L k t acc).length = acc.length
  | 0, _, _ => rfl
  | k + 1, t, acc => by rw [down, down_len, pass_len]
theorem down_rd (s : Int) (hs : 0 ≤ s) : ∀ k t acc, s < (acc.length : Nat) → rd (down (lvl ls) k t acc) s = rd acc s + (cntS ls s k t : Nat)
  | 0, _, _, _ => by simp [down, cntS]
  | k + 1, t, acc, hl => by
    rw [down, down_rd s hs k _ _ (by rw [pass_len]; exact hl), pass_rd s hs _ _ hl, pass_npk, cntS]
    simp only [Nat.zero_add]
    omega

theorem cnt_take (l : List It) (hnd : (l.map It.s).Nodup) : ∀ i (hi : i < l.length) a, (l.take a).countP (fun x => decide (x.s = l[i].s)) = if i < a then 1 else 0 := by
  induction l with
  | nil => intro i hi; simp at hi
  | cons y l ih =>
    intro i hi a
    rw [List.map_cons, List.nodup_cons] at hnd
    cases a with
    | zero => simp
    | succ a =>
      rw [List.take_succ_cons, List.countP_cons]
      cases i with
      | zero =>
        have h0 : (l.take a).countP (fun x => decide (x.s = y.s)) = 0 := by
          rw [List.countP_eq_zero]
          intro x hx
          simp only [decide_eq_true_eq]
          intro e
          exact hnd.1 (List.mem_map.2 ⟨x, List.mem_of_mem_take hx, e⟩)
        simp [h0]
      | succ i =>
        have hi' : i < l.length := by simpa using hi
        have hne : ¬ y.s = l[i].s := fun e => hnd.1 (List.mem_map.2 ⟨l[i], List.getElem_mem hi', e.symm⟩)
        rw [List.getElem_cons_succ, ih hnd.2 i hi' a]
        simp [hne]

theorem count_leaves (h : Lvs ls) (s : Int) (hs : 0 ≤ s) (k t : Nat) : ((lvl ls k).take t).countP (fun x => decide (x.s = s)) = (ls.take (lf ls k t)).countP (fun x => decide (x.s = s)) := by
  rw [← take_leaves h.srt h.leaf, List.countP_filter]
  apply List.countP_congr
  intro x _
  simp only [decide_eq_true_eq, Bool.and_eq_true, Bool.not_eq_true']
  constructor
  · intro e; exact ⟨e, by unfold isPk; rw [decide_eq_false_iff_not]; omega⟩
  · intro e; exact e.1
theorem cntS_leaf (h : Lvs ls) (hnd : (ls.map It.s).Nodup) (i : Nat) (hi : i < ls.length) : ∀ k t, cntS ls ls[i].s k t = (tk ls k t).countP (fun a => decide (i < a))
  | 0, _ => rfl
  | k + 1, t => by
    rw [cntS, tk, List.countP_cons, cntS_leaf h hnd i hi k, count_leaves h _ (h.leaf _ (List.getElem_mem hi)), cnt_take ls hnd i hi]
    by_cases hx : i < lf ls k t <;> simp [hx] <;> omega
theorem cntS_none (h : Lvs ls) (s : Int) (hs : 0 ≤ s) (hn : ∀ x ∈ ls, x.s ≠ s) : ∀ k t, cntS ls s k t = 0
  | 0, _ => rfl
  | k + 1, t => by
    rw [cntS, cntS_none h s hs hn k, count_leaves h s hs]
    rw [Nat.add_zero, List.countP_eq_zero]
    intro x hx
    simp only [decide_eq_true_eq]
    exact hn x (List.mem_of_mem_take hx)

/-- The sum of products. -/
def dot : List Int → List Int → Int
  | a :: as', b :: bs => a * b + dot as' bs
  | _, _ => 0
theorem dot_set (cs : List Int) : ∀ (acc : List Int) (i : Nat) (v : Int), i < cs.length → i < acc.length → dot cs (acc.set i v) = dot cs acc + rd cs i * (v - rd acc i) := by
  induction cs with
  | nil => intro acc i v h; simp at h
  | cons c cs ih =>
    intro acc i v h1 h2
    cases acc with
    | nil => simp at h2
    | cons a acc =>
      cases i with
      | zero =>
        rw [List.set_cons_zero, dot, dot]
        have e1 : rd (c :: cs) ((0 : Nat) : Int) = c := rfl
        have e2 : rd (a :: acc) ((0 : Nat) : Int) = a := rfl
        rw [e1, e2, Int.mul_sub]
        omega
      | succ i =>
        rw [List.set_cons_succ, dot, dot, ih acc i v (by simpa using h1) (by simpa using h2)]
        have e1 : rd (c :: cs) ((i + 1 : Nat) : Int) = rd cs i := by unfold rd; rw [Int.toNat_natCast, Int.toNat_natCast]; rfl
        have e2 : rd (a :: acc) ((i + 1 : Nat) : Int) = rd acc i := by unfold rd; rw [Int.toNat_natCast, Int.toNat_natCast]; rfl
        rw [e1, e2]
        omega
theorem dot_pass (cs : List Int) (l : List It) : ∀ st : List Int × Nat, (∀ x ∈ l, 0 ≤ x.s → x.s < cs.length ∧ x.w = rd cs x.s) → st.1.length = cs.length → dot cs (pass l st).1 = dot cs st.1 + W (l.filter (fun x => !isPk x)) := by
  induction l with
  | nil => intro st _ _; simp [pass, W]
  | cons x l ih =>
    intro st hx hl
    have h1 := ih (stepI st x) (fun y hy => hx y (List.mem_cons_of_mem _ hy)) (by rw [stepI_len]; exact hl)
    rw [show pass (x :: l) st = pass l (stepI st x) from rfl, h1, List.filter_cons]
    unfold stepI isPk
    by_cases h0 : 0 ≤ x.s
    · obtain ⟨h2, h3⟩ := hx x List.mem_cons_self h0
      have hd : decide (x.s < 0) = false := decide_eq_false (by omega)
      rw [if_pos h0, hd]
      simp only [Bool.not_false, if_true, W_cons]
      rw [dot_set cs _ _ _ (by omega) (by omega), Int.toNat_of_nonneg h0, ← h3]
      have : rd st.1 x.s + 1 - rd st.1 x.s = 1 := by omega
      rw [this, Int.mul_one]
      omega
    · have hd : decide (x.s < 0) = true := decide_eq_true (by omega)
      rw [if_neg h0, hd]
      simp only [Bool.not_true, Bool.false_eq_true, if_false]
theorem dot_down (h : Lvs ls) (cs : List Int) (hw : ∀ x ∈ ls, x.s < cs.length ∧ x.w = rd cs x.s) : ∀ k t acc, acc.length = cs.length → dot cs (down (lvl ls) (k + 1) t acc) = dot cs acc + W ((lvl ls k).take t)
  | k, t, acc, hl => by
    have hleaf : ∀ x ∈ (lvl ls k).take t, 0 ≤ x.s → x.s < cs.length ∧ x.w = rd cs x.s := fun x hx h0 => by
      have h1 : x ∈ (lvl ls k).filter (fun x => !isPk x) := List.mem_filter.2 ⟨List.mem_of_mem_take hx, by unfold isPk; simp; omega⟩
      rw [lvl_leaves h.srt h.leaf] at h1
      exact hw x h1
    have hp := dot_pass cs ((lvl ls k).take t) (acc, 0) hleaf hl
    rw [down]
    cases k with
    | zero =>
      rw [down, hp, W_split ((lvl ls 0).take t)]
      have : ((lvl ls 0).take t).filter isPk = [] := by
        rw [List.filter_eq_nil_iff]
        intro x hx
        have := h.leaf x (List.mem_of_mem_take hx)
        unfold isPk
        simp
        omega
      rw [this]
      simp [W]
    | succ k =>
      rw [dot_down h cs hw k _ _ (by rw [pass_len]; exact hl), hp, pass_npk, W_level h.srt h.leaf, take_leaves h.srt h.leaf]
      simp only [Nat.zero_add]
      omega
end Go.Proofs.Ytdmhhgkplcaejaa

namespace Go.Proofs.Ytdmhhgkplcaejaa
open Go.Shelf Go.RowKit Go.Lib Go.Sort Go.Proofs.YtdmhhgkplcaejaaW.PrintWords

theorem present_rd (cs : List Int) : ∀ (i : Nat) (f : Int → Int), (∀ j (h : j < cs.length), f ((i + j : Nat) : Int) = cs[j]) → ∀ x ∈ present i cs, x.w = f x.s := by
  induction cs with
  | nil => intro i f _ x h; simp [present] at h
  | cons d cs ih =>
    intro i f hf x h
    have hd : f i = d := hf 0 (by simp)
    have ht : ∀ j (h : j < cs.length), f ((i + 1 + j : Nat) : Int) = cs[j] := fun j h => by
      have := hf (j + 1) (by simp; omega)
      rw [show i + 1 + j = i + (j + 1) by omega, this, List.getElem_cons_succ]
    rw [present] at h
    split at h
    · rcases List.mem_cons.1 h with rfl | h
      · exact hd.symm
      · exact ih (i + 1) f ht x h
    · exact ih (i + 1) f ht x h
theorem present_syms (cs : List Int) : ∀ i, (present i cs).map It.s = syms i cs := by
  induction cs with
  | nil => intro i; rfl
  | cons d cs ih =>
    intro i
    rw [present, syms]
    split
    · rw [List.map_cons, ih]
    · exact ih _
theorem leaves_nodup (cs : List Int) : ((leavesOf cs).map It.s).Nodup := by
  have h1 : ((leavesOf cs).map It.s).Perm (syms 0 cs) := by rw [← present_syms]; exact (leavesOf_perm cs).map _
  rw [h1.nodup_iff]
  exact (syms_pw cs 0).imp (fun h e => by rw [e] at h; omega)
theorem leaves_lvs (cs : List Int) : Lvs (leavesOf cs) where
  srt := isort_sorted swoI _
  leaf x hx := by obtain ⟨a, b, c, d⟩ := present_mem cs 0 x ((leavesOf_perm cs).mem_iff.1 hx); omega
  pos x hx := by obtain ⟨a, b, c, d⟩ := present_mem cs 0 x ((leavesOf_perm cs).mem_iff.1 hx); omega
theorem leaves_w (cs : List Int) : ∀ x ∈ leavesOf cs, x.s < cs.length ∧ x.w = rd cs x.s := by
  intro x hx
  have h1 := (leavesOf_perm cs).mem_iff.1 hx
  obtain ⟨a, b, c, d⟩ := present_mem cs 0 x h1
  exact ⟨by omega, present_rd cs 0 (rd cs) (fun j h => by rw [Nat.zero_add]; exact rd_nat cs j h) x h1⟩
theorem leaf_of (cs : List Int) (s : Nat) (hs : s < cs.length) (hp : 0 < rd cs s) : ∃ i, ∃ h : i < (leavesOf cs).length, (leavesOf cs)[i].s = s := by
  have h1 : ((leavesOf cs).map It.s).Perm (syms 0 cs) := by rw [← present_syms]; exact (leavesOf_perm cs).map _
  have h2 : (s : Int) ∈ (leavesOf cs).map It.s := by
    rw [h1.mem_iff, mem_syms]
    exact ⟨s, hs, by simp, by rw [rd_nat _ _ hs] at hp; exact hp⟩
  obtain ⟨x, hx, he⟩ := List.mem_map.1 h2
  obtain ⟨i, hi, hxi⟩ := List.getElem_of_mem hx
  exact ⟨i, hi, by rw [hxi]; exact he⟩

/-- What lengths are like. -/
structure Lens (cs : List Int) (m : Nat) (r : List Int) : Prop where
  len : r.length = cs.length
  absent : ∀ s : Nat, s < cs.length → ¬ 0 < rd cs s → rd r s = 0
  range : ∀ s : Nat, s < cs.length → 0 < rd cs s → 1 ≤ rd r s ∧ rd r s ≤ m
  mono : ∀ s t : Nat, s < cs.length → t < cs.length → 0 < rd cs t → rd cs t < rd cs s → rd r s ≤ rd r t
  full : 2 ≤ (leavesOf cs).length → ((leavesOf cs).map (fun x => 2 ^ (m - (rd r x.s).toNat))).sum = 2 ^ m
  best : ∀ f : Int → Int, (∀ x ∈ leavesOf cs, 1 ≤ f x.s ∧ f x.s ≤ m) → ((leavesOf cs).map (fun x => 2 ^ (m - (f x.s).toNat))).sum ≤ 2 ^ m → dot cs r ≤ ((leavesOf cs).map (fun x => x.w * f x.s)).sum

theorem rd_zeros (n : Nat) (s : Int) : rd (List.replicate n 0) s = 0 := by
  unfold rd
  rw [List.getD_eq_getElem?_getD, List.getElem?_replicate]
  split <;> rfl
theorem dot_zeros (cs : List Int) : ∀ n, dot cs (List.replicate n 0) = 0 := by
  induction cs with
  | nil => intro n; cases n <;> rfl
  | cons c cs ih =>
    intro n
    cases n with
    | zero => rfl
    | succ n => rw [List.replicate_succ, dot, ih]; simp

/-- The lists of leaves that other lengths take, one for each level. -/
def Xs (ls : List It) (m : Nat) (f : Int → Int) (j : Nat) : List It := ls.filter (fun x => decide ((m : Int) ≤ f x.s + j))
theorem xs_sz (ls : List It) (m : Nat) (f : Int → Int) (hf : ∀ x ∈ ls, 1 ≤ f x.s ∧ f x.s ≤ m) : ∀ J, J < m → sz (Xs ls m f) J + (ls.map (fun x => if (m : Int) ≤ f x.s + J then 2 ^ (m - (f x.s).toNat) else 2 ^ (J + 1))).sum = ls.length * 2 ^ (J + 1) := by
  intro J
  induction J with
  | zero =>
    intro hJ
    show (Xs ls m f 0).length + _ = _
    unfold Xs
    induction ls with
    | nil => rfl
    | cons x l ih =>
      have h1 := hf x List.mem_cons_self
      have h2 := ih (fun y hy => hf y (List.mem_cons_of_mem _ hy))
      rw [List.filter_cons, List.map_cons, List.sum_cons, List.length_cons]
      by_cases hc : (m : Int) ≤ f x.s + (0 : Nat)
      · have e : m - (f x.s).toNat = 0 := by omega
        simp only [hc, decide_true, if_true, e, List.length_cons]
        omega
      · simp only [hc, decide_false, if_false, Bool.false_eq_true]
        omega
  | succ J ih =>
    intro hJ
    have h0 := ih (by omega)
    rw [sz]
    have key : (Xs ls m f (J + 1)).length * 2 ^ (J + 1) + (ls.map (fun x => if (m : Int) ≤ f x.s + (J + 1 : Nat) then 2 ^ (m - (f x.s).toNat) else 2 ^ (J + 1 + 1))).sum = (ls.map (fun x => if (m : Int) ≤ f x.s + J then 2 ^ (m - (f x.s).toNat) else 2 ^ (J + 1))).sum + ls.length * 2 ^ (J + 1) := by
      clear h0 ih
      unfold Xs
      induction ls with
      | nil => simp
      | cons x l ih =>
        have h1 := hf x List.mem_cons_self
        have h2 := ih (fun y hy => hf y (List.mem_cons_of_mem _ hy))
        rw [List.filter_cons, List.map_cons, List.map_cons, List.sum_cons, List.sum_cons, List.length_cons, Nat.add_mul, Nat.one_mul]
        by_cases hc : (m : Int) ≤ f x.s + (J + 1 : Nat)
        · by_cases hd : (m : Int) ≤ f x.s + J
          · simp only [hc, hd, decide_true, if_true, List.length_cons, Nat.add_mul, Nat.one_mul]
            omega
          · have e : m - (f x.s).toNat = J + 1 := by omega
            simp only [hc, hd, decide_true, if_true, if_false, e, List.length_cons, Nat.add_mul, Nat.one_mul]
            omega
        · have hd : ¬ (m : Int) ≤ f x.s + J := by omega
          have e : 2 ^ (J + 1 + 1) = 2 ^ (J + 1) + 2 ^ (J + 1) := by rw [Nat.pow_succ 2 (J + 1)]; omega
          simp only [hc, hd, decide_false, if_false, Bool.false_eq_true]
          omega
    have e2 : ls.length * 2 ^ (J + 1 + 1) = ls.length * 2 ^ (J + 1) + ls.length * 2 ^ (J + 1) := by rw [Nat.pow_succ 2 (J + 1), ← Nat.mul_assoc]; omega
    rw [e2]
    omega
theorem xs_wx (ls : List It) (m : Nat) (f : Int → Int) (hf : ∀ x ∈ ls, 1 ≤ f x.s ∧ f x.s ≤ m) : ∀ J, J < m → wx (Xs ls m f) J = (ls.map (fun x => if (m : Int) ≤ f x.s + J then x.w * (f x.s + J + 1 - m) else 0)).sum := by
  intro J
  induction J with
  | zero =>
    intro hJ
    show W (Xs ls m f 0) = _
    unfold Xs
    induction ls with
    | nil => rfl
    | cons x l ih =>
      have h1 := hf x List.mem_cons_self
      have h2 := ih (fun y hy => hf y (List.mem_cons_of_mem _ hy))
      rw [List.filter_cons, List.map_cons, List.sum_cons]
      by_cases hc : (m : Int) ≤ f x.s + (0 : Nat)
      · have e : f x.s + ((0 : Nat) : Int) + 1 - m = 1 := by omega
        simp only [hc, decide_true, if_true, e, W_cons, Int.mul_one]
        omega
      · simp only [hc, decide_false, if_false, Bool.false_eq_true]
        omega
  | succ J ih =>
    intro hJ
    rw [wx, ih (by omega)]
    clear ih
    unfold Xs
    induction ls with
    | nil => rfl
    | cons x l ih =>
      have h1 := hf x List.mem_cons_self
      have h2 := ih (fun y hy => hf y (List.mem_cons_of_mem _ hy))
      rw [List.filter_cons, List.map_cons, List.map_cons, List.sum_cons, List.sum_cons, ← h2]
      by_cases hc : (m : Int) ≤ f x.s + (J + 1 : Nat)
      · by_cases hd : (m : Int) ≤ f x.s + J
        · have e : f x.s + ((J + 1 : Nat) : Int) + 1 - m = (f x.s + J + 1 - m) + 1 := by omega
          simp only [hc, hd, decide_true, if_true, W_cons, e, Int.mul_add, Int.mul_one]
          omega
        · have e : f x.s + ((J + 1 : Nat) : Int) + 1 - m = 1 := by omega
          simp only [hc, hd, decide_true, if_true, if_false, W_cons, e, Int.mul_one]
          omega
      · have hd : ¬ (m : Int) ≤ f x.s + J := by omega
        simp only [hc, hd, decide_false, if_false, Bool.false_eq_true]
        omega

theorem sum_congr' {α : Type} (l : List α) (f g : α → Nat) (h : ∀ x ∈ l, f x = g x) : (l.map f).sum = (l.map g).sum := by
  rw [List.map_congr_left h]
theorem sum_congrI {α : Type} (l : List α) (f g : α → Int) (h : ∀ x ∈ l, f x = g x) : (l.map f).sum = (l.map g).sum := by
  rw [List.map_congr_left h]

/-- Other lengths that a prefix code has cost no less than the level's first items. -/
theorem other_cost {ls : List It} (h : Lvs ls) (m : Nat) (hm : 0 < m) (hn : 1 ≤ ls.length) (f : Int → Int) (hf : ∀ x ∈ ls, 1 ≤ f x.s ∧ f x.s ≤ m) (hk : (ls.map (fun x => 2 ^ (m - (f x.s).toNat))).sum ≤ 2 ^ m) :
    W ((lvl ls (m - 1)).take (2 * ls.length - 2)) ≤ (ls.map (fun x => x.w * f x.s)).sum := by
  have h1 := xs_sz ls m f hf (m - 1) (by omega)
  have h2 := xs_wx ls m f hf (m - 1) (by omega)
  rw [show m - 1 + 1 = m by omega] at h1
  rw [sum_congr' ls _ (fun x => 2 ^ (m - (f x.s).toNat)) (fun x hx => by have := hf x hx; rw [if_pos (by omega)])] at h1
  rw [sum_congrI ls _ (fun x => x.w * f x.s) (fun x hx => by
    have := hf x hx
    rw [if_pos (by omega)]
    congr 1
    omega)] at h2
  rw [← h2]
  refine least (X := Xs ls m f) h (fun j => List.filter_sublist) (m - 1) _ ?_
  have e1 : (2 * ls.length - 2) * 2 ^ (m - 1) + 2 ^ m = ls.length * 2 ^ m := by
    have e2 : 2 ^ m = 2 * 2 ^ (m - 1) := by conv => lhs; rw [show m = m - 1 + 1 by omega, Nat.pow_succ]
                                            omega
    rw [e2, ← Nat.add_mul, show 2 * ls.length - 2 + 2 = ls.length * 2 by omega, Nat.mul_assoc]
  omega
end Go.Proofs.Ytdmhhgkplcaejaa

namespace Go.Proofs.Ytdmhhgkplcaejaa
open Go.Sort Go.Proofs.YtdmhhgkplcaejaaW.PrintWords

theorem map_range {α β : Type} [Inhabited α] (ls : List α) (g : α → β) : ls.map g = (List.range ls.length).map (fun i => g (ls.getD i default)) := by
  apply List.ext_getElem
  · simp
  · intro i h1 h2
    simp at h1
    simp [h1]
theorem range_add (f g : Nat → Nat) (c : Nat) (n : Nat) (h : ∀ i, i < n → f i + g i = c) : ((List.range n).map f).sum + ((List.range n).map g).sum = n * c := by
  induction n with
  | zero => simp
  | succ n ih =>
    rw [List.range_succ, List.map_append, List.map_append, List.sum_append, List.sum_append]
    have h1 := ih (fun i hi => h i (by omega))
    have h2 := h n (by omega)
    simp only [List.map_cons, List.map_nil, List.sum_cons, List.sum_nil, Nat.succ_mul]
    omega
theorem countP_anti (l : List Nat) {i j : Nat} (h : i ≤ j) : l.countP (fun a => decide (j < a)) ≤ l.countP (fun a => decide (i < a)) := by
  apply List.countP_mono_left
  intro x _ hx
  simp at *
  omega
theorem mem_tk (ls : List It) (n : Nat) (hn : ∀ k t, lf ls k t ≤ n) : ∀ k t, ∀ a ∈ tk ls k t, a ≤ n
  | 0, _, a, h => by simp [tk] at h
  | k + 1, t, a, h => by
    rw [tk] at h
    rcases List.mem_cons.1 h with rfl | h
    · exact hn _ _
    · exact mem_tk ls n hn k _ a h

theorem one_leaf {m : Nat} (cs : List Int) (h : (leavesOf cs).length < 2) : (leavesOf cs = [] ∧ lengthsOf cs m = List.replicate cs.length 0) ∨ ∃ x, leavesOf cs = [x] ∧ lengthsOf cs m = (List.replicate cs.length 0).set x.s.toNat 1 := by
  unfold lengthsOf
  rw [if_pos h]
  match hl : leavesOf cs with
  | [] => exact .inl ⟨rfl, rfl⟩
  | [x] => exact .inr ⟨x, rfl, rfl⟩
  | x :: y :: l => rw [hl] at h; simp at h; omega

theorem lens_holds {cs : List Int} {m : Nat} (hm : 1 ≤ m) (hp : (leavesOf cs).length ≤ 2 ^ m) : Lens cs m (lengthsOf cs m) := by
  have hL := leaves_lvs cs
  have hnd := leaves_nodup cs
  have hw := leaves_w cs
  rcases Nat.lt_or_ge (leavesOf cs).length 2 with hlt | hge
  · rcases one_leaf (m := m) cs hlt with ⟨e, er⟩ | ⟨x, e, er⟩
    · have hno : ∀ s : Nat, s < cs.length → ¬ 0 < rd cs s := fun s hs h0 => by
        obtain ⟨i, hi, _⟩ := leaf_of cs s hs h0
        rw [e] at hi
        simp at hi
      rw [er]
      exact ⟨by simp, fun s _ _ => rd_zeros _ _, fun s hs h0 => absurd h0 (hno s hs), fun s t _ ht h0 => absurd h0 (hno t ht), fun h => by omega, fun f _ _ => by rw [dot_zeros, e]; simp⟩
    · have hx := hw x (by rw [e]; simp)
      have hx0 := hL.leaf x (by rw [e]; simp)
      have hxw := hL.pos x (by rw [e]; simp)
      have hone : ∀ s : Nat, s < cs.length → 0 < rd cs s → x.s = s := fun s hs h0 => by
        obtain ⟨i, hi, hxi⟩ := leaf_of cs s hs h0
        have h1 : ∀ y ∈ leavesOf cs, y = x := by rw [e]; simp
        rw [← hxi, h1 _ (List.getElem_mem hi)]
      have hrd : ∀ s : Nat, s < cs.length → rd ((List.replicate cs.length 0).set x.s.toNat 1) s = if x.s = s then 1 else 0 := fun s hs => by
        rw [rd_set _ _ _ _ (by omega), rd_zeros, List.length_replicate]
        by_cases hc : x.s = s
        · rw [if_pos hc, if_pos (by omega)]
        · rw [if_neg hc, if_neg (by omega)]
      rw [er]
      refine ⟨by simp, fun s hs h0 => ?_, fun s hs h0 => ?_, fun s t hs ht h0 h1 => ?_, fun h => by omega, fun f hf _ => ?_⟩
      · rw [hrd s hs, if_neg]
        intro hc
        rw [← hc] at h0
        have := hx.2
        omega
      · rw [hrd s hs, if_pos (hone s hs h0)]; omega
      · have a := hone s hs (by omega)
        have b := hone t ht h0
        have : s = t := by omega
        rw [this] at h1
        omega
      · have hfx := hf x (by rw [e]; simp)
        have e1 := dot_set cs (List.replicate cs.length 0) x.s.toNat 1 (by omega) (by rw [List.length_replicate]; omega)
        rw [e1, dot_zeros, rd_zeros, e, show ((x.s.toNat : Nat) : Int) = x.s by omega, ← hx.2]
        simp only [List.map_cons, List.map_nil, List.sum_cons, List.sum_nil]
        have := Int.mul_le_mul_of_nonneg_left hfx.1 (show 0 ≤ x.w by omega)
        omega
  · have er : lengthsOf cs m = down (lvl (leavesOf cs)) m (2 * (leavesOf cs).length - 2) (List.replicate cs.length 0) := by
      unfold lengthsOf
      rw [if_neg (by omega)]
    rw [er]
    clear er
    have hlo := leaf_of cs
    generalize hls : leavesOf cs = ls at *
    have key : ∀ i (hi : i < ls.length), rd (down (lvl ls) m (2 * ls.length - 2) (List.replicate cs.length 0)) ls[i].s = ((tk ls m (2 * ls.length - 2)).countP (fun a => decide (i < a)) : Nat) := fun i hi => by
      rw [down_rd _ (hL.leaf _ (List.getElem_mem hi)) _ _ _ (by rw [List.length_replicate]; exact (hw _ (List.getElem_mem hi)).1), rd_zeros, cntS_leaf hL hnd i hi]
      omega
    have htop := lvl_top ls m hp (m - 1) (by omega)
    rw [show m - (m - 1) = 1 by omega] at htop
    have hfull := lf_full hL hge (m - 1) (by omega)
    have htk : ∃ r, tk ls m (2 * ls.length - 2) = ls.length :: r := by
      obtain ⟨k, rfl⟩ : ∃ k, m = k + 1 := ⟨m - 1, by omega⟩
      exact ⟨_, by rw [tk, show lf ls k (2 * ls.length - 2) = ls.length from hfull]⟩
    have hone : ∀ i, i < ls.length → 1 ≤ (tk ls m (2 * ls.length - 2)).countP (fun a => decide (i < a)) := fun i hi => by
      obtain ⟨r, hr⟩ := htk
      rw [hr, List.countP_cons, if_pos (by simpa using hi)]
      omega
    have hmax : ∀ i, (tk ls m (2 * ls.length - 2)).countP (fun a => decide (i < a)) ≤ m := fun i => by
      have := List.countP_le_length (p := fun a => decide (i < a)) (l := tk ls m (2 * ls.length - 2))
      rw [tk_length] at this
      exact this
    refine ⟨by rw [down_len, List.length_replicate], fun s hs h0 => ?_, fun s hs h0 => ?_, fun s t hs ht h0 h1 => ?_, fun _ => ?_, fun f hf hk => ?_⟩
    · rw [down_rd _ (by omega) _ _ _ (by rw [List.length_replicate]; omega), rd_zeros, cntS_none hL _ (by omega)]
      · rfl
      · intro x hx he
        have a := hL.pos x hx
        have b := (hw x hx).2
        rw [he] at b
        omega
    · obtain ⟨i, hi, he⟩ := hlo s hs h0
      rw [← he, key i hi]
      have a := hone i hi
      have b := hmax i
      omega
    · obtain ⟨i, hi, he⟩ := hlo s hs (by omega)
      obtain ⟨j, hj, he'⟩ := hlo t ht h0
      rw [← he, ← he', key i hi, key j hj]
      have hji : j ≤ i := by
        rcases Nat.lt_or_ge i j with h | h
        · have a := hL.srt.le (i := i) (j := j) (by omega) hj
          rw [List.getD_eq_getElem?_getD, List.getD_eq_getElem?_getD, List.getElem?_eq_getElem hi, List.getElem?_eq_getElem hj] at a
          have b := (hw _ (List.getElem_mem hi)).2
          have c := (hw _ (List.getElem_mem hj)).2
          rw [he] at b
          rw [he'] at c
          simp only [Option.getD_some] at a
          omega
        · exact h
      have := countP_anti (tk ls m (2 * ls.length - 2)) hji
      omega
    · rw [hls, map_range]
      have hk : (List.range ls.length).map (fun i => 2 ^ (m - (rd (down (lvl ls) m (2 * ls.length - 2) (List.replicate cs.length 0)) (ls.getD i default).s).toNat)) = (List.range ls.length).map (fun i => 2 ^ (m - (tk ls m (2 * ls.length - 2)).countP (fun a => decide (i < a)))) := by
        apply List.map_congr_left
        intro i hi
        have hi := List.mem_range.1 hi
        rw [List.getD_eq_getElem?_getD, List.getElem?_eq_getElem hi, Option.getD_some, key i hi, Int.toNat_natCast]
      rw [hk]
      have h1 := range_add (fun i => bsum i (tk ls m (2 * ls.length - 2))) (fun i => 2 ^ (m - (tk ls m (2 * ls.length - 2)).countP (fun a => decide (i < a)))) (2 ^ m) ls.length (fun i hi => by
        have := bsum_count i _ (tk_pw hL m (2 * ls.length - 2))
        rw [tk_length] at this
        exact this)
      rw [bsum_total ls.length _ (mem_tk ls _ (fun k t => lf_le hL k t) _ _)] at h1
      have h2 := tk_vsum hL m (2 * ls.length - 2) (.inr (by omega))
      rw [if_neg (by omega)] at h2
      obtain ⟨n, hn⟩ : ∃ n, ls.length = n + 1 := ⟨ls.length - 1, by omega⟩
      rw [show 2 * ls.length - 2 = n * 2 by omega] at h1 h2 ⊢
      rw [hn, Nat.add_mul, Nat.one_mul] at h1
      rw [hn]
      rw [Nat.mul_right_comm] at h2
      omega
    · obtain ⟨k, rfl⟩ : ∃ k, m = k + 1 := ⟨m - 1, by omega⟩
      rw [hls] at hf hk ⊢
      rw [dot_down hL cs hw k _ _ (by simp), dot_zeros, Int.zero_add]
      exact other_cost hL (k + 1) (by omega) (by omega) f hf hk
end Go.Proofs.Ytdmhhgkplcaejaa

namespace Go.Proofs.Ytdmhhgkplcaejaa
open Go.Sort Go.Proofs.YtdmhhgkplcaejaaW.PrintWords

/-- The sum of g's first values. -/
def psum (g : Nat → Int) : Nat → Int
  | 0 => 0
  | i + 1 => psum g i + g i
theorem psum_le (g : Nat → Int) (B : Int) : ∀ i : Nat, (∀ j, j < i → 0 ≤ g j ∧ g j ≤ B) → 0 ≤ psum g i ∧ psum g i ≤ B * (i : Int)
  | 0, _ => by simp [psum]
  | i + 1, h => by
    have h1 := psum_le g B i (fun j hj => h j (by omega))
    have h2 := h i (by omega)
    rw [psum, show ((i + 1 : Nat) : Int) = (i : Int) + 1 by omega, Int.mul_add, Int.mul_one]
    omega
theorem psum_congr (f g : Nat → Int) : ∀ i : Nat, (∀ j, j < i → f j = g j) → psum f i = psum g i
  | 0, _ => rfl
  | i + 1, h => by rw [psum, psum, psum_congr f g i (fun j hj => h j (by omega)), h i (by omega)]
theorem psum_front (g : Nat → Int) : ∀ i : Nat, psum g (i + 1) = g 0 + psum (fun j => g (j + 1)) i
  | 0 => by simp [psum]
  | i + 1 => by rw [psum, psum_front g i, psum]; omega
theorem present_psum (G : It → Int) (cs : List Int) : ∀ i : Nat, ((present i cs).map G).sum = psum (fun j => if 0 < rd cs j then G ⟨rd cs j, ((i + j : Nat) : Int), 0, 0⟩ else 0) cs.length := by
  induction cs with
  | nil => intro i; rfl
  | cons c cs ih =>
    intro i
    have e0 : rd (c :: cs) ((0 : Nat) : Int) = c := rfl
    have e1 : ∀ j : Nat, rd (c :: cs) ((j + 1 : Nat) : Int) = rd cs j := fun j => by simp [rd]
    rw [List.length_cons, psum_front, present, e0]
    have h2 : psum (fun j => if 0 < rd (c :: cs) ((j + 1 : Nat) : Int) then G ⟨rd (c :: cs) ((j + 1 : Nat) : Int), ((i + (j + 1) : Nat) : Int), 0, 0⟩ else 0) cs.length = psum (fun j => if 0 < rd cs j then G ⟨rd cs j, ((i + 1 + j : Nat) : Int), 0, 0⟩ else 0) cs.length := by
      apply psum_congr
      intro j _
      rw [e1, show i + (j + 1) = i + 1 + j by omega]
    rw [h2, ← ih (i + 1)]
    by_cases hc : 0 < c
    · rw [if_pos hc, if_pos hc, List.map_cons, List.sum_cons]; rfl
    · rw [if_neg hc, if_neg hc, Int.zero_add]
theorem perm_sum {a b : List It} (G : It → Int) (h : a.Perm b) : (a.map G).sum = (b.map G).sum := by
  induction h with
  | nil => rfl
  | cons x _ ih => rw [List.map_cons, List.map_cons, List.sum_cons, List.sum_cons, ih]
  | swap x y l => simp only [List.map_cons, List.sum_cons]; omega
  | trans _ _ h1 h2 => exact h1.trans h2
theorem leaves_psum (G : It → Int) (cs : List Int) : ((leavesOf cs).map G).sum = psum (fun j => if 0 < rd cs j then G ⟨rd cs j, (j : Nat), 0, 0⟩ else 0) cs.length := by
  rw [perm_sum G (leavesOf_perm cs), present_psum]
  apply psum_congr
  intro j _
  rw [Nat.zero_add]
theorem nat_sum {α : Type} (l : List α) (f : α → Nat) : (((l.map f).sum : Nat) : Int) = (l.map (fun x => (f x : Int))).sum := by
  induction l with
  | nil => rfl
  | cons x l ih => simp only [List.map_cons, List.sum_cons]; omega

/-- Kraft's sum of lengths of the present symbols. -/
def kr (cs rs : List Int) (m : Int) (j : Nat) : Int := if 0 < rd cs j then 2 ^ (m - rd rs j).toNat else 0
def one (cs : List Int) (j : Nat) : Int := if 0 < rd cs j then 1 else 0
def cw (cs rs : List Int) (j : Nat) : Int := rd cs j * rd rs j

theorem leaves_kr (cs rs : List Int) (m : Int) (hm : 0 ≤ m) (h : ∀ x ∈ leavesOf cs, 0 ≤ rd rs x.s ∧ rd rs x.s ≤ m) : (((leavesOf cs).map (fun x => 2 ^ (m.toNat - (rd rs x.s).toNat))).sum : Nat) = psum (kr cs rs m) cs.length := by
  rw [nat_sum, ← sum_congrI (leavesOf cs) (fun x => 2 ^ (m - rd rs x.s).toNat) _ (fun x hx => by
    have := h x hx
    rw [show (m - rd rs x.s).toNat = m.toNat - (rd rs x.s).toNat by omega]
    simp), leaves_psum]
  rfl
theorem leaves_one (cs : List Int) : ((leavesOf cs).length : Int) = psum (one cs) cs.length := by
  have h := leaves_psum (fun _ => 1) cs
  have e : ∀ l : List It, (l.map (fun _ => (1 : Int))).sum = l.length := fun l => by
    induction l with
    | nil => rfl
    | cons x l ih => simp only [List.map_cons, List.sum_cons, List.length_cons, ih]; omega
  rw [e] at h
  exact h
theorem dot_psum (cs : List Int) : ∀ rs : List Int, rs.length = cs.length → dot cs rs = psum (cw cs rs) cs.length := by
  induction cs with
  | nil => intro rs h; cases rs <;> rfl
  | cons c cs ih =>
    intro rs h
    cases rs with
    | nil => simp at h
    | cons r rs =>
      rw [dot, ih rs (by simpa using h), List.length_cons, psum_front]
      rfl
theorem leaves_cw (cs rs : List Int) : ((leavesOf cs).map (fun x => x.w * rd rs x.s)).sum = psum (fun j => if 0 < rd cs j then rd cs j * rd rs j else 0) cs.length := leaves_psum _ cs
theorem leaf_idx {cs : List Int} {x : It} (h : x ∈ leavesOf cs) : ∃ j : Nat, j < cs.length ∧ x.s = j ∧ 0 < rd cs j := by
  have h1 := leaves_w cs x h
  have h2 := (leaves_lvs cs).leaf x h
  have h3 := (leaves_lvs cs).pos x h
  exact ⟨x.s.toNat, by omega, by omega, by rw [show ((x.s.toNat : Nat) : Int) = x.s by omega, ← h1.2]; exact h3⟩

/-- Lengths that suit the statement. -/
structure Fine (cs : List Int) (m : Int) (rs : List Int) : Prop where
  lim : 1 ≤ m ∧ m ≤ 15
  cnt : ∀ j : Nat, j < cs.length → 0 ≤ rd cs j ∧ rd cs j ≤ 4096
  len : rs.length = cs.length
  pos : ∀ j : Nat, j < cs.length → 0 < rd cs j → 1 ≤ rd rs j ∧ rd rs j ≤ m
  zero : ∀ j : Nat, j < cs.length → rd cs j = 0 → rd rs j = 0
  mono : ∀ i j : Nat, i < cs.length → j < cs.length → 0 < rd cs j → rd cs j < rd cs i → rd rs i ≤ rd rs j
  full : psum (one cs) cs.length < 2 ∨ psum (kr cs rs m) cs.length = 2 ^ m.toNat
  kraft : psum (kr cs rs m) cs.length ≤ 2 ^ m.toNat
  best : ∀ os : List Int, (∀ j : Nat, j < cs.length → 0 < rd cs j → 1 ≤ rd os j ∧ rd os j ≤ m) → psum (kr cs os m) cs.length ≤ 2 ^ m.toNat → psum (cw cs rs) cs.length ≤ psum (fun j => if 0 < rd cs j then rd cs j * rd os j else 0) cs.length

theorem fine_holds {cs : List Int} {m : Int} (h : checkOf cs m = 0) : Fine cs m (lengthsOf cs m.toNat) := by
  obtain ⟨h1, h2, h3, h4, h5⟩ := check_ok h
  rw [← leavesOf_length] at h5
  have hL := lens_holds (cs := cs) (m := m.toNat) (by omega) h5
  have hc : ∀ j : Nat, j < cs.length → 0 ≤ rd cs j ∧ rd cs j ≤ 4096 := fun j hj => h4 _ (rd_mem hj)
  have hleaf : ∀ x ∈ leavesOf cs, 0 ≤ rd (lengthsOf cs m.toNat) x.s ∧ rd (lengthsOf cs m.toNat) x.s ≤ m := fun x hx => by
    obtain ⟨j, hj, e, h0⟩ := leaf_idx hx
    rw [e]
    have := hL.range j hj h0
    omega
  have hfull : psum (one cs) cs.length < 2 ∨ psum (kr cs (lengthsOf cs m.toNat) m) cs.length = 2 ^ m.toNat := by
    rw [← leaves_one]
    rcases Nat.lt_or_ge (leavesOf cs).length 2 with h | h
    · exact .inl (by omega)
    · refine .inr ?_
      rw [← leaves_kr cs _ m (by omega) hleaf, hL.full h]
      simp
  refine ⟨⟨h1, h2⟩, hc, hL.len, fun j hj h0 => by have := hL.range j hj h0; omega, fun j hj h0 => hL.absent j hj (by omega), hL.mono, hfull, ?_, ?_⟩
  · rcases Nat.lt_or_ge (leavesOf cs).length 2 with h | h
    · rw [← leaves_kr cs _ m (by omega) hleaf]
      have hle : ((leavesOf cs).map (fun x => 2 ^ (m.toNat - (rd (lengthsOf cs m.toNat) x.s).toNat))).sum ≤ 2 ^ m.toNat := by
        match he : leavesOf cs with
        | [] => simp
        | [x] =>
          simp only [List.map_cons, List.map_nil, List.sum_cons, List.sum_nil, Nat.add_zero]
          exact Nat.pow_le_pow_right (by decide) (by omega)
        | x :: y :: l => rw [he] at h; simp at h; omega
      exact_mod_cast hle
    · rcases hfull with h' | h'
      · rw [← leaves_one] at h'; omega
      · omega
  · intro os ho hk
    rw [← dot_psum cs _ hL.len, ← leaves_cw]
    have hol : ∀ x ∈ leavesOf cs, 1 ≤ rd os x.s ∧ rd os x.s ≤ m := fun x hx => by
      obtain ⟨j, hj, e, h0⟩ := leaf_idx hx
      rw [e]
      exact ho j hj h0
    refine hL.best (rd os) (fun x hx => by have := hol x hx; omega) ?_
    rw [← leaves_kr cs os m (by omega) (fun x hx => by have := hol x hx; omega)] at hk
    exact_mod_cast hk

/-- The lengths of present symbols, one after the other. -/
def mL (cs os : List Int) : Nat → List Int
  | 0 => []
  | i + 1 => if 0 < rd cs i then mL cs os i ++ [rd os i] else mL cs os i
theorem mL_len (cs os : List Int) : ∀ i, (mL cs os i).length ≤ i
  | 0 => Nat.le_refl _
  | i + 1 => by
    have := mL_len cs os i
    rw [mL]
    split
    · rw [List.length_append]; simp; omega
    · omega
theorem mL_all (cs os : List Int) (P : Int → Prop) : ∀ i, (∀ j : Nat, j < i → 0 < rd cs j → P (rd os j)) → ∀ x ∈ mL cs os i, P x
  | 0, _, x, h => by simp [mL] at h
  | i + 1, hp, x, h => by
    rw [mL] at h
    split at h
    · rename_i h0
      rcases List.mem_append.1 h with h | h
      · exact mL_all cs os P i (fun j hj => hp j (by omega)) x h
      · simp at h; subst h; exact hp i (by omega) h0
    · exact mL_all cs os P i (fun j hj => hp j (by omega)) x h
/-- Kraft's sum of a list. -/
def krL (xs : List Int) (m : Int) (j : Nat) : Int := 2 ^ (m - rd xs j).toNat
theorem krL_snoc (xs : List Int) (m x : Int) : psum (krL (xs ++ [x]) m) (xs ++ [x]).length = psum (krL xs m) xs.length + 2 ^ (m - x).toNat := by
  rw [List.length_append, List.length_cons, List.length_nil, psum]
  congr 1
  · apply psum_congr
    intro j hj
    unfold krL rd
    simp [List.getD_eq_getElem?_getD, List.getElem?_append_left hj]
  · unfold krL rd
    simp
theorem krL_mL (cs os : List Int) (m : Int) : ∀ i, psum (krL (mL cs os i) m) (mL cs os i).length = psum (kr cs os m) i
  | 0 => rfl
  | i + 1 => by
    rw [mL, psum, kr, ← krL_mL cs os m i]
    split
    · rw [krL_snoc]
    · omega
end Go.Proofs.Ytdmhhgkplcaejaa
