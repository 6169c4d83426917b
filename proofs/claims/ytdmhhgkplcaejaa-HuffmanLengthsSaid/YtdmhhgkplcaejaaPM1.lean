/- Package-merge in plain lists: the levels' order, their leaves and packages, the cost. -/
import Derived.Test.YtdmhhgkplcaejaaHP
import Derived.Test.YtdmhhgkplcaejaaE3
namespace Go.Proofs.Ytdmhhgkplcaejaa
open Go.Shelf Go.RowKit Go.Lib Go.Sort Go.Proofs.YtdmhhgkplcaejaaW.PrintWords

section
variable {α : Type}
/-- Of two sorted lists, sorted together, each keeps its order. -/
theorem isort_keeps {lt : α → α → Bool} (hO : SWO lt) (l : List α) (p : α → Bool) (hs : (l.filter p).Pairwise (fun a b => lt b a = false)) : (isort lt l).filter p = l.filter p := by
  have hO2 : SWO (fun x y : α × Nat => lt x.1 y.1) := ⟨fun x => hO.irrefl _, fun x y z => hO.trans _ _ _, fun x y z => hO.ntrans _ _ _⟩
  have hz := zipIdx_pw l 0
  have e1 : (isort (fun x y : α × Nat => lt x.1 y.1) (l.zipIdx 0)).map Prod.fst = isort lt l := by
    rw [isort_map Prod.fst lt]
    simp
  have h1 : ((isort (fun x y : α × Nat => lt x.1 y.1) (l.zipIdx 0)).filter (fun x => p x.1)).Pairwise (Lx (fun x y : α × Nat => lt x.1 y.1) Prod.snd) :=
    (isort_from_pw hO2 Prod.snd _ [] List.Pairwise.nil hz (by simp)).filter _
  have h2 : ((l.zipIdx 0).filter (fun x => p x.1)).Pairwise (Lx (fun x y : α × Nat => lt x.1 y.1) Prod.snd) := by
    have e3 : ((l.zipIdx 0).filter (fun x => p x.1)).map Prod.fst = l.filter p := by
      rw [show (fun x : α × Nat => p x.1) = p ∘ Prod.fst from rfl, ← List.filter_map]
      simp
    have h3 : ((l.zipIdx 0).filter (fun x => p x.1)).Pairwise (fun a b => lt b.1 a.1 = false) := by
      rw [← e3] at hs
      exact List.pairwise_map.1 hs
    have h4 := hz.filter (fun x => p x.1)
    exact (h3.and h4).imp (fun h => .inr ⟨h.1, h.2⟩)
  have h5 := Lx.uniq hO2 h1 h2 ((isort_perm _ _).filter _)
  have h6 := congrArg (List.map Prod.fst) h5
  rw [show (fun x : α × Nat => p x.1) = p ∘ Prod.fst from rfl, ← List.filter_map, ← List.filter_map, e1] at h6
  simpa using h6

theorem filter_take (l : List α) (p : α → Bool) (t : Nat) : (l.take t).filter p = (l.filter p).take ((l.take t).filter p).length := by
  conv => rhs; rw [← List.take_append_drop t l, List.filter_append]
  rw [List.take_append_drop, List.take_left']
  rfl
end

theorem swoI : SWO ltW where
  irrefl x := by unfold ltW; simp
  trans x y z h1 h2 := by unfold ltW at *; simp at *; omega
  ntrans x y z h1 h2 := by unfold ltW at *; simp at *; omega

/-- The weight of a list. -/
def W (l : List It) : Int := (l.map It.w).sum
theorem W_append (a b : List It) : W (a ++ b) = W a + W b := by unfold W; rw [List.map_append, List.sum_append]
theorem W_cons (x : It) (l : List It) : W (x :: l) = x.w + W l := by unfold W; rw [List.map_cons, List.sum_cons]
theorem W_perm {a b : List It} (h : a.Perm b) : W a = W b := by
  induction h with
  | nil => rfl
  | cons x _ ih => rw [W_cons, W_cons, ih]
  | swap x y l => rw [W_cons, W_cons, W_cons, W_cons]; omega
  | trans _ _ h1 h2 => rw [h1, h2]
def isPk (x : It) : Bool := decide (x.s < 0)
theorem W_split (l : List It) : W l = W (l.filter (fun x => !isPk x)) + W (l.filter isPk) := by
  induction l with
  | nil => rfl
  | cons x l ih =>
    rw [W_cons, List.filter_cons, List.filter_cons, ih]
    cases isPk x
    · simp only [Bool.not_false, if_true, Bool.false_eq_true, if_false, W_cons]; omega
    · simp only [Bool.not_true, if_true, Bool.false_eq_true, if_false, W_cons]; omega

/-- A list sorted by weight. -/
def Srt (l : List It) : Prop := l.Pairwise (fun a b => ltW b a = false)
theorem Srt.le {l : List It} (h : Srt l) {i j : Nat} (hij : i ≤ j) (hj : j < l.length) : (l.getD i default).w ≤ (l.getD j default).w := by
  rcases Nat.lt_or_ge i j with h1 | h1
  · have := List.pairwise_iff_getElem.1 h i j (by omega) hj h1
    unfold ltW at this
    simp only [List.getD_eq_getElem?_getD, List.getElem?_eq_getElem hj, List.getElem?_eq_getElem (show i < l.length by omega), Option.getD_some]
    simpa using this
  · have : i = j := by omega
    subst this; exact Int.le_refl _
theorem packs_srt {bs : List It} (h : Srt bs) {j : Nat} (hj : 2 * j ≤ bs.length) : Srt (packs bs j) := by
  unfold Srt packs
  rw [List.pairwise_map, List.pairwise_iff_getElem]
  intro a b ha hb hab
  simp only [List.getElem_range]
  rw [List.length_range] at ha hb
  have h1 := h.le (show 2 * a ≤ 2 * b by omega) (by omega)
  have h2 := h.le (show 2 * a + 1 ≤ 2 * b + 1 by omega) (by omega)
  show decide (_ + _ < _ + _) = false
  rw [decide_eq_false_iff_not]
  omega

section
variable {ls : List It} (hs : Srt ls) (hl : ∀ x ∈ ls, 0 ≤ x.s)
include hs in
theorem lvl_srt (j : Nat) : Srt (lvl ls j) := by
  cases j with
  | zero => exact hs
  | succ j => exact isort_sorted swoI _
include hl in
theorem leaf_filter : ls.filter isPk = [] ∧ ls.filter (fun x => !isPk x) = ls := by
  have h : ∀ x ∈ ls, isPk x = false := fun x hx => by have := hl x hx; unfold isPk; simp; omega
  constructor
  · rw [List.filter_eq_nil_iff]; intro x hx; rw [h x hx]; simp
  · rw [List.filter_eq_self]; intro x hx; rw [h x hx]; rfl
theorem packs_filter (bs : List It) (j : Nat) : (packs bs j).filter isPk = packs bs j ∧ (packs bs j).filter (fun x => !isPk x) = [] := by
  have h : ∀ x ∈ packs bs j, isPk x = true := fun x hx => by
    unfold packs at hx
    obtain ⟨t, _, rfl⟩ := List.mem_map.1 hx
    rfl
  constructor
  · rw [List.filter_eq_self]; intro x hx; exact h x hx
  · rw [List.filter_eq_nil_iff]; intro x hx; rw [h x hx]; simp
include hs hl in
theorem lvl_leaves (j : Nat) : (lvl ls j).filter (fun x => !isPk x) = ls := by
  cases j with
  | zero => exact (leaf_filter hl).2
  | succ j =>
    have e : (ls ++ packs (lvl ls j) ((lvl ls j).length / 2)).filter (fun x => !isPk x) = ls := by
      rw [List.filter_append, (leaf_filter hl).2, (packs_filter _ _).2, List.append_nil]
    rw [show lvl ls (j + 1) = isort ltW (ls ++ packs (lvl ls j) ((lvl ls j).length / 2)) from rfl, isort_keeps swoI _ _ (by rw [e]; exact hs), e]
include hs hl in
theorem lvl_packs (j : Nat) : (lvl ls (j + 1)).filter isPk = packs (lvl ls j) ((lvl ls j).length / 2) := by
  have e : (ls ++ packs (lvl ls j) ((lvl ls j).length / 2)).filter isPk = packs (lvl ls j) ((lvl ls j).length / 2) := by
    rw [List.filter_append, (leaf_filter hl).1, (packs_filter _ _).1, List.nil_append]
  rw [show lvl ls (j + 1) = isort ltW (ls ++ packs (lvl ls j) ((lvl ls j).length / 2)) from rfl, isort_keeps swoI _ _ (by rw [e]; exact packs_srt (lvl_srt hs j) (by omega)), e]
end

theorem npk_eq (l : List It) : npk l = (l.filter isPk).length := by unfold npk; rw [List.countP_eq_length_filter]; rfl
theorem packs_take (bs : List It) (j p : Nat) (h : p ≤ j) : (packs bs j).take p = packs bs p := by
  unfold packs
  rw [← List.map_take, List.take_range, Nat.min_eq_left h]
theorem packs_W (bs : List It) : ∀ p, 2 * p ≤ bs.length → W (packs bs p) = W (bs.take (2 * p))
  | 0, _ => by simp [packs, W]
  | p + 1, h => by
    rw [packs_succ, W_append, packs_W bs p (by omega), show 2 * (p + 1) = 2 * p + 1 + 1 by omega, List.take_succ_eq_append_getElem (show 2 * p + 1 < bs.length by omega), List.take_succ_eq_append_getElem (show 2 * p < bs.length by omega), W_append, W_append]
    simp only [W, List.map_cons, List.map_nil, List.sum_cons, List.sum_nil, List.getD_eq_getElem?_getD, List.getElem?_eq_getElem (show 2 * p + 1 < bs.length by omega), List.getElem?_eq_getElem (show 2 * p < bs.length by omega), Option.getD_some]
    omega

section
variable {ls : List It} (hs : Srt ls) (hl : ∀ x ∈ ls, 0 ≤ x.s)
/-- How many leaves are among the first t items of a level. -/
def lf (ls : List It) (j t : Nat) : Nat := (((lvl ls j).take t).filter (fun x => !isPk x)).length
include hs hl in
theorem take_leaves (j t : Nat) : ((lvl ls j).take t).filter (fun x => !isPk x) = ls.take (lf ls j t) := by
  have := filter_take (lvl ls j) (fun x => !isPk x) t
  rw [lvl_leaves hs hl] at this
  exact this
include hs hl in
theorem take_packs (j t : Nat) : ((lvl ls (j + 1)).take t).filter isPk = packs (lvl ls j) (npk ((lvl ls (j + 1)).take t)) := by
  have h1 := filter_take (lvl ls (j + 1)) isPk t
  rw [lvl_packs hs hl, ← npk_eq] at h1
  rw [h1, packs_take]
  have := npk_take_le (lvl ls (j + 1)) t
  rw [npk_lvl hl] at this
  exact this
theorem lf_npk (j t : Nat) (h : t ≤ (lvl ls j).length) : lf ls j t + npk ((lvl ls j).take t) = t := by
  unfold lf
  rw [npk_eq]
  have h1 : ((lvl ls j).take t).length = (((lvl ls j).take t).filter (fun x => !isPk x)).length + (((lvl ls j).take t).filter isPk).length := by
    generalize (lvl ls j).take t = l
    induction l with
    | nil => rfl
    | cons x l ih => rw [List.length_cons, ih, List.filter_cons, List.filter_cons]; cases isPk x <;> simp <;> omega
  rw [List.length_take, Nat.min_eq_left h] at h1
  omega
include hs hl in
theorem W_level (j t : Nat) : W ((lvl ls (j + 1)).take t) = W (ls.take (lf ls (j + 1) t)) + W ((lvl ls j).take (2 * npk ((lvl ls (j + 1)).take t))) := by
  rw [W_split, take_leaves hs hl, take_packs hs hl, packs_W]
  have := npk_take_le (lvl ls (j + 1)) t
  rw [npk_lvl hl] at this
  omega
end
end Go.Proofs.Ytdmhhgkplcaejaa
