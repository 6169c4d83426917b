/- Package-merge in plain lists: the laws of the lengths. -/
import Derived.Test.YtdmhhgkplcaejaaPM4
namespace Go.Proofs.Ytdmhhgkplcaejaa
open Go.Shelf Go.RowKit Go.Lib Go.Sort Go.Proofs.YtdmhhgkplcaejaaW.PrintWords

theorem present_rd (cs : List Int) : ∀ (i : Nat) (f : Int → Int), (∀ j (h : j < cs.length), f ((i + j : Nat) : Int) = cs[j]) → ∀ x ∈ present i cs, x.w = f x.s := by
  induction cs with
  | nil => intro i f _ x h; simp [present] at h
  | cons d cs ih =>
    intro i f hf x h
    have hd : f i = d := hf 0 (by simp)
    have ht : ∀ j (h : j < cs.length), f ((i + 1 + j : Nat) : Int) = cs[j] := fun j h => by
      have := hf (j + 1) (by simp; omega)
      rw [show i + 1 + j = i + (j + 1) by omega, this, List.getElem_cons_succ]
    rw [present] at h
    split at h
    · rcases List.mem_cons.1 h with rfl | h
      · exact hd.symm
      · exact ih (i + 1) f ht x h
    · exact ih (i + 1) f ht x h
theorem present_syms (cs : List Int) : ∀ i, (present i cs).map It.s = syms i cs := by
  induction cs with
  | nil => intro i; rfl
  | cons d cs ih =>
    intro i
    rw [present, syms]
    split
    · rw [List.map_cons, ih]
    · exact ih _
theorem leaves_nodup (cs : List Int) : ((leavesOf cs).map It.s).Nodup := by
  have h1 : ((leavesOf cs).map It.s).Perm (syms 0 cs) := by rw [← present_syms]; exact (leavesOf_perm cs).map _
  rw [h1.nodup_iff]
  exact (syms_pw cs 0).imp (fun h e => by rw [e] at h; omega)
theorem leaves_lvs (cs : List Int) : Lvs (leavesOf cs) where
  srt := isort_sorted swoI _
  leaf x hx := by obtain ⟨a, b, c, d⟩ := present_mem cs 0 x ((leavesOf_perm cs).mem_iff.1 hx); omega
  pos x hx := by obtain ⟨a, b, c, d⟩ := present_mem cs 0 x ((leavesOf_perm cs).mem_iff.1 hx); omega
theorem leaves_w (cs : List Int) : ∀ x ∈ leavesOf cs, x.s < cs.length ∧ x.w = rd cs x.s := by
  intro x hx
  have h1 := (leavesOf_perm cs).mem_iff.1 hx
  obtain ⟨a, b, c, d⟩ := present_mem cs 0 x h1
  exact ⟨by omega, present_rd cs 0 (rd cs) (fun j h => by rw [Nat.zero_add]; exact rd_nat cs j h) x h1⟩
theorem leaf_of (cs : List Int) (s : Nat) (hs : s < cs.length) (hp : 0 < rd cs s) : ∃ i, ∃ h : i < (leavesOf cs).length, (leavesOf cs)[i].s = s := by
  have h1 : ((leavesOf cs).map It.s).Perm (syms 0 cs) := by rw [← present_syms]; exact (leavesOf_perm cs).map _
  have h2 : (s : Int) ∈ (leavesOf cs).map It.s := by
    rw [h1.mem_iff, mem_syms]
    exact ⟨s, hs, by simp, by rw [rd_nat _ _ hs] at hp; exact hp⟩
  obtain ⟨x, hx, he⟩ := List.mem_map.1 h2
  obtain ⟨i, hi, hxi⟩ := List.getElem_of_mem hx
  exact ⟨i, hi, by rw [hxi]; exact he⟩

/-- What lengths are like. -/
structure Lens (cs : List Int) (m : Nat) (r : List Int) : Prop where
  len : r.length = cs.length
  absent : ∀ s : Nat, s < cs.length → ¬ 0 < rd cs s → rd r s = 0
  range : ∀ s : Nat, s < cs.length → 0 < rd cs s → 1 ≤ rd r s ∧ rd r s ≤ m
  mono : ∀ s t : Nat, s < cs.length → t < cs.length → 0 < rd cs t → rd cs t < rd cs s → rd r s ≤ rd r t
  full : 2 ≤ (leavesOf cs).length → ((leavesOf cs).map (fun x => 2 ^ (m - (rd r x.s).toNat))).sum = 2 ^ m
  best : ∀ f : Int → Int, (∀ x ∈ leavesOf cs, 1 ≤ f x.s ∧ f x.s ≤ m) → ((leavesOf cs).map (fun x => 2 ^ (m - (f x.s).toNat))).sum ≤ 2 ^ m → dot cs r ≤ ((leavesOf cs).map (fun x => x.w * f x.s)).sum

theorem rd_zeros (n : Nat) (s : Int) : rd (List.replicate n 0) s = 0 := by
  unfold rd
  rw [List.getD_eq_getElem?_getD, List.getElem?_replicate]
  split <;> rfl
theorem dot_zeros (cs : List Int) : ∀ n, dot cs (List.replicate n 0) = 0 := by
  induction cs with
  | nil => intro n; cases n <;> rfl
  | cons c cs ih =>
    intro n
    cases n with
    | zero => rfl
    | succ n => rw [List.replicate_succ, dot, ih]; simp

/-- The lists of leaves that other lengths take, one for each level. -/
def Xs (ls : List It) (m : Nat) (f : Int → Int) (j : Nat) : List It := ls.filter (fun x => decide ((m : Int) ≤ f x.s + j))
theorem xs_sz (ls : List It) (m : Nat) (f : Int → Int) (hf : ∀ x ∈ ls, 1 ≤ f x.s ∧ f x.s ≤ m) : ∀ J, J < m → sz (Xs ls m f) J + (ls.map (fun x => if (m : Int) ≤ f x.s + J then 2 ^ (m - (f x.s).toNat) else 2 ^ (J + 1))).sum = ls.length * 2 ^ (J + 1) := by
  intro J
  induction J with
  | zero =>
    intro hJ
    show (Xs ls m f 0).length + _ = _
    unfold Xs
    induction ls with
    | nil => rfl
    | cons x l ih =>
      have h1 := hf x List.mem_cons_self
      have h2 := ih (fun y hy => hf y (List.mem_cons_of_mem _ hy))
      rw [List.filter_cons, List.map_cons, List.sum_cons, List.length_cons]
      by_cases hc : (m : Int) ≤ f x.s + (0 : Nat)
      · have e : m - (f x.s).toNat = 0 := by omega
        simp only [hc, decide_true, if_true, e, List.length_cons]
        omega
      · simp only [hc, decide_false, if_false, Bool.false_eq_true]
        omega
  | succ J ih =>
    intro hJ
    have h0 := ih (by omega)
    rw [sz]
    have key : (Xs ls m f (J + 1)).length * 2 ^ (J + 1) + (ls.map (fun x => if (m : Int) ≤ f x.s + (J + 1 : Nat) then 2 ^ (m - (f x.s).toNat) else 2 ^ (J + 1 + 1))).sum = (ls.map (fun x => if (m : Int) ≤ f x.s + J then 2 ^ (m - (f x.s).toNat) else 2 ^ (J + 1))).sum + ls.length * 2 ^ (J + 1) := by
      clear h0 ih
      unfold Xs
      induction ls with
      | nil => simp
      | cons x l ih =>
        have h1 := hf x List.mem_cons_self
        have h2 := ih (fun y hy => hf y (List.mem_cons_of_mem _ hy))
        rw [List.filter_cons, List.map_cons, List.map_cons, List.sum_cons, List.sum_cons, List.length_cons, Nat.add_mul, Nat.one_mul]
        by_cases hc : (m : Int) ≤ f x.s + (J + 1 : Nat)
        · by_cases hd : (m : Int) ≤ f x.s + J
          · simp only [hc, hd, decide_true, if_true, List.length_cons, Nat.add_mul, Nat.one_mul]
            omega
          · have e : m - (f x.s).toNat = J + 1 := by omega
            simp only [hc, hd, decide_true, if_true, if_false, e, List.length_cons, Nat.add_mul, Nat.one_mul]
            omega
        · have hd : ¬ (m : Int) ≤ f x.s + J := by omega
          have e : 2 ^ (J + 1 + 1) = 2 ^ (J + 1) + 2 ^ (J + 1) := by rw [Nat.pow_succ 2 (J + 1)]; omega
          simp only [hc, hd, decide_false, if_false, Bool.false_eq_true]
          omega
    have e2 : ls.length * 2 ^ (J + 1 + 1) = ls.length * 2 ^ (J + 1) + ls.length * 2 ^ (J + 1) := by rw [Nat.pow_succ 2 (J + 1), ← Nat.mul_assoc]; omega
    rw [e2]
    omega
theorem xs_wx (ls : List It) (m : Nat) (f : Int → Int) (hf : ∀ x ∈ ls, 1 ≤ f x.s ∧ f x.s ≤ m) : ∀ J, J < m → wx (Xs ls m f) J = (ls.map (fun x => if (m : Int) ≤ f x.s + J then x.w * (f x.s + J + 1 - m) else 0)).sum := by
  intro J
  induction J with
  | zero =>
    intro hJ
    show W (Xs ls m f 0) = _
    unfold Xs
    induction ls with
    | nil => rfl
    | cons x l ih =>
      have h1 := hf x List.mem_cons_self
      have h2 := ih (fun y hy => hf y (List.mem_cons_of_mem _ hy))
      rw [List.filter_cons, List.map_cons, List.sum_cons]
      by_cases hc : (m : Int) ≤ f x.s + (0 : Nat)
      · have e : f x.s + ((0 : Nat) : Int) + 1 - m = 1 := by omega
        simp only [hc, decide_true, if_true, e, W_cons, Int.mul_one]
        omega
      · simp only [hc, decide_false, if_false, Bool.false_eq_true]
        omega
  | succ J ih =>
    intro hJ
    rw [wx, ih (by omega)]
    clear ih
    unfold Xs
    induction ls with
    | nil => rfl
    | cons x l ih =>
      have h1 := hf x List.mem_cons_self
      have h2 := ih (fun y hy => hf y (List.mem_cons_of_mem _ hy))
      rw [List.filter_cons, List.map_cons, List.map_cons, List.sum_cons, List.sum_cons, ← h2]
      by_cases hc : (m : Int) ≤ f x.s + (J + 1 : Nat)
      · by_cases hd : (m : Int) ≤ f x.s + J
        · have e : f x.s + ((J + 1 : Nat) : Int) + 1 - m = (f x.s + J + 1 - m) + 1 := by omega
          simp only [hc, hd, decide_true, if_true, W_cons, e, Int.mul_add, Int.mul_one]
          omega
        · have e : f x.s + ((J + 1 : Nat) : Int) + 1 - m = 1 := by omega
          simp only [hc, hd, decide_true, if_true, if_false, W_cons, e, Int.mul_one]
          omega
      · have hd : ¬ (m : Int) ≤ f x.s + J := by omega
        simp only [hc, hd, decide_false, if_false, Bool.false_eq_true]
        omega

theorem sum_congr' {α : Type} (l : List α) (f g : α → Nat) (h : ∀ x ∈ l, f x = g x) : (l.map f).sum = (l.map g).sum := by
  rw [List.map_congr_left h]
theorem sum_congrI {α : Type} (l : List α) (f g : α → Int) (h : ∀ x ∈ l, f x = g x) : (l.map f).sum = (l.map g).sum := by
  rw [List.map_congr_left h]

/-- Other lengths that a prefix code has cost no less than the level's first items. -/
theorem other_cost {ls : List It} (h : Lvs ls) (m : Nat) (hm : 0 < m) (hn : 1 ≤ ls.length) (f : Int → Int) (hf : ∀ x ∈ ls, 1 ≤ f x.s ∧ f x.s ≤ m) (hk : (ls.map (fun x => 2 ^ (m - (f x.s).toNat))).sum ≤ 2 ^ m) :
    W ((lvl ls (m - 1)).take (2 * ls.length - 2)) ≤ (ls.map (fun x => x.w * f x.s)).sum := by
  have h1 := xs_sz ls m f hf (m - 1) (by omega)
  have h2 := xs_wx ls m f hf (m - 1) (by omega)
  rw [show m - 1 + 1 = m by omega] at h1
  rw [sum_congr' ls _ (fun x => 2 ^ (m - (f x.s).toNat)) (fun x hx => by have := hf x hx; rw [if_pos (by omega)])] at h1
  rw [sum_congrI ls _ (fun x => x.w * f x.s) (fun x hx => by
    have := hf x hx
    rw [if_pos (by omega)]
    congr 1
    omega)] at h2
  rw [← h2]
  refine least (X := Xs ls m f) h (fun j => List.filter_sublist) (m - 1) _ ?_
  have e1 : (2 * ls.length - 2) * 2 ^ (m - 1) + 2 ^ m = ls.length * 2 ^ m := by
    have e2 : 2 ^ m = 2 * 2 ^ (m - 1) := by conv => lhs; rw [show m = m - 1 + 1 by omega, Nat.pow_succ]
                                            omega
    rw [e2, ← Nat.add_mul, show 2 * ls.length - 2 + 2 = ls.length * 2 by omega, Nat.mul_assoc]
  omega
end Go.Proofs.Ytdmhhgkplcaejaa
