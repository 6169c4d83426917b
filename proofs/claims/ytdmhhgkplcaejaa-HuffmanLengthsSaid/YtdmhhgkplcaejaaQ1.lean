/- The reference's package-merge in plain lists: merging, and how often a symbol occurs. -/
import Derived.Test.YtdmhhgkplcaejaaPM7
namespace Go.Proofs.Ytdmhhgkplcaejaa
open Go.Sort Go.Proofs.YtdmhhgkplcaejaaW.PrintWords

section
variable {α β : Type}
theorem ins1_nil (lt : α → α → Bool) (x : α) : ins1 lt x [] = [x] := rfl
theorem ins1_cons (lt : α → α → Bool) (x y : α) (l : List α) : ins1 lt x (y :: l) = if lt x y then x :: y :: l else y :: ins1 lt x l := by
  unfold ins1
  rw [List.takeWhile_cons, List.dropWhile_cons]
  cases h : lt x y <;> simp
theorem ins1_mid (lt : α → α → Bool) (x : α) (l d : List α) (h1 : ∀ y ∈ l, lt x y = false) (h2 : d = [] ∨ ∃ y r, d = y :: r ∧ lt x y = true) : ins1 lt x (l ++ d) = l ++ x :: d := by
  induction l with
  | nil =>
    rcases h2 with rfl | ⟨y, r, rfl, h⟩
    · rfl
    · rw [List.nil_append, ins1_cons, if_pos h]; rfl
  | cons y l ih =>
    rw [List.cons_append, ins1_cons, if_neg (by rw [h1 y List.mem_cons_self]; simp), ih (fun z hz => h1 z (List.mem_cons_of_mem _ hz))]
    rfl
theorem isort_append (lt : α → α → Bool) (a b : List α) : isort lt (a ++ b) = b.foldl (fun acc x => ins1 lt x acc) (isort lt a) := by
  unfold isort
  rw [List.foldl_append]
theorem isort_id (lt : α → α → Bool) (l : List α) (h : l.Pairwise (fun a b => lt b a = false)) : isort lt l = l := by
  have key : ∀ (l acc : List α), (acc ++ l).Pairwise (fun a b => lt b a = false) → l.foldl (fun acc x => ins1 lt x acc) acc = acc ++ l := by
    intro l
    induction l with
    | nil => intro acc _; simp
    | cons x l ih =>
      intro acc h
      have h1 := (List.pairwise_append.1 h).2.2
      rw [List.foldl_cons, show ins1 lt x acc = acc ++ [x] by
        have := ins1_mid lt x acc [] (fun y hy => h1 y hy x List.mem_cons_self) (.inl rfl)
        rw [List.append_nil] at this
        exact this, ih (acc ++ [x]) (by rw [List.append_assoc]; exact h), List.append_assoc]
      rfl
  exact key l [] h

/-- Two lists, element by element. -/
def F2 (P : α → β → Prop) : List α → List β → Prop
  | [], [] => True
  | x :: xs, y :: ys => P x y ∧ F2 P xs ys
  | _, _ => False
theorem F2.len {P : α → β → Prop} : ∀ {xs : List α} {ys : List β}, F2 P xs ys → xs.length = ys.length
  | [], [], _ => rfl
  | _ :: _, _ :: _, h => by rw [List.length_cons, List.length_cons, F2.len h.2]
theorem F2.mono {P Q : α → β → Prop} (hPQ : ∀ x y, P x y → Q x y) : ∀ {xs : List α} {ys : List β}, F2 P xs ys → F2 Q xs ys
  | [], [], _ => trivial
  | _ :: _, _ :: _, h => ⟨hPQ _ _ h.1, F2.mono hPQ h.2⟩
theorem F2.mono' {P Q : α → β → Prop} : ∀ {xs : List α} {ys : List β}, F2 P xs ys → (∀ x ∈ xs, ∀ y ∈ ys, P x y → Q x y) → F2 Q xs ys
  | [], [], _, _ => trivial
  | _ :: _, _ :: _, h, hPQ => ⟨hPQ _ List.mem_cons_self _ List.mem_cons_self h.1, F2.mono' h.2 (fun x hx y hy => hPQ x (List.mem_cons_of_mem _ hx) y (List.mem_cons_of_mem _ hy))⟩
theorem F2.app {P : α → β → Prop} : ∀ {xs xs' : List α} {ys ys' : List β}, F2 P xs ys → F2 P xs' ys' → F2 P (xs ++ xs') (ys ++ ys')
  | [], _, [], _, _, h => h
  | _ :: _, _, _ :: _, _, h, h' => ⟨h.1, F2.app h.2 h'⟩
theorem F2.snoc {P : α → β → Prop} {xs : List α} {ys : List β} {x : α} {y : β} (h : F2 P xs ys) (hx : P x y) : F2 P (xs ++ [x]) (ys ++ [y]) := h.app ⟨hx, trivial⟩
theorem F2.get {P : α → β → Prop} : ∀ {xs : List α} {ys : List β}, F2 P xs ys → ∀ i (h : i < xs.length) (h' : i < ys.length), P xs[i] ys[i]
  | _ :: _, _ :: _, h, 0, _, _ => h.1
  | _ :: _, _ :: _, h, i + 1, h1, h2 => F2.get h.2 i (by simpa using h1) (by simpa using h2)
theorem F2.ins {P : α → β → Prop} {l1 : α → α → Bool} {l2 : β → β → Bool} (hl : ∀ x y x' y', P x y → P x' y' → l1 x x' = l2 y y') {x : α} {y : β} (hxy : P x y) : ∀ {xs : List α} {ys : List β}, F2 P xs ys → F2 P (ins1 l1 x xs) (ins1 l2 y ys)
  | [], [], _ => ⟨hxy, trivial⟩
  | a :: xs, b :: ys, h => by
    rw [ins1_cons, ins1_cons, hl x y a b hxy h.1]
    split
    · exact ⟨hxy, h⟩
    · exact ⟨h.1, F2.ins hl hxy h.2⟩
theorem F2.sort {P : α → β → Prop} {l1 : α → α → Bool} {l2 : β → β → Bool} (hl : ∀ x y x' y', P x y → P x' y' → l1 x x' = l2 y y') {xs : List α} {ys : List β} (h : F2 P xs ys) : F2 P (isort l1 xs) (isort l2 ys) := by
  have key : ∀ (xs : List α) (ys : List β) (a : List α) (b : List β), F2 P xs ys → F2 P a b → F2 P (xs.foldl (fun acc x => ins1 l1 x acc) a) (ys.foldl (fun acc x => ins1 l2 x acc) b) := by
    intro xs
    induction xs with
    | nil => intro ys a b h hab; cases ys with
      | nil => exact hab
      | cons _ _ => exact h.elim
    | cons x xs ih => intro ys a b h hab; cases ys with
      | nil => exact h.elim
      | cons y ys => exact ih ys _ _ h.2 (F2.ins hl h.1 hab)
  exact key xs ys [] [] h trivial
end

/-- How often a symbol occurs in an item of level k. -/
def occ (ls : List It) : Nat → It → Int → Int
  | 0, x, s => if x.s = s then 1 else 0
  | k + 1, x, s => if 0 ≤ x.s then (if x.s = s then 1 else 0) else occ ls k ((lvl ls k).getD x.l.toNat default) s + occ ls k ((lvl ls k).getD x.r.toNat default) s
theorem occ_leaf (ls : List It) (k : Nat) (x : It) (s : Int) (h : 0 ≤ x.s) : occ ls k x s = if x.s = s then 1 else 0 := by
  cases k with
  | zero => rfl
  | succ k => rw [occ, if_pos h]
theorem occ_pack (ls : List It) (k i : Nat) (w s : Int) : occ ls (k + 1) ⟨w, -1, (2 * i : Nat), (2 * i + 1 : Nat)⟩ s = occ ls k ((lvl ls k).getD (2 * i) default) s + occ ls k ((lvl ls k).getD (2 * i + 1) default) s := by
  rw [occ, if_neg (by simp), Int.toNat_natCast, Int.toNat_natCast]
def sumI (l : List It) (f : It → Int) : Int := (l.map f).sum
theorem sumI_append (a b : List It) (f : It → Int) : sumI (a ++ b) f = sumI a f + sumI b f := by unfold sumI; rw [List.map_append, List.sum_append]
theorem sumI_cons (x : It) (l : List It) (f : It → Int) : sumI (x :: l) f = f x + sumI l f := by unfold sumI; rw [List.map_cons, List.sum_cons]
theorem sumI_split (l : List It) (p : It → Bool) (f : It → Int) : sumI l f = sumI (l.filter (fun x => !p x)) f + sumI (l.filter p) f := by
  induction l with
  | nil => rfl
  | cons x l ih =>
    rw [sumI_cons, ih, List.filter_cons, List.filter_cons]
    cases p x <;> simp [sumI_cons] <;> omega
theorem sumI_congr (l : List It) (f g : It → Int) (h : ∀ x ∈ l, f x = g x) : sumI l f = sumI l g := by unfold sumI; rw [List.map_congr_left h]
theorem sumI_count (l : List It) (s : Int) : sumI l (fun x => if x.s = s then 1 else 0) = (l.countP (fun x => decide (x.s = s)) : Nat) := by
  induction l with
  | nil => rfl
  | cons x l ih =>
    rw [sumI_cons, ih, List.countP_cons]
    by_cases h : x.s = s
    · simp only [h, decide_true, if_true]; omega
    · simp only [h, decide_false, if_false, Bool.false_eq_true]; omega
theorem packs_occ (ls : List It) (k : Nat) (s : Int) : ∀ p, 2 * p ≤ (lvl ls k).length → sumI (packs (lvl ls k) p) (fun x => occ ls (k + 1) x s) = sumI ((lvl ls k).take (2 * p)) (fun x => occ ls k x s)
  | 0, _ => by simp [packs, sumI]
  | p + 1, h => by
    rw [packs_succ, sumI_append, packs_occ ls k s p (by omega), show 2 * (p + 1) = 2 * p + 1 + 1 by omega, List.take_succ_eq_append_getElem (show 2 * p + 1 < (lvl ls k).length by omega), List.take_succ_eq_append_getElem (show 2 * p < (lvl ls k).length by omega), sumI_append, sumI_append, sumI_cons]
    simp only [occ_pack]
    rw [List.getD_eq_getElem?_getD, List.getD_eq_getElem?_getD, List.getElem?_eq_getElem (show 2 * p < (lvl ls k).length by omega), List.getElem?_eq_getElem (show 2 * p + 1 < (lvl ls k).length by omega)]
    simp only [sumI, List.map_cons, List.map_nil, List.sum_cons, List.sum_nil, Option.getD_some]
    omega
theorem occ_sum {ls : List It} (h : Lvs ls) (s : Int) (hs : 0 ≤ s) : ∀ k t, t ≤ (lvl ls k).length → sumI ((lvl ls k).take t) (fun x => occ ls k x s) = (cntS ls s (k + 1) t : Nat)
  | 0, t, _ => by
    have h1 : sumI ((lvl ls 0).take t) (fun x => occ ls 0 x s) = sumI ((lvl ls 0).take t) (fun x => if x.s = s then 1 else 0) := rfl
    rw [h1, sumI_count, cntS, cntS]
    rfl
  | k + 1, t, ht => by
    have hp1 := npk_take_le (lvl ls (k + 1)) t
    rw [npk_lvl h.leaf] at hp1
    rw [sumI_split _ isPk, take_packs h.srt h.leaf, packs_occ ls k s _ (by omega), occ_sum h s hs k _ (by omega), cntS, ]
    have hleaf : sumI (((lvl ls (k + 1)).take t).filter (fun x => !isPk x)) (fun x => occ ls (k + 1) x s) = (((lvl ls (k + 1)).take t).countP (fun x => decide (x.s = s)) : Nat) := by
      rw [sumI_congr _ _ (fun x => if x.s = s then 1 else 0) (fun x hx => occ_leaf ls _ x s (by
        have := (List.mem_filter.1 hx).2
        unfold isPk at this
        simp at this
        exact this)), sumI_count, List.countP_filter]
      congr 1
      apply List.countP_congr
      intro x _
      unfold isPk
      simp
      omega
    rw [hleaf]
    push_cast
    rfl

/-- The lengths as the reference sums them up. -/
theorem lengths_sum {cs : List Int} {m : Nat} (hm : 1 ≤ m) (h2 : 2 ≤ (leavesOf cs).length) (hp : (leavesOf cs).length ≤ 2 ^ m) (s : Nat) (hs : s < cs.length) :
    sumI ((lvl (leavesOf cs) (m - 1)).take (2 * (leavesOf cs).length - 2)) (fun x => occ (leavesOf cs) (m - 1) x s) = rd (lengthsOf cs m) s := by
  have hL := leaves_lvs cs
  have htop := lvl_top (leavesOf cs) m hp (m - 1) (by omega)
  rw [show m - (m - 1) = 1 by omega] at htop
  rw [occ_sum hL s (by omega) _ _ (by omega), Nat.sub_add_cancel hm]
  unfold lengthsOf
  rw [if_neg (by omega), down_rd _ (by omega) _ _ _ (by rw [List.length_replicate]; omega), rd_zeros]
  omega
end Go.Proofs.Ytdmhhgkplcaejaa
