/- Rows of the reference's items, each with its occurrences. -/
import Derived.Test.YtdmhhgkplcaejaaQ2
import Derived.Test.YtdmhhgkplcaejaaE8
namespace Go.Proofs.Ytdmhhgkplcaejaa
open Go.Shelf Go.RowKit Go.Lib Go.Sort Go.Proofs.YtdmhhgkplcaejaaW.PrintWords

theorem F2.fold {α β : Type} {P : α → β → Prop} {l1 : α → α → Bool} {l2 : β → β → Bool} (hl : ∀ x y x' y', P x y → P x' y' → l1 x x' = l2 y y') : ∀ (xs : List α) (ys : List β) (a : List α) (b : List β), F2 P xs ys → F2 P a b → F2 P (xs.foldl (fun acc x => ins1 l1 x acc) a) (ys.foldl (fun acc x => ins1 l2 x acc) b) := by
  intro xs
  induction xs with
  | nil => intro ys a b h hab; cases ys with
    | nil => exact hab
    | cons _ _ => exact h.elim
  | cons x xs ih => intro ys a b h hab; cases ys with
    | nil => exact h.elim
    | cons y ys => exact ih ys _ _ h.2 (F2.ins hl h.1 hab)
theorem F2.take {α β : Type} {P : α → β → Prop} : ∀ {xs : List α} {ys : List β} (k : Nat), F2 P xs ys → F2 P (xs.take k) (ys.take k)
  | [], [], k, _ => by simp [F2]
  | _ :: _, _ :: _, 0, _ => trivial
  | _ :: _, _ :: _, k + 1, h => ⟨h.1, F2.take k h.2⟩

/-- The occurrences of n symbols. -/
def occL (ls : List It) (n k : Nat) (x : It) : List Int := (List.range n).map fun (s : Nat) => occ ls k x s
theorem occL_length (ls : List It) (n k : Nat) (x : It) : (occL ls n k x).length = n := by simp [occL]
theorem occL_rd (ls : List It) (n k : Nat) (x : It) (s : Nat) (hs : s < n) : rd (occL ls n k x) s = occ ls k x s := by
  rw [rd_nat _ _ (by rw [occL_length]; exact hs)]
  simp [occL]
theorem ext_rd {a b : List Int} (hl : a.length = b.length) (h : ∀ s : Nat, s < a.length → rd a s = rd b s) : a = b := by
  apply List.ext_getElem hl
  intro i h1 h2
  have := h i h1
  rwa [rd_nat _ _ h1, rd_nat _ _ h2] at this

/-- An item of the reference: its weight, its occurrences (a block that is none but its own: not gl). -/
def XOk (gl base n : Nat) (ls : List It) (k : Nat) (w : World) (x : X3) (i : It) : Prop :=
  x.w = i.w ∧ x.n = n ∧ (Kd.int .i64).R 3 w base (fun b => b ≠ gl) (.slice (some ⟨x.g, 0, none⟩) n x.c) (occL ls n k i)
theorem XOk.below {gl base n k : Nat} {ls : List It} {w w1 : World} {x : X3} {i : It} (h : XOk gl base n ls k w x i) (hb : Below w.heap.size w w1) : XOk gl base n ls k w1 x i := ⟨h.1, h.2.1, Kd.R_below h.2.2 hb⟩
theorem XOk.set {gl base n k : Nat} {ls : List It} {w : World} {x : X3} {i : It} (h : XOk gl base n ls k w x i) (j : Nat) (u : Value) : XOk gl base n ls k (w.setCell ⟨gl, j, none⟩ u) x i := ⟨h.1, h.2.1, Kd.R_far (p := ⟨gl, j, none⟩) h.2.2 (fun _ hk => hk) u⟩
theorem XOk.grown {gl base bo n k : Nat} {ok : Nat → Prop} {ls : List It} {w w1 : World} {x : X3} {i : It} (h : XOk gl base n ls k w x i) {v : Value} {ys : List X3} (hv : kX.R 53 w bo ok v ys) (hg : w.grownBy w1 v.ownBlock) : XOk gl base n ls k w1 x i := by
  refine ⟨h.1, h.2.1, ?_⟩
  cases he : v.ownBlock with
  | none => exact Kd.R_grown h.2.2 hg (fun k _ => by rw [he]; simp)
  | some g =>
    obtain ⟨cells, hc⟩ := own_typed (flat_own encX_len encX_one (by decide) hv) g he
    refine Kd.R_mono (Kd.R_grown (Kd.R_types h.2.2 hc (by decide)) hg (fun k hk => ?_)) (fun _ hk => hk.1)
    rw [he]
    intro e
    injection e with e
    exact hk.2 e
theorem XOk.lower {gl base base' n k : Nat} {ls : List It} {w : World} {x : X3} {i : It} (h : XOk gl base n ls k w x i) (hb : base' ≤ base) : XOk gl base' n ls k w x i := ⟨h.1, h.2.1, Kd.R_lower h.2.2 hb⟩
theorem XOk.up {gl base n : Nat} {ls : List It} {w : World} {x : X3} {i : It} (h : XOk gl base n ls 0 w x i) (k : Nat) (hs : 0 ≤ i.s) : XOk gl base n ls k w x i := by
  have e : occL ls n k i = occL ls n 0 i := by
    unfold occL
    apply List.map_congr_left
    intro s _
    rw [occ_leaf _ _ _ _ hs, occ_leaf _ _ _ _ hs]
  exact ⟨h.1, h.2.1, by rw [e]; exact h.2.2⟩

/-- A row of items. -/
def Lst (gl base n : Nat) (ls : List It) (k : Nat) (v : Value) (its : List It) (w : World) : Prop := ∃ xs, kX.R 53 w base (fun _ => True) v xs ∧ F2 (XOk gl base n ls k w) xs its
theorem Lst.below {gl base n k : Nat} {ls its : List It} {v : Value} {w w1 : World} (h : Lst gl base n ls k v its w) (hb : Below w.heap.size w w1) : Lst gl base n ls k v its w1 := by
  obtain ⟨xs, h1, h2⟩ := h
  exact ⟨xs, Kd.R_below h1 hb, F2.mono (fun _ _ h => h.below hb) h2⟩
theorem Lst.set {gl base n k : Nat} {ls its : List It} {v : Value} {w : World} (h : Lst gl base n ls k v its w) {cells : Array Value} (hg : w.heap[gl]? = some (.cells cells 3 (0, 0))) (j : Nat) (u : Value) : Lst gl base n ls k v its (w.setCell ⟨gl, j, none⟩ u) := by
  obtain ⟨xs, h1, h2⟩ := h
  exact ⟨xs, Kd.R_set h1 hg (by decide) _ _, F2.mono (fun _ _ h => h.set j u) h2⟩
theorem Lst.lower {gl base base' n k : Nat} {ls its : List It} {v : Value} {w : World} (h : Lst gl base n ls k v its w) (hb : base' ≤ base) : Lst gl base' n ls k v its w := by
  obtain ⟨xs, h1, h2⟩ := h
  exact ⟨xs, Kd.R_lower h1 hb, F2.mono (fun _ _ h => h.lower hb) h2⟩
theorem Lst.up {gl base n : Nat} {ls its : List It} {v : Value} {w : World} (h : Lst gl base n ls 0 v its w) (k : Nat) (hs : ∀ x ∈ its, 0 ≤ x.s) : Lst gl base n ls k v its w := by
  obtain ⟨xs, h1, h2⟩ := h
  exact ⟨xs, h1, F2.mono' h2 (fun x _ y hy h => h.up k (hs y hy))⟩
theorem Lst.form {gl base n k : Nat} {ls its : List It} {v : Value} {w : World} (h : Lst gl base n ls k v its w) : ∃ A c, v = .slice A its.length c := by
  obtain ⟨xs, h1, h2⟩ := h
  obtain ⟨A, c, e⟩ := kX_slice h1
  exact ⟨A, c, by rw [← h2.len]; exact e⟩
/-- An item read: its cells, its occurrences. -/
theorem Lst.at {gl base n k : Nat} {ls its : List It} {A : Option Addr} {m c : Nat} {w : World} (h : Lst gl base n ls k (.slice A m c) its w) (i : Nat) (hi : i < its.length) :
    ∃ g x, A = some ⟨g, 0, none⟩ ∧ m = its.length ∧ its.length ≤ c ∧ g < w.heap.size ∧ w.cell? ⟨g, i * 3, none⟩ = some (.int .i64 (its.getD i default).w) ∧ w.cell? ⟨g, i * 3 + 1, none⟩ = some (.bool x.lf) ∧ w.cell? ⟨g, i * 3 + 2, none⟩ = some (.slice (some ⟨x.g, 0, none⟩) n x.c) ∧ XOk gl base n ls k w x (its.getD i default) := by
  obtain ⟨xs, h1, h2⟩ := h
  have hl := h2.len
  obtain ⟨g, cap, e, hc, _, hgs, hx⟩ := kX_form h1 (by omega)
  injection e with e1 e2 e3
  obtain ⟨c0, c1, c2⟩ := hx i (by omega)
  have hg := h2.get i (by omega) hi
  have e4 : xs.getD i default = xs[i]'(by omega) := by rw [List.getD_eq_getElem?_getD, List.getElem?_eq_getElem (by omega)]; rfl
  have e5 : its.getD i default = its[i] := by rw [List.getD_eq_getElem?_getD, List.getElem?_eq_getElem hi]; rfl
  rw [← e4, ← e5] at hg
  refine ⟨g, xs.getD i default, e1, by omega, by omega, hgs, ?_, c1, ?_, hg⟩
  · rw [c0, hg.1]
  · rw [c2, hg.2.1]

/-- Lengths of the present symbols so far: 1 each. -/
def ones (cs : List Int) : Nat → List Int
  | 0 => List.replicate cs.length 0
  | k + 1 => if rd cs k = 0 then ones cs k else (ones cs k).set k 1
theorem ones_length (cs : List Int) : ∀ k, (ones cs k).length = cs.length
  | 0 => by simp [ones]
  | k + 1 => by rw [ones]; split <;> simp [ones_length cs k]
theorem ones_rd (cs : List Int) (s : Nat) (hs : s < cs.length) : ∀ k, k ≤ cs.length → rd (ones cs k) s = if s < k ∧ rd cs s ≠ 0 then 1 else 0
  | 0, _ => by rw [ones, rd_zeros]; simp
  | k + 1, hk => by
    have ih := ones_rd cs s hs k (by omega)
    rw [ones]
    split
    · rename_i h
      rw [ih]
      by_cases e : s = k
      · subst e; rw [if_neg (by omega), if_neg (fun h' => h'.2 h)]
      · by_cases h1 : s < k ∧ rd cs s ≠ 0
        · rw [if_pos h1, if_pos ⟨by omega, h1.2⟩]
        · rw [if_neg h1, if_neg (fun h' => h1 ⟨by omega, h'.2⟩)]
    · rename_i h
      rw [rd_set _ _ _ _ (by omega), ih, ones_length]
      by_cases e : s = k
      · subst e; rw [if_pos ⟨hs, rfl⟩, if_pos ⟨by omega, h⟩]
      · rw [if_neg (fun h' => e (by omega))]
        by_cases h1 : s < k ∧ rd cs s ≠ 0
        · rw [if_pos h1, if_pos ⟨by omega, h1.2⟩]
        · rw [if_neg h1, if_neg (fun h' => h1 ⟨by omega, h'.2⟩)]
theorem ones_few {cs : List Int} {m : Nat} (hpos : ∀ j : Nat, j < cs.length → 0 ≤ rd cs j) (h : (leavesOf cs).length < 2) : ones cs cs.length = lengthsOf cs m := by
  have hw := leaves_w cs
  rcases one_leaf (m := m) cs h with ⟨e, er⟩ | ⟨x, e, er⟩
  · rw [er]
    refine ext_rd (by rw [ones_length]; simp) (fun s hs => ?_)
    rw [ones_length] at hs
    rw [ones_rd cs s hs _ (Nat.le_refl _), rd_zeros, if_neg]
    rintro ⟨_, h0⟩
    have := hpos s hs
    obtain ⟨i, hi, _⟩ := leaf_of cs s hs (by omega)
    rw [e] at hi
    simp at hi
  · rw [er]
    have hx := hw x (by rw [e]; simp)
    have hx0 := (leaves_lvs cs).leaf x (by rw [e]; simp)
    have hxw := (leaves_lvs cs).pos x (by rw [e]; simp)
    refine ext_rd (by rw [ones_length]; simp) (fun s hs => ?_)
    rw [ones_length] at hs
    rw [ones_rd cs s hs _ (Nat.le_refl _), rd_set _ _ _ _ (by omega), rd_zeros, List.length_replicate]
    by_cases h0 : rd cs s = 0
    · rw [if_neg (fun h => h.2 h0), if_neg]
      intro h'
      have : x.s = s := by omega
      rw [← this] at h0
      have := hx.2
      omega
    · have := hpos s hs
      obtain ⟨i, hi, he⟩ := leaf_of cs s hs (by omega)
      have h1 : ∀ y ∈ leavesOf cs, y = x := by rw [e]; simp
      rw [h1 _ (List.getElem_mem hi)] at he
      rw [if_pos ⟨hs, h0⟩, if_pos ⟨by omega, by omega⟩]

/-- The sums laid so far. -/
def outL (cs r : List Int) : Nat → List Int
  | 0 => ones cs cs.length
  | s + 1 => (outL cs r s).set s (rd r s)
theorem outL_length (cs r : List Int) : ∀ k, (outL cs r k).length = cs.length
  | 0 => ones_length _ _
  | k + 1 => by rw [outL, List.length_set, outL_length cs r k]
theorem outL_rd (cs r : List Int) (s : Nat) (hs : s < cs.length) : ∀ k, k ≤ cs.length → s < k → rd (outL cs r k) s = rd r s
  | 0, _, h => by omega
  | k + 1, hk, h => by
    rw [outL, rd_set _ _ _ _ (by omega), outL_length]
    by_cases e : s = k
    · subst e; rw [if_pos ⟨hs, rfl⟩]
    · rw [if_neg (fun h' => e (by omega))]
      exact outL_rd cs r s hs k (by omega) (by omega)
theorem outL_all {cs r : List Int} (hr : r.length = cs.length) : outL cs r cs.length = r := by
  refine ext_rd (by rw [outL_length, hr]) (fun s hs => ?_)
  rw [outL_length] at hs
  exact outL_rd cs r s hs _ (Nat.le_refl _) hs
end Go.Proofs.Ytdmhhgkplcaejaa
