/- Rows of plain elements (huffman's items; ints), and what the stable sort leaves of such a row of the call's own. -/
import Derived.Test.YtdmhhgkplcaejaaStT
import Derived.Test.YtdmhhgkplcaejaaWWords
namespace Go.Proofs.Ytdmhhgkplcaejaa
open Go.Shelf Go.RowKit Go.Lib Go.Sort Go.Proofs.YtdmhhgkplcaejaaW.PrintWords

section
variable {α : Type} (enc : α → List Value) (sz : Nat)
/-- Elements of sz cells that lead to nothing. -/
def flatKd (hl : ∀ x, (enc x).length = sz) (h1 : ∀ x, ∀ u ∈ enc x, u.oneCell' = true) : Kd α where
  sz := sz
  E := []
  K := fun _ x cs => cs = enc x
  M := fun _ _ _ x cs => cs = enc x
  K_len := fun h => by rw [h]; exact hl _
  K_one := fun h u hu => by rw [h] at hu; exact h1 _ u hu
  K_below := fun _ h => h
  K_of_M := fun h => h
  M_mono := fun _ h => h
  M_bound := fun h => h
  M_move := fun _ h => h
  M_lower := fun _ h => h

variable {enc} {sz}
theorem flatMap_get [Inhabited α] (hl : ∀ x, (enc x).length = sz) (hs : 0 < sz) (xs : List α) : ∀ j, j < xs.length * sz → (xs.flatMap enc)[j]? = some (enc (xs[j / sz]?.getD default))[j % sz]! := by
  induction xs with
  | nil => intro j hj; simp at hj
  | cons x xs ih =>
    intro j hj
    rw [List.flatMap_cons]
    by_cases h : j < sz
    · rw [List.getElem?_append_left (by rw [hl]; exact h), Nat.div_eq_of_lt h, Nat.mod_eq_of_lt h]
      have hx : j < (enc x).length := by rw [hl]; exact h
      simp [hx]
    · rw [List.getElem?_append_right (by rw [hl]; omega), hl, ih _ (by rw [List.length_cons, Nat.add_mul, Nat.one_mul] at hj; omega)]
      have e1 : j / sz = (j - sz) / sz + 1 := by rw [Nat.div_eq_sub_div hs (by omega)]
      have e2 : j % sz = (j - sz) % sz := by rw [Nat.mod_eq_sub_mod (by omega)]
      rw [e1, e2, List.getElem?_cons_succ]

theorem flatMap_len (hl : ∀ x, (enc x).length = sz) (xs : List α) : (xs.flatMap enc).length = xs.length * sz := by
  induction xs with
  | nil => simp
  | cons x xs ih => rw [List.flatMap_cons, List.length_append, hl, ih, List.length_cons, Nat.add_mul, Nat.one_mul, Nat.add_comm]

theorem flatK_list [Inhabited α] (hl : ∀ x, (enc x).length = sz) (hs : 0 < sz) (xs : List α) : (flatK enc sz xs.toArray).toList = xs.flatMap enc := by
  apply List.ext_getElem?
  intro j
  by_cases hj : j < xs.length * sz
  · rw [flatMap_get hl hs xs j hj]
    have := get_flatK enc sz xs.toArray j (by simpa using hj)
    rw [Array.getElem?_toList, getElem?_pos _ _ (by simpa using hj)]
    rw [getElem!_pos _ _ (by simpa using hj)] at this
    rw [this]
    congr 2
    by_cases h : j / sz < xs.length
    · simp [h]
    · exact absurd ((Nat.div_lt_iff_lt_mul hs).2 hj) h
  · rw [List.getElem?_eq_none (by simp; omega), List.getElem?_eq_none (by rw [flatMap_len hl]; omega)]

theorem reps_flat (hl : ∀ x, (enc x).length = sz) (xs : List α) : Reps (fun x cs => cs = enc x) sz xs (xs.flatMap enc) := by
  induction xs with
  | nil => exact Reps.none _ _
  | cons x xs ih =>
    refine ⟨flatMap_len hl _, fun j p hj => ?_⟩
    cases j with
    | zero =>
      have hx : x = p := by simpa using hj
      subst hx
      rw [Nat.zero_mul, List.drop_zero, List.flatMap_cons, List.take_append_of_le_length (by rw [hl]; exact Nat.le_refl _), ← hl x, List.take_length]
    | succ j =>
      have := ih.2 j p (by simpa using hj)
      rw [List.flatMap_cons, show (j + 1) * sz = (enc x).length + j * sz by rw [hl, Nat.add_mul, Nat.one_mul, Nat.add_comm], ← List.drop_drop, List.drop_left]
      exact this

theorem reps_flat_eq (hl : ∀ x, (enc x).length = sz) (hs : 0 < sz) (xs : List α) : ∀ cs, Reps (fun x cs => cs = enc x) sz xs cs → cs = xs.flatMap enc := by
  induction xs with
  | nil => intro cs h; have := h.1; simp at this; rw [this]; rfl
  | cons x xs ih =>
    intro cs h
    have h0 := h.2 0 x rfl
    rw [Nat.zero_mul, List.drop_zero] at h0
    have hlen : cs.length = xs.length * sz + sz := by have := h.1; rw [List.length_cons, Nat.add_mul, Nat.one_mul] at this; exact this
    have hr : Reps (fun x cs => cs = enc x) sz xs (cs.drop sz) := by
      refine ⟨by rw [List.length_drop]; omega, fun j p hj => ?_⟩
      have := h.2 (j + 1) p (by simpa using hj)
      rw [List.drop_drop, show sz + j * sz = (j + 1) * sz by rw [Nat.add_mul, Nat.one_mul, Nat.add_comm]]
      exact this
    rw [List.flatMap_cons, ← ih _ hr, ← h0, List.take_append_drop]

variable (hl : ∀ x, (enc x).length = sz) (h1 : ∀ x, ∀ u ∈ enc x, u.oneCell' = true) (hs : 0 < sz) {e base : Nat} {ok : Nat → Prop} {w : World} {v : Value} {xs : List α}
include hs in
theorem flat_own (h : (flatKd enc sz hl h1).R e w base ok v xs) : w.ownsRow base e sz v xs.length (xs.flatMap enc) := by
  obtain ⟨_, inner, ho, hr⟩ := h
  have := reps_flat_eq hl hs xs inner hr
  rw [this] at ho
  exact ho
theorem own_flat (h : w.ownsRow base e sz v xs.length (xs.flatMap enc)) (hok : ∀ k, v.ownBlock = some k → ok k) : (flatKd enc sz hl h1).R e w base ok v xs := ⟨hok, _, h, reps_flat hl xs⟩

include hs in
/-- A row of the call's own as the sort takes it, and what it is behind it. -/
theorem flat_sort [Inhabited α] (h : (flatKd enc sz hl h1).R e w base ok v xs) (h0 : 0 < xs.length) :
    ∃ g cap, v = .slice (some ⟨g, 0, none⟩) xs.length cap ∧ RowK enc sz w g 0 xs.toArray ∧ ∀ (ys : List α) (W : World), ys.length = xs.length → SWK enc sz w g 0 ys.toArray W →
      (flatKd enc sz hl h1).R e W base ok v ys ∧ w.grownBy W v.ownBlock := by
  have ho := flat_own hl h1 hs h
  rcases ho.2 with ⟨_, hz⟩ | ⟨g, cap, cur, rfl, hg, hh, hn, hm, hc, ht⟩
  · omega
  have hlt : g < w.heap.size := (Array.getElem?_eq_some_iff.1 hh).1
  refine ⟨g, cap, rfl, ⟨hl, h1, ?_, hlt⟩, ?_⟩
  · intro j hj
    rw [size_flatK] at hj
    have hj' : j < xs.length * sz := by simpa using hj
    have e1 := ho.cellAt j hj'
    refine ⟨?_, ?_⟩
    · rw [Nat.zero_add, e1, ← flatK_list hl hs xs, Array.getElem?_toList, getElem?_pos _ _ (by simpa using hj'), getElem!_pos _ _ (by simpa using hj')]
      rfl
    · rw [Nat.zero_add]; exact ho.frozenAt j
  · rintro ys W hys ⟨m, os, rfl⟩
    have hW : ∀ k, k < w.heap.size → (sortWorldK enc sz w g 0 m ys.toArray os).heap[k]? = if g = k then some (.cells (putCells id 0 (flatK enc sz ys.toArray) cur) e (0, 0)) else w.heap[k]? := by
      intro k hk
      unfold sortWorldK putRowK putRow mapBlock grow Sort.ahead
      simp only
      rw [Array.getElem?_append_left (by simpa using hk), Array.getElem?_modify]
      by_cases hgk : g = k
      · subst hgk
        rw [if_pos rfl, if_pos rfl, hh]
        rfl
      · rw [if_neg hgk, if_neg hgk]
    constructor
    · refine own_flat hl h1 ⟨flatMap_len hl ys, .inr ⟨g, cap, putCells id 0 (flatK enc sz ys.toArray) cur, by rw [hys], hg, by rw [hW g hlt, if_pos rfl], by omega, hm, by simpa [putCells] using hc, ?_⟩⟩ h.1
      apply List.ext_getElem?
      intro j
      rw [← flatK_list hl hs ys, List.getElem?_take]
      by_cases hj : j < ys.length * sz
      · rw [if_pos hj]
        have hjc : j < cur.size := by rw [hc]; exact Nat.lt_of_lt_of_le hj (Nat.mul_le_mul_right _ (by omega))
        simp only [Array.getElem?_toList]
        unfold putCells
        rw [Array.getElem?_mapIdx, getElem?_pos cur j hjc, Option.map_some, if_pos ⟨Nat.zero_le _, by simp; omega⟩, getElem?_pos _ _ (by simpa using hj), getElem!_pos _ _ (by simpa using hj)]
        rfl
      · rw [if_neg hj, List.getElem?_eq_none (by simp; omega)]
    · refine ⟨rfl, rfl, rfl, size_sortWorldK_c enc sz w g 0 m ys.toArray os, ?_⟩
      intro k hk hne
      rw [hW k hk, if_neg (by intro e; subst e; exact hne rfl)]
end

/-- huffman's item: weight, symbol, left, right. -/
structure It where
  w : Int
  s : Int
  l : Int
  r : Int
  deriving Inhabited
def encI (x : It) : List Value := [.int .i64 x.w, .int .i64 x.s, .int .i64 x.l, .int .i64 x.r]
theorem encI_len (x : It) : (encI x).length = 4 := rfl
theorem encI_one (x : It) : ∀ u ∈ encI x, u.oneCell' = true := by
  intro u hu
  simp only [encI, List.mem_cons, List.not_mem_nil, or_false] at hu
  rcases hu with rfl | rfl | rfl | rfl <;> rfl
def kI : Kd It := flatKd encI 4 encI_len encI_one

/-- Ints as elements of one cell, sorted. -/
theorem ints_sort {e base : Nat} {ok : Nat → Prop} {w : World} {v : Value} {xs : List Int} (h : (Kd.int .i64).R e w base ok v xs) (h0 : 0 < xs.length) :
    ∃ g cap, v = .slice (some ⟨g, 0, none⟩) xs.length cap ∧ Row1 (Value.int .i64) w g 0 xs.toArray ∧ ∀ (ys : List Int) (W : World), ys.length = xs.length → SW (Value.int .i64) w g 0 ys.toArray W →
      (Kd.int .i64).R e W base ok v ys ∧ w.grownBy W v.ownBlock := by
  have ho : w.ownsRow base e 1 v xs.length (encs (Value.int .i64) xs) := Kd.own_of_R h
  rcases ho.2 with ⟨_, hz⟩ | ⟨g, cap, cur, rfl, hg, hh, hn, hm, hc, ht⟩
  · omega
  have hlt : g < w.heap.size := (Array.getElem?_eq_some_iff.1 hh).1
  refine ⟨g, cap, rfl, ⟨fun _ => rfl, ?_, hlt⟩, ?_⟩
  · intro j hj
    have hj' : j < xs.length := by simpa using hj
    have e1 := ho.cellAt j (by omega)
    refine ⟨?_, ?_⟩
    · rw [Nat.zero_add, e1]
      simp [encs, hj']
    · rw [Nat.zero_add]; exact ho.frozenAt j
  · rintro ys W hys ⟨m, os, rfl⟩
    have hW : ∀ k, k < w.heap.size → (sortWorld (Value.int .i64) w g 0 m ys.toArray os).heap[k]? = if g = k then some (.cells (putCells (Value.int .i64) 0 ys.toArray cur) e (0, 0)) else w.heap[k]? := by
      intro k hk
      unfold sortWorld putRow mapBlock grow Sort.ahead
      simp only
      rw [Array.getElem?_append_left (by simpa using hk), Array.getElem?_modify]
      by_cases hgk : g = k
      · subst hgk
        rw [if_pos rfl, if_pos rfl, hh]
        rfl
      · rw [if_neg hgk, if_neg hgk]
    constructor
    · refine Kd.R_of_own ⟨by simp [encs], .inr ⟨g, cap, putCells (Value.int .i64) 0 ys.toArray cur, by rw [hys], hg, by rw [hW g hlt, if_pos rfl], by omega, hm, by simpa [putCells] using hc, ?_⟩⟩ h.1
      apply List.ext_getElem?
      intro j
      rw [List.getElem?_take]
      by_cases hj : j < ys.length * 1
      · rw [if_pos hj]
        have hjc : j < cur.size := by rw [hc]; omega
        have hjy : j < ys.length := by omega
        simp only [Array.getElem?_toList]
        unfold putCells
        rw [Array.getElem?_mapIdx, getElem?_pos cur j hjc, Option.map_some, if_pos ⟨Nat.zero_le _, by simp; omega⟩]
        simp [encs, hjy]
      · rw [if_neg hj, List.getElem?_eq_none (by simp [encs]; omega)]
    · refine ⟨rfl, rfl, rfl, ?_, ?_⟩
      · unfold sortWorld; rw [size_grow]; unfold putRow mapBlock Sort.ahead; simp
      · intro k hk hne
        rw [hW k hk, if_neg (by intro e; subst e; exact hne rfl)]

end Go.Proofs.Ytdmhhgkplcaejaa
