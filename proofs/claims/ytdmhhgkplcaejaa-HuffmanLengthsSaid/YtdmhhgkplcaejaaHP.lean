/- huffman.Lengths in plain lists: the lists of leaves and packages, the taking of their items. -/
import Derived.Test.YtdmhhgkplcaejaaH3
import Derived.Test.YtdmhhgkplcaejaaH4
namespace Go.Proofs.Ytdmhhgkplcaejaa
open Go.Sort Go.Proofs.YtdmhhgkplcaejaaW.PrintWords

/-- The lists: of level 0 the leaves; of each next one the leaves and the packages of the one before. -/
def lvl (ls : List It) : Nat → List It
  | 0 => ls
  | j + 1 => nextOf ls (lvl ls j)

theorem nextOf_perm (ls bs : List It) : (nextOf ls bs).Perm (ls ++ packs bs (bs.length / 2)) := isort_perm _ _
theorem nextOf_length (ls bs : List It) : (nextOf ls bs).length = ls.length + bs.length / 2 := by rw [(nextOf_perm ls bs).length_eq, List.length_append, packs_length]
theorem lvl_succ_length (ls : List It) (j : Nat) : (lvl ls (j + 1)).length = ls.length + (lvl ls j).length / 2 := nextOf_length _ _
theorem lvl_length_le (ls : List It) (j : Nat) : ls.length ≤ (lvl ls j).length ∧ (lvl ls j).length ≤ 2 * ls.length := by
  induction j with
  | zero => simp [lvl]; omega
  | succ j ih => rw [lvl_succ_length]; omega
theorem lvl_top (ls : List It) (limit : Nat) (hk : ls.length ≤ 2 ^ limit) (j : Nat) (hj : j ≤ limit) : 2 * ls.length ≤ (lvl ls j).length + 2 ^ (limit - j) := by
  induction j with
  | zero => simp [lvl]; omega
  | succ j ih =>
    have h1 := ih (by omega)
    have h2 : 2 ^ (limit - j) = 2 * 2 ^ (limit - (j + 1)) := by rw [show limit - j = (limit - (j + 1)) + 1 by omega, Nat.pow_succ]; omega
    rw [lvl_succ_length]
    omega

/-- What every item of a list keeps to: symbols of n, weights. -/
def ItOk (n : Nat) (M : Int) (x : It) : Prop := (x.s = -1 ∨ (0 ≤ x.s ∧ x.s < n)) ∧ 0 < x.w ∧ x.w ≤ M

theorem packs_ok {n : Nat} {M : Int} {bs : List It} (h : ∀ x ∈ bs, ItOk n M x) {j : Nat} (hj : 2 * j ≤ bs.length) : ∀ x ∈ packs bs j, ItOk n (2 * M) x := by
  intro x hx
  unfold packs at hx
  obtain ⟨t, ht, rfl⟩ := List.mem_map.1 hx
  rw [List.mem_range] at ht
  have g : ∀ i, i < bs.length → 0 < (bs.getD i default).w ∧ (bs.getD i default).w ≤ M := fun i hi => by
    rw [List.getD_eq_getElem?_getD, List.getElem?_eq_getElem hi]
    exact (h _ (List.getElem_mem hi)).2
  have a := g (2 * t) (by omega)
  have b := g (2 * t + 1) (by omega)
  exact ⟨.inl rfl, by show 0 < _ + _; omega, by show _ + _ ≤ 2 * M; omega⟩

theorem lvl_ok {n : Nat} {M : Int} {ls : List It} (hM : 0 ≤ M) (h : ∀ x ∈ ls, ItOk n M x) (j : Nat) : ∀ x ∈ lvl ls j, ItOk n (M * 2 ^ j) x := by
  induction j with
  | zero => simpa [lvl] using h
  | succ j ih =>
    intro x hx
    have hle : M ≤ M * 2 ^ (j + 1) := by
      have h1 : (1 : Int) ≤ 2 ^ (j + 1) := by have := Nat.one_le_two_pow (n := j + 1); exact_mod_cast this
      have := Int.mul_le_mul_of_nonneg_left h1 hM
      omega
    rcases List.mem_append.1 ((nextOf_perm ls (lvl ls j)).mem_iff.1 hx) with hx | hx
    · obtain ⟨a, b, c⟩ := h x hx
      exact ⟨a, b, by omega⟩
    · have := packs_ok ih (by omega) x hx
      rw [Int.pow_succ, ← Int.mul_assoc, Int.mul_comm (M * 2 ^ j) 2]
      exact this

/-- How many packages. -/
def npk (l : List It) : Nat := l.countP fun x => decide (x.s < 0)
theorem npk_take_le (l : List It) (t : Nat) : npk (l.take t) ≤ npk l := List.Sublist.countP_le (List.take_sublist t l)
theorem npk_packs (bs : List It) (j : Nat) : npk (packs bs j) = j := by
  induction j with
  | zero => rfl
  | succ j ih => rw [packs_succ]; unfold npk at *; rw [List.countP_append, ih]; rfl
theorem npk_leaves {n : Nat} {M : Int} {ls : List It} (h : ∀ x ∈ ls, ItOk n M x) (h2 : ∀ x ∈ ls, 0 ≤ x.s) : npk ls = 0 := by
  unfold npk
  rw [List.countP_eq_zero]
  intro x hx
  have := h2 x hx
  simp; omega
theorem npk_lvl {ls : List It} (h2 : ∀ x ∈ ls, 0 ≤ x.s) (j : Nat) : npk (lvl ls (j + 1)) = (lvl ls j).length / 2 := by
  have : npk ls = 0 := by
    unfold npk
    rw [List.countP_eq_zero]
    intro x hx
    have := h2 x hx
    simp; omega
  show npk (nextOf ls (lvl ls j)) = _
  unfold npk at *
  rw [(nextOf_perm ls (lvl ls j)).countP_eq, List.countP_append, this, Nat.zero_add]
  exact npk_packs _ _

/-- An item taken. -/
def stepI (st : List Int × Nat) (x : It) : List Int × Nat := if 0 ≤ x.s then (st.1.set x.s.toNat (rd st.1 x.s + 1), st.2) else (st.1, st.2 + 1)
def pass (l : List It) (st : List Int × Nat) : List Int × Nat := l.foldl stepI st
theorem pass_snoc (l : List It) (x : It) (st : List Int × Nat) : pass (l ++ [x]) st = stepI (pass l st) x := by unfold pass; rw [List.foldl_append]; rfl
theorem stepI_len (st : List Int × Nat) (x : It) : (stepI st x).1.length = st.1.length := by unfold stepI; split <;> simp
theorem pass_len (l : List It) : ∀ st, (pass l st).1.length = st.1.length := by
  induction l with
  | nil => intro st; rfl
  | cons x l ih => intro st; unfold pass at *; rw [List.foldl_cons, ih, stepI_len]
theorem pass_npk (l : List It) : ∀ st, (pass l st).2 = st.2 + npk l := by
  induction l with
  | nil => intro st; rfl
  | cons x l ih =>
    intro st
    unfold pass npk at *
    rw [List.foldl_cons, ih, List.countP_cons]
    unfold stepI
    by_cases h : 0 ≤ x.s
    · rw [if_pos h, if_neg (by simp; omega)]; simp
    · rw [if_neg h, if_pos (by simp; omega)]; omega

def AccB (B : Int) (acc : List Int) : Prop := ∀ y ∈ acc, 0 ≤ y ∧ y ≤ B
theorem AccB.mono {B C : Int} {acc : List Int} (h : AccB B acc) (hl : B ≤ C) : AccB C acc := fun y hy => ⟨(h y hy).1, by have := (h y hy).2; omega⟩
theorem AccB.rd {B : Int} {acc : List Int} (h : AccB B acc) {i : Int} (h0 : 0 ≤ i) (h1 : i < acc.length) : 0 ≤ rd acc i ∧ rd acc i ≤ B := by
  unfold YtdmhhgkplcaejaaW.PrintWords.rd
  rw [List.getD_eq_getElem?_getD, List.getElem?_eq_getElem (show i.toNat < acc.length by omega)]
  exact h _ (List.getElem_mem _)
theorem AccB.set {B : Int} {acc : List Int} (h : AccB B acc) {i : Nat} {v : Int} (hv : 0 ≤ v ∧ v ≤ B) : AccB B (acc.set i v) := by
  intro y hy
  rcases List.mem_or_eq_of_mem_set hy with hy | hy
  · exact h y hy
  · subst hy; exact hv
theorem AccB.step {B : Int} {st : List Int × Nat} {x : It} (h : AccB B st.1) (hB : 0 ≤ B) (hx : x.s < st.1.length) : AccB (B + 1) (stepI st x).1 := by
  unfold stepI
  split
  · rename_i h0
    have := h.rd h0 hx
    exact (h.mono (by omega)).set (by omega)
  · exact h.mono (by omega)

/-- The lists gone through from the last one down: of each the first items are taken. -/
def down (L : Nat → List It) : Nat → Nat → List Int → List Int
  | 0, _, acc => acc
  | k + 1, t, acc => down L k (2 * (pass ((L k).take t) (acc, 0)).2) (pass ((L k).take t) (acc, 0)).1

/-- huffman.Lengths, where its arguments are in order. -/
def lengthsOf (cs : List Int) (limit : Nat) : List Int :=
  if (leavesOf cs).length < 2 then (leavesOf cs).foldl (fun acc x => acc.set x.s.toNat 1) (List.replicate cs.length 0)
  else down (lvl (leavesOf cs)) limit (2 * (leavesOf cs).length - 2) (List.replicate cs.length 0)

theorem leavesOf_perm (cs : List Int) : (leavesOf cs).Perm (present 0 cs) := isort_perm _ _
theorem leavesOf_mem {cs : List Int} (hb : ∀ c ∈ cs, c ≤ 4096) : ∀ x ∈ leavesOf cs, ItOk cs.length 4096 x ∧ 0 ≤ x.s := by
  intro x hx
  obtain ⟨a, b, c, d⟩ := present_mem cs 0 x ((leavesOf_perm cs).mem_iff.1 hx)
  exact ⟨⟨.inr ⟨by omega, by omega⟩, b, hb _ a⟩, by omega⟩
theorem present_npos (cs : List Int) : ∀ i, (present i cs).length = npos cs := by
  induction cs with
  | nil => intro i; rfl
  | cons c cs ih =>
    intro i
    rw [present]
    unfold npos at *
    rw [List.filter_cons]
    by_cases h : 0 < c
    · rw [if_pos h, if_pos (by simpa using h), List.length_cons, List.length_cons, ih]
    · rw [if_neg h, if_neg (by simpa using h), ih]
theorem leavesOf_length (cs : List Int) : (leavesOf cs).length = npos cs := by rw [(leavesOf_perm cs).length_eq, present_npos]

/-- What checkOf's OK says. -/
theorem check_ok {cs : List Int} {limit : Int} (h : checkOf cs limit = 0) : 1 ≤ limit ∧ limit ≤ 15 ∧ cs.length ≤ 1024 ∧ (∀ c ∈ cs, 0 ≤ c ∧ c ≤ 4096) ∧ npos cs ≤ 2 ^ limit.toNat := by
  unfold checkOf at h
  split at h
  · omega
  split at h
  · omega
  split at h
  · omega
  split at h
  · omega
  rename_i h1 h2 h3 h4
  refine ⟨by omega, by omega, by omega, ?_, by omega⟩
  intro c hc
  have : badC c = false := by
    cases e : badC c with
    | false => rfl
    | true => exact absurd (List.any_eq_true.2 ⟨c, hc, e⟩) h3
  unfold badC at this
  simp at this
  omega

end Go.Proofs.Ytdmhhgkplcaejaa
