/- Canonical codes as numbers: the plain law. -/
import Derived.Test.YtdmhhgkplcaejaaE2
namespace Go.Proofs.Ytdmhhgkplcaejaa
open Go.Shelf Go.RowKit Go.Lib Go.Sort Go.Proofs.YtdmhhgkplcaejaaW.PrintWords

section
variable {α : Type}
theorem ins1_sorted {lt : α → α → Bool} (hO : SWO lt) {x : α} {l : List α} (h : l.Pairwise (fun a b => lt b a = false)) : (ins1 lt x l).Pairwise (fun a b => lt b a = false) := by
  unfold ins1
  have hsplit := (List.takeWhile_append_dropWhile (p := fun y => !lt x y) (l := l))
  rw [← hsplit] at h
  have h' := List.pairwise_append.1 h
  have hxy : ∀ y ∈ l.dropWhile (fun y => !lt x y), lt y x = false := by
    cases hd : l.dropWhile (fun y => !lt x y) with
    | nil => intro y hy; simp at hy
    | cons f r =>
      have hf : lt x f = true := by simpa using dropWhile_head hd
      have hfx : lt f x = false := by
        cases e : lt f x with
        | false => rfl
        | true => have := hO.trans _ _ _ hf e; rw [hO.irrefl] at this; exact absurd this (by simp)
      have h2 := h'.2.1
      rw [hd] at h2
      intro y hy
      rcases List.mem_cons.1 hy with rfl | hy
      · exact hfx
      · exact hO.ntrans _ _ _ ((List.pairwise_cons.1 h2).1 y hy) hfx
  refine List.pairwise_append.2 ⟨h'.1, List.pairwise_cons.2 ⟨hxy, h'.2.1⟩, ?_⟩
  intro z hz y hy
  have hzx : lt x z = false := by simpa using of_mem_takeWhile hz
  rcases List.mem_cons.1 hy with rfl | hy
  · exact hzx
  · exact h'.2.2 z hz y hy

theorem isort_sorted {lt : α → α → Bool} (hO : SWO lt) (l : List α) : (isort lt l).Pairwise (fun a b => lt b a = false) := by
  have : ∀ acc : List α, acc.Pairwise (fun a b => lt b a = false) → (l.foldl (fun acc x => ins1 lt x acc) acc).Pairwise (fun a b => lt b a = false) := by
    induction l with
    | nil => intro acc h; exact h
    | cons x l ih => intro acc h; exact ih _ (ins1_sorted hO h)
  exact this [] List.Pairwise.nil
end

theorem swoL (ls : List Int) : SWO (ltL ls) where
  irrefl x := by unfold ltL; simp
  trans x y z h1 h2 := by unfold ltL at *; simp at *; omega
  ntrans x y z h1 h2 := by unfold ltL at *; simp at *; omega

theorem rd_nat (l : List Int) (k : Nat) (h : k < l.length) : rd l k = l[k] := by unfold rd; simp [h]

theorem orderOf_mem {ls : List Int} {s : Int} (h : s ∈ orderOf ls) : 0 ≤ s ∧ s < ls.length := by
  have := syms_mem ls 0 s ((isort_perm _ _).mem_iff.1 h)
  omega
theorem orderOf_length (ls : List Int) : (orderOf ls).length ≤ ls.length := by
  unfold orderOf; rw [isort_length]; exact syms_length ls 0

theorem syms_pos (cs : List Int) : ∀ (i : Nat) (f : Int → Int), (∀ j (h : j < cs.length), f ((i + j : Nat) : Int) = cs[j]) → ∀ s ∈ syms i cs, 0 < f s := by
  induction cs with
  | nil => intro i f _ s h; simp [syms] at h
  | cons d cs ih =>
    intro i f hf s h
    have hd : f i = d := hf 0 (by simp)
    have ht : ∀ j (h : j < cs.length), f ((i + 1 + j : Nat) : Int) = cs[j] := fun j h => by
      have := hf (j + 1) (by simp; omega)
      rw [show i + 1 + j = i + (j + 1) by omega, this, List.getElem_cons_succ]
    rw [syms] at h
    split at h
    · rename_i hp
      rcases List.mem_cons.1 h with rfl | h
      · rw [hd]; exact hp
      · exact ih (i + 1) f ht s h
    · exact ih (i + 1) f ht s h
theorem syms_kraft (cs : List Int) : ∀ (i : Nat) (f : Int → Int), (∀ j (h : j < cs.length), f ((i + j : Nat) : Int) = cs[j]) → ((syms i cs).map (fun s => part (f s))).sum = kraft cs := by
  induction cs with
  | nil => intro i f _; rfl
  | cons d cs ih =>
    intro i f hf
    have hd : f i = d := hf 0 (by simp)
    have ht : ∀ j (h : j < cs.length), f ((i + 1 + j : Nat) : Int) = cs[j] := fun j h => by
      have := hf (j + 1) (by simp; omega)
      rw [show i + 1 + j = i + (j + 1) by omega, this, List.getElem_cons_succ]
    have hk : kraft (d :: cs) = part d + kraft cs := by unfold kraft; simp
    rw [syms, hk, ← ih (i + 1) f ht]
    split
    · rw [List.map_cons, List.sum_cons, hd]
    · rename_i hp
      unfold part
      rw [if_neg hp, Nat.zero_add]

theorem orderOf_pos {ls : List Int} {s : Int} (h : s ∈ orderOf ls) : 0 < rd ls s :=
  syms_pos ls 0 (rd ls) (fun j h => by rw [Nat.zero_add]; exact rd_nat ls j h) s ((isort_perm _ _).mem_iff.1 h)

/-- The parts of the first k symbols in order. -/
def ksum (ls l : List Int) (k : Nat) : Nat := ((l.take k).map (fun s => part (rd ls s))).sum
theorem ksum_le (ls : List Int) (k : Nat) : ksum ls (orderOf ls) k ≤ kraft ls := by
  have h1 : ((orderOf ls).map (fun s => part (rd ls s))).sum = kraft ls := by
    rw [← syms_kraft ls 0 (rd ls) (fun j h => by rw [Nat.zero_add]; exact rd_nat ls j h)]
    exact ((isort_perm _ _).map _).sum_nat
  rw [← h1]
  unfold ksum
  conv => rhs; rw [← List.take_append_drop k (orderOf ls)]
  rw [List.map_append, List.sum_append]
  omega
theorem ksum_succ (ls l : List Int) (k : Nat) (h : k < l.length) : ksum ls l (k + 1) = ksum ls l k + part (rd ls (rd l k)) := by
  unfold ksum
  rw [take_snoc_rd l k h, List.map_append, List.sum_append]
  simp

/-- The length at place k of the order. -/
def ln (ls l : List Int) (k : Nat) : Nat := (rd ls (rd l k)).toNat
/-- The code at place k of the order. -/
def cd (ls l : List Int) : Nat → Nat
  | 0 => 0
  | k + 1 => (cd ls l k + 1) * 2 ^ (ln ls l (k + 1) - ln ls l k)

structure InOrd (ls l : List Int) : Prop where
  mem : ∀ k, k < l.length → 0 ≤ rd l k ∧ rd l k < ls.length
  pos : ∀ k, k < l.length → 0 < rd ls (rd l k) ∧ rd ls (rd l k) ≤ 15
  mono : ∀ k, k + 1 < l.length → rd ls (rd l k) ≤ rd ls (rd l (k + 1 : Nat))
  tot : ∀ k, ksum ls l k ≤ 32768

theorem inOrd {ls : List Int} (h : validOf ls = true) : InOrd ls (orderOf ls) where
  mem k hk := by
    rw [rd_nat _ _ hk]
    exact orderOf_mem (List.getElem_mem _)
  pos k hk := by
    have hm := orderOf_mem (List.getElem_mem (l := orderOf ls) hk)
    have hp := orderOf_pos (List.getElem_mem (l := orderOf ls) hk)
    rw [rd_nat _ _ hk]
    refine ⟨hp, ?_⟩
    obtain ⟨s, hs⟩ : ∃ s : Nat, (orderOf ls)[k] = (s : Int) := ⟨_, (Int.toNat_of_nonneg hm.1).symm⟩
    rw [hs] at hm hp ⊢
    have hlt : s < ls.length := by omega
    rw [rd_nat _ _ hlt]
    exact ((valid_ok h).2.1 _ (List.getElem_mem hlt)).2
  mono k hk := by
    have := List.pairwise_iff_getElem.1 (isort_sorted (swoL ls) (syms 0 ls)) k (k + 1) (by exact Nat.lt_of_succ_lt hk) hk (by omega)
    rw [rd_nat _ _ (Nat.lt_of_succ_lt hk), rd_nat _ _ hk]
    unfold ltL at this
    simp at this
    exact this
  tot k := Nat.le_trans (ksum_le ls k) (valid_ok h).2.2

variable {ls l : List Int}
theorem InOrd.ln_pos (h : InOrd ls l) {k : Nat} (hk : k < l.length) : 0 < ln ls l k ∧ ln ls l k ≤ 15 := by
  have := h.pos k hk
  unfold ln
  omega
theorem InOrd.ln_mono (h : InOrd ls l) {k : Nat} (hk : k + 1 < l.length) : ln ls l k ≤ ln ls l (k + 1) := by
  have := h.mono k hk
  unfold ln
  exact Int.toNat_le_toNat this
theorem InOrd.part_ln (h : InOrd ls l) {k : Nat} (hk : k < l.length) : part (rd ls (rd l k)) = 2 ^ (15 - ln ls l k) := by
  unfold part ln
  rw [if_pos (h.pos k hk).1]

theorem InOrd.cd_sum (h : InOrd ls l) : ∀ k, k < l.length → (cd ls l k + 1) * 2 ^ (15 - ln ls l k) = ksum ls l (k + 1)
  | 0, hk => by
    rw [ksum_succ _ _ _ hk, h.part_ln hk]
    show (0 + 1) * _ = 0 + _
    omega
  | k + 1, hk => by
    have ih := h.cd_sum k (by omega)
    rw [ksum_succ _ _ _ hk, h.part_ln hk, ← ih, cd, Nat.add_mul, Nat.one_mul, Nat.mul_assoc, ← Nat.pow_add]
    have h1 := h.ln_mono hk
    have h2 := h.ln_pos hk
    congr 3
    omega

theorem InOrd.cd_lt (h : InOrd ls l) {k : Nat} (hk : k < l.length) : cd ls l k + 1 ≤ 2 ^ ln ls l k := by
  have h1 := h.cd_sum k hk
  have h2 := h.tot (k + 1)
  have h3 := h.ln_pos hk
  have h4 : 2 ^ ln ls l k * 2 ^ (15 - ln ls l k) = 32768 := by
    rw [← Nat.pow_add, show ln ls l k + (15 - ln ls l k) = 15 by omega]
  rw [← h1, ← h4] at h2
  exact Nat.le_of_mul_le_mul_right h2 (Nat.two_pow_pos _)

theorem InOrd.cd_small (h : InOrd ls l) {k : Nat} (hk : k < l.length) : cd ls l k + 1 ≤ 32768 := by
  have h1 := h.cd_lt hk
  have h2 : 2 ^ ln ls l k ≤ 2 ^ 15 := Nat.pow_le_pow_right (by decide) (h.ln_pos hk).2
  exact Nat.le_trans h1 h2

/-- The codes of the first k symbols in order. -/
def fillC (ls l : List Int) : Nat → List Int
  | 0 => List.replicate ls.length 0
  | k + 1 => (fillC ls l k).set (rd l k).toNat (cd ls l k)
/-- huffman.codesOf. -/
def codesOf (ls : List Int) : List Int := fillC ls (orderOf ls) (orderOf ls).length
theorem fillC_length (ls l : List Int) (k : Nat) : (fillC ls l k).length = ls.length := by
  induction k with
  | zero => simp [fillC]
  | succ k ih => rw [fillC, List.length_set, ih]
end Go.Proofs.Ytdmhhgkplcaejaa
