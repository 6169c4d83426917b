/- The plain functions that the stable sort's walks come to: ranges exchanged, rotation, binary search, merging in place. -/
import Derived.Test.YtdmhhgkplcaejaaRows
import Derived.Sort.Lot0
import Derived.Sort.LotA
namespace Go.Proofs.Ytdmhhgkplcaejaa
open Go.Sort
variable {α : Type} [Inhabited α]

/-- The ranges [a, a + n) and [b, b + n) exchanged, element by element. -/
def swapRange (d : Array α) (a b : Nat) : Nat → Array α
  | 0 => d
  | n + 1 => swp (swapRange d a b n) (a + n) (b + n)

theorem size_swapRange (d : Array α) (a b n : Nat) : (swapRange d a b n).size = d.size := by
  induction n with
  | zero => rfl
  | succ n ih => rw [swapRange, size_swp]; exact ih

/-- The loop of the rotation: what is left of it at i places ahead of m and j behind. -/
def rot (d : Array α) (m i j : Nat) : Array α :=
  if i = j then swapRange d (m - i) m i
  else if j < i ∧ 0 < j then rot (swapRange d (m - i) m j) m (i - j) j
  else if i < j ∧ 0 < i then rot (swapRange d (m - i) (m + j - i) i) m i (j - i)
  else d
termination_by i + j
decreasing_by all_goals omega

theorem size_rot (d : Array α) (m i j : Nat) : (rot d m i j).size = d.size := by
  fun_induction rot d m i j with
  | case1 => exact size_swapRange _ _ _ _
  | case2 d i j h1 h2 ih => rw [ih, size_swapRange]
  | case3 d i j h1 h2 h3 ih => rw [ih, size_swapRange]
  | case4 => rfl

/-- Binary search: the first place of [i, j) at which q fails. -/
def bsr (q : Nat → Bool) (i j : Nat) : Nat :=
  if i < j then (if q ((i + j) / 2) = true then bsr q ((i + j) / 2 + 1) j else bsr q i ((i + j) / 2)) else i
termination_by j - i
decreasing_by all_goals omega

/-- The element at a carried t places up. -/
def upBy (d : Array α) (a : Nat) : Nat → Array α
  | 0 => d
  | t + 1 => swp (upBy d a t) (a + t) (a + t + 1)

/-- The element at m carried t places down. -/
def downBy (d : Array α) (m : Nat) : Nat → Array α
  | 0 => d
  | t + 1 => swp (downBy d m t) (m - t) (m - t - 1)

theorem size_upBy (d : Array α) (a t : Nat) : (upBy d a t).size = d.size := by
  induction t with
  | zero => rfl
  | succ t ih => rw [upBy, size_swp]; exact ih

theorem size_downBy (d : Array α) (m t : Nat) : (downBy d m t).size = d.size := by
  induction t with
  | zero => rfl
  | succ t ih => rw [downBy, size_swp]; exact ih

def symStart (lt : α → α → Bool) (d : Array α) (a m b : Nat) : Nat :=
  bsr (fun c => !lt d[(a + b) / 2 + m - 1 - c]! d[c]!) (if (a + b) / 2 < m then (a + b) / 2 + m - b else a) (if (a + b) / 2 < m then (a + b) / 2 else m)

/-- The rotation, if it is wanted. -/
def symRot (d : Array α) (s m e : Nat) : Array α := if s < m ∧ m < e then rot d m (m - s) (e - m) else d

theorem size_symRot (d : Array α) (s m e : Nat) : (symRot d s m e).size = d.size := by
  unfold symRot
  split
  · exact size_rot _ _ _ _
  · rfl

/-- The merging in place of [a, m) and [m, b). -/
def symM (lt : α → α → Bool) (d : Array α) (a m b : Nat) : Array α :=
  if m - a = 1 then upBy d a (bsr (fun h => lt d[h]! d[a]!) m b - 1 - a)
  else if b - m = 1 then downBy d m (m - bsr (fun h => !lt d[m]! d[h]!) a m)
  else
    let mid := (a + b) / 2
    let start := symStart lt d a m b
    let fin := mid + m - start
    let d1 := symRot d start m fin
    let d2 := if h : a < start ∧ start < mid then symM lt d1 a start mid else d1
    if h : mid < fin ∧ fin < b then symM lt d2 mid fin b else d2
termination_by b - a
decreasing_by all_goals omega

theorem size_symM (lt : α → α → Bool) : ∀ (n : Nat) (d : Array α) (a m b : Nat), b - a ≤ n → (symM lt d a m b).size = d.size := by
  intro n
  induction n with
  | zero =>
    intro d a m b h
    rw [symM]
    split
    · exact size_upBy _ _ _
    split
    · exact size_downBy _ _ _
    · have e1 : ¬ (a < symStart lt d a m b ∧ symStart lt d a m b < (a + b) / 2) := by omega
      have e2 : ¬ ((a + b) / 2 < (a + b) / 2 + m - symStart lt d a m b ∧ (a + b) / 2 + m - symStart lt d a m b < b) := by omega
      simp only [dif_neg e1, dif_neg e2]
      exact size_symRot _ _ _ _
  | succ n ih =>
    intro d a m b h
    rw [symM]
    split
    · exact size_upBy _ _ _
    split
    · exact size_downBy _ _ _
    · dsimp only
      have s1 := size_symRot d (symStart lt d a m b) m ((a + b) / 2 + m - symStart lt d a m b)
      generalize symRot d (symStart lt d a m b) m ((a + b) / 2 + m - symStart lt d a m b) = d1 at s1 ⊢
      have s2 : (if h : a < symStart lt d a m b ∧ symStart lt d a m b < (a + b) / 2 then symM lt d1 a (symStart lt d a m b) ((a + b) / 2) else d1).size = d.size := by
        split
        · rw [ih _ _ _ _ (by omega)]; exact s1
        · exact s1
      generalize (if h : a < symStart lt d a m b ∧ symStart lt d a m b < (a + b) / 2 then symM lt d1 a (symStart lt d a m b) ((a + b) / 2) else d1) = d2 at s2 ⊢
      split
      · rw [ih _ _ _ _ (by omega)]; exact s2
      · exact s2

/-- The first blocks, each sorted by insertion. -/
def insB (lt : α → α → Bool) (n : Nat) : Nat → Nat → Array α → Array α
  | 0, a, d => insertionSort lt d a n
  | k + 1, a, d => insB lt n k (a + 20) (insertionSort lt d a (a + 20))

/-- One round: pairs of blocks of s merged, k pairs from a on, and what is left. -/
def pairs (lt : α → α → Bool) (n s : Nat) : Nat → Nat → Array α → Array α
  | 0, a, d => if a + s < n then symM lt d a (a + s) n else d
  | k + 1, a, d => pairs lt n s k (a + 2 * s) (symM lt d a (a + s) (a + 2 * s))

/-- The rounds, with blocks of s and of twice as many each time. -/
def rounds (lt : α → α → Bool) (n : Nat) : Nat → Nat → Array α → Array α
  | 0, _, d => d
  | f + 1, s, d => if s < n then rounds lt n f (s * 2) (pairs lt n s (n / (2 * s)) 0 d) else d

/-- What slices.SortStableFunc leaves. -/
def stab (lt : α → α → Bool) (d : Array α) : Array α := rounds lt d.size d.size 20 (insB lt d.size (d.size / 20) 0 d)

theorem rounds_done (lt : α → α → Bool) (n f s : Nat) (d : Array α) (h : ¬ s < n) : rounds lt n f s d = d := by
  cases f with
  | zero => rfl
  | succ f => rw [rounds, if_neg h]

theorem size_ins {lt : α → α → Bool} (hO : SWO lt) (d : Array α) (a b : Nat) (h1 : a ≤ b) (h2 : b ≤ d.size) : (insertionSort lt d a b).size = d.size := (insertionSort_holds hO d a b h1 h2).1.1

theorem size_pairs (lt : α → α → Bool) (n s k : Nat) : ∀ (a : Nat) (d : Array α), (pairs lt n s k a d).size = d.size := by
  induction k with
  | zero =>
    intro a d
    rw [pairs]
    split
    · exact size_symM _ _ _ _ _ _ (Nat.le_refl _)
    · rfl
  | succ k ih => intro a d; rw [pairs, ih]; exact size_symM _ _ _ _ _ _ (Nat.le_refl _)

end Go.Proofs.Ytdmhhgkplcaejaa
