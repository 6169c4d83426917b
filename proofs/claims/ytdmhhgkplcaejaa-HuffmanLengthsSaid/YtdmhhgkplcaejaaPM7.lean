/- Sums over symbols, as the laws go through them; what the lengths' sums are. -/
import Derived.Test.YtdmhhgkplcaejaaPM6
namespace Go.Proofs.Ytdmhhgkplcaejaa
open Go.Sort Go.Proofs.YtdmhhgkplcaejaaW.PrintWords

/-- The sum of g's first values. -/
def psum (g : Nat → Int) : Nat → Int
  | 0 => 0
  | i + 1 => psum g i + g i
theorem psum_le (g : Nat → Int) (B : Int) : ∀ i : Nat, (∀ j, j < i → 0 ≤ g j ∧ g j ≤ B) → 0 ≤ psum g i ∧ psum g i ≤ B * (i : Int)
  | 0, _ => by simp [psum]
  | i + 1, h => by
    have h1 := psum_le g B i (fun j hj => h j (by omega))
    have h2 := h i (by omega)
    rw [psum, show ((i + 1 : Nat) : Int) = (i : Int) + 1 by omega, Int.mul_add, Int.mul_one]
    omega
theorem psum_congr (f g : Nat → Int) : ∀ i : Nat, (∀ j, j < i → f j = g j) → psum f i = psum g i
  | 0, _ => rfl
  | i + 1, h => by rw [psum, psum, psum_congr f g i (fun j hj => h j (by omega)), h i (by omega)]
theorem psum_front (g : Nat → Int) : ∀ i : Nat, psum g (i + 1) = g 0 + psum (fun j => g (j + 1)) i
  | 0 => by simp [psum]
  | i + 1 => by rw [psum, psum_front g i, psum]; omega
theorem present_psum (G : It → Int) (cs : List Int) : ∀ i : Nat, ((present i cs).map G).sum = psum (fun j => if 0 < rd cs j then G ⟨rd cs j, ((i + j : Nat) : Int), 0, 0⟩ else 0) cs.length := by
  induction cs with
  | nil => intro i; rfl
  | cons c cs ih =>
    intro i
    have e0 : rd (c :: cs) ((0 : Nat) : Int) = c := rfl
    have e1 : ∀ j : Nat, rd (c :: cs) ((j + 1 : Nat) : Int) = rd cs j := fun j => by simp [rd]
    rw [List.length_cons, psum_front, present, e0]
    have h2 : psum (fun j => if 0 < rd (c :: cs) ((j + 1 : Nat) : Int) then G ⟨rd (c :: cs) ((j + 1 : Nat) : Int), ((i + (j + 1) : Nat) : Int), 0, 0⟩ else 0) cs.length = psum (fun j => if 0 < rd cs j then G ⟨rd cs j, ((i + 1 + j : Nat) : Int), 0, 0⟩ else 0) cs.length := by
      apply psum_congr
      intro j _
      rw [e1, show i + (j + 1) = i + 1 + j by omega]
    rw [h2, ← ih (i + 1)]
    by_cases hc : 0 < c
    · rw [if_pos hc, if_pos hc, List.map_cons, List.sum_cons]; rfl
    · rw [if_neg hc, if_neg hc, Int.zero_add]
theorem perm_sum {a b : List It} (G : It → Int) (h : a.Perm b) : (a.map G).sum = (b.map G).sum := by
  induction h with
  | nil => rfl
  | cons x _ ih => rw [List.map_cons, List.map_cons, List.sum_cons, List.sum_cons, ih]
  | swap x y l => simp only [List.map_cons, List.sum_cons]; omega
  | trans _ _ h1 h2 => exact h1.trans h2
theorem leaves_psum (G : It → Int) (cs : List Int) : ((leavesOf cs).map G).sum = psum (fun j => if 0 < rd cs j then G ⟨rd cs j, (j : Nat), 0, 0⟩ else 0) cs.length := by
  rw [perm_sum G (leavesOf_perm cs), present_psum]
  apply psum_congr
  intro j _
  rw [Nat.zero_add]
theorem nat_sum {α : Type} (l : List α) (f : α → Nat) : (((l.map f).sum : Nat) : Int) = (l.map (fun x => (f x : Int))).sum := by
  induction l with
  | nil => rfl
  | cons x l ih => simp only [List.map_cons, List.sum_cons]; omega

/-- Kraft's sum of lengths of the present symbols. -/
def kr (cs rs : List Int) (m : Int) (j : Nat) : Int := if 0 < rd cs j then 2 ^ (m - rd rs j).toNat else 0
def one (cs : List Int) (j : Nat) : Int := if 0 < rd cs j then 1 else 0
def cw (cs rs : List Int) (j : Nat) : Int := rd cs j * rd rs j

theorem leaves_kr (cs rs : List Int) (m : Int) (hm : 0 ≤ m) (h : ∀ x ∈ leavesOf cs, 0 ≤ rd rs x.s ∧ rd rs x.s ≤ m) : (((leavesOf cs).map (fun x => 2 ^ (m.toNat - (rd rs x.s).toNat))).sum : Nat) = psum (kr cs rs m) cs.length := by
  rw [nat_sum, ← sum_congrI (leavesOf cs) (fun x => 2 ^ (m - rd rs x.s).toNat) _ (fun x hx => by
    have := h x hx
    rw [show (m - rd rs x.s).toNat = m.toNat - (rd rs x.s).toNat by omega]
    simp), leaves_psum]
  rfl
theorem leaves_one (cs : List Int) : ((leavesOf cs).length : Int) = psum (one cs) cs.length := by
  have h := leaves_psum (fun _ => 1) cs
  have e : ∀ l : List It, (l.map (fun _ => (1 : Int))).sum = l.length := fun l => by
    induction l with
    | nil => rfl
    | cons x l ih => simp only [List.map_cons, List.sum_cons, List.length_cons, ih]; omega
  rw [e] at h
  exact h
theorem dot_psum (cs : List Int) : ∀ rs : List Int, rs.length = cs.length → dot cs rs = psum (cw cs rs) cs.length := by
  induction cs with
  | nil => intro rs h; cases rs <;> rfl
  | cons c cs ih =>
    intro rs h
    cases rs with
    | nil => simp at h
    | cons r rs =>
      rw [dot, ih rs (by simpa using h), List.length_cons, psum_front]
      rfl
theorem leaves_cw (cs rs : List Int) : ((leavesOf cs).map (fun x => x.w * rd rs x.s)).sum = psum (fun j => if 0 < rd cs j then rd cs j * rd rs j else 0) cs.length := leaves_psum _ cs
theorem leaf_idx {cs : List Int} {x : It} (h : x ∈ leavesOf cs) : ∃ j : Nat, j < cs.length ∧ x.s = j ∧ 0 < rd cs j := by
  have h1 := leaves_w cs x h
  have h2 := (leaves_lvs cs).leaf x h
  have h3 := (leaves_lvs cs).pos x h
  exact ⟨x.s.toNat, by omega, by omega, by rw [show ((x.s.toNat : Nat) : Int) = x.s by omega, ← h1.2]; exact h3⟩

/-- Lengths that suit the statement. -/
structure Fine (cs : List Int) (m : Int) (rs : List Int) : Prop where
  lim : 1 ≤ m ∧ m ≤ 15
  cnt : ∀ j : Nat, j < cs.length → 0 ≤ rd cs j ∧ rd cs j ≤ 4096
  len : rs.length = cs.length
  pos : ∀ j : Nat, j < cs.length → 0 < rd cs j → 1 ≤ rd rs j ∧ rd rs j ≤ m
  zero : ∀ j : Nat, j < cs.length → rd cs j = 0 → rd rs j = 0
  mono : ∀ i j : Nat, i < cs.length → j < cs.length → 0 < rd cs j → rd cs j < rd cs i → rd rs i ≤ rd rs j
  full : psum (one cs) cs.length < 2 ∨ psum (kr cs rs m) cs.length = 2 ^ m.toNat
  kraft : psum (kr cs rs m) cs.length ≤ 2 ^ m.toNat
  best : ∀ os : List Int, (∀ j : Nat, j < cs.length → 0 < rd cs j → 1 ≤ rd os j ∧ rd os j ≤ m) → psum (kr cs os m) cs.length ≤ 2 ^ m.toNat → psum (cw cs rs) cs.length ≤ psum (fun j => if 0 < rd cs j then rd cs j * rd os j else 0) cs.length

theorem fine_holds {cs : List Int} {m : Int} (h : checkOf cs m = 0) : Fine cs m (lengthsOf cs m.toNat) := by
  obtain ⟨h1, h2, h3, h4, h5⟩ := check_ok h
  rw [← leavesOf_length] at h5
  have hL := lens_holds (cs := cs) (m := m.toNat) (by omega) h5
  have hc : ∀ j : Nat, j < cs.length → 0 ≤ rd cs j ∧ rd cs j ≤ 4096 := fun j hj => h4 _ (rd_mem hj)
  have hleaf : ∀ x ∈ leavesOf cs, 0 ≤ rd (lengthsOf cs m.toNat) x.s ∧ rd (lengthsOf cs m.toNat) x.s ≤ m := fun x hx => by
    obtain ⟨j, hj, e, h0⟩ := leaf_idx hx
    rw [e]
    have := hL.range j hj h0
    omega
  have hfull : psum (one cs) cs.length < 2 ∨ psum (kr cs (lengthsOf cs m.toNat) m) cs.length = 2 ^ m.toNat := by
    rw [← leaves_one]
    rcases Nat.lt_or_ge (leavesOf cs).length 2 with h | h
    · exact .inl (by omega)
    · refine .inr ?_
      rw [← leaves_kr cs _ m (by omega) hleaf, hL.full h]
      simp
  refine ⟨⟨h1, h2⟩, hc, hL.len, fun j hj h0 => by have := hL.range j hj h0; omega, fun j hj h0 => hL.absent j hj (by omega), hL.mono, hfull, ?_, ?_⟩
  · rcases Nat.lt_or_ge (leavesOf cs).length 2 with h | h
    · rw [← leaves_kr cs _ m (by omega) hleaf]
      have hle : ((leavesOf cs).map (fun x => 2 ^ (m.toNat - (rd (lengthsOf cs m.toNat) x.s).toNat))).sum ≤ 2 ^ m.toNat := by
        match he : leavesOf cs with
        | [] => simp
        | [x] =>
          simp only [List.map_cons, List.map_nil, List.sum_cons, List.sum_nil, Nat.add_zero]
          exact Nat.pow_le_pow_right (by decide) (by omega)
        | x :: y :: l => rw [he] at h; simp at h; omega
      exact_mod_cast hle
    · rcases hfull with h' | h'
      · rw [← leaves_one] at h'; omega
      · omega
  · intro os ho hk
    rw [← dot_psum cs _ hL.len, ← leaves_cw]
    have hol : ∀ x ∈ leavesOf cs, 1 ≤ rd os x.s ∧ rd os x.s ≤ m := fun x hx => by
      obtain ⟨j, hj, e, h0⟩ := leaf_idx hx
      rw [e]
      exact ho j hj h0
    refine hL.best (rd os) (fun x hx => by have := hol x hx; omega) ?_
    rw [← leaves_kr cs os m (by omega) (fun x hx => by have := hol x hx; omega)] at hk
    exact_mod_cast hk

/-- The lengths of present symbols, one after the other. -/
def mL (cs os : List Int) : Nat → List Int
  | 0 => []
  | i + 1 => if 0 < rd cs i then mL cs os i ++ [rd os i] else mL cs os i
theorem mL_len (cs os : List Int) : ∀ i, (mL cs os i).length ≤ i
  | 0 => Nat.le_refl _
  | i + 1 => by
    have := mL_len cs os i
    rw [mL]
    split
    · rw [List.length_append]; simp; omega
    · omega
theorem mL_all (cs os : List Int) (P : Int → Prop) : ∀ i, (∀ j : Nat, j < i → 0 < rd cs j → P (rd os j)) → ∀ x ∈ mL cs os i, P x
  | 0, _, x, h => by simp [mL] at h
  | i + 1, hp, x, h => by
    rw [mL] at h
    split at h
    · rename_i h0
      rcases List.mem_append.1 h with h | h
      · exact mL_all cs os P i (fun j hj => hp j (by omega)) x h
      · simp at h; subst h; exact hp i (by omega) h0
    · exact mL_all cs os P i (fun j hj => hp j (by omega)) x h
/-- Kraft's sum of a list. -/
def krL (xs : List Int) (m : Int) (j : Nat) : Int := 2 ^ (m - rd xs j).toNat
theorem krL_snoc (xs : List Int) (m x : Int) : psum (krL (xs ++ [x]) m) (xs ++ [x]).length = psum (krL xs m) xs.length + 2 ^ (m - x).toNat := by
  rw [List.length_append, List.length_cons, List.length_nil, psum]
  congr 1
  · apply psum_congr
    intro j hj
    unfold krL rd
    simp [List.getD_eq_getElem?_getD, List.getElem?_append_left hj]
  · unfold krL rd
    simp
theorem krL_mL (cs os : List Int) (m : Int) : ∀ i, psum (krL (mL cs os i) m) (mL cs os i).length = psum (kr cs os m) i
  | 0 => rfl
  | i + 1 => by
    rw [mL, psum, kr, ← krL_mL cs os m i]
    split
    · rw [krL_snoc]
    · omega
end Go.Proofs.Ytdmhhgkplcaejaa
