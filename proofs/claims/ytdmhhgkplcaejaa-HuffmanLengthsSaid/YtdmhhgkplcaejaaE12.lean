/- The reference's order of symbols is the program's: the plain law. -/
import Derived.Test.YtdmhhgkplcaejaaE3
namespace Go.Proofs.Ytdmhhgkplcaejaa
open Go.Shelf Go.RowKit Go.Lib Go.Sort Go.Proofs.YtdmhhgkplcaejaaW.PrintWords

/-- The places of n in a list, from place i on. -/
def eqs (n : Int) (i : Nat) : List Int → List Int
  | [] => []
  | c :: cs => if c = n then (i : Int) :: eqs n (i + 1) cs else eqs n (i + 1) cs
/-- The symbols of the lengths 16 - j to 15, in order. -/
def gr (ls : List Int) : Nat → List Int
  | 0 => []
  | j + 1 => eqs ((15 - j : Nat) : Int) 0 ls ++ gr ls j

theorem mem_eqs {n s : Int} (cs : List Int) : ∀ i : Nat, s ∈ eqs n i cs ↔ ∃ j, ∃ h : j < cs.length, s = ((i + j : Nat) : Int) ∧ cs[j] = n := by
  induction cs with
  | nil => intro i; simp [eqs]
  | cons c cs ih =>
    intro i
    have key : (∃ j, ∃ h : j < (c :: cs).length, s = ((i + j : Nat) : Int) ∧ (c :: cs)[j] = n) ↔ (s = (i : Int) ∧ c = n) ∨ ∃ j, ∃ h : j < cs.length, s = ((i + 1 + j : Nat) : Int) ∧ cs[j] = n := by
      constructor
      · rintro ⟨j, h, h1, h2⟩
        cases j with
        | zero => exact .inl ⟨by simpa using h1, h2⟩
        | succ j => exact .inr ⟨j, by simpa using h, by rw [h1]; congr 1; omega, by simpa using h2⟩
      · rintro (⟨h1, h2⟩ | ⟨j, h, h1, h2⟩)
        · exact ⟨0, by simp, by simpa using h1, h2⟩
        · exact ⟨j + 1, by simpa using h, by rw [h1]; congr 1; omega, by simpa using h2⟩
    rw [key, eqs]
    split
    · rename_i hc
      rw [List.mem_cons, ih]
      simp [hc]
    · rename_i hc
      rw [ih]
      simp [hc]

theorem mem_syms {s : Int} (cs : List Int) : ∀ i : Nat, s ∈ syms i cs ↔ ∃ j, ∃ h : j < cs.length, s = ((i + j : Nat) : Int) ∧ 0 < cs[j] := by
  induction cs with
  | nil => intro i; simp [syms]
  | cons c cs ih =>
    intro i
    have key : (∃ j, ∃ h : j < (c :: cs).length, s = ((i + j : Nat) : Int) ∧ 0 < (c :: cs)[j]) ↔ (s = (i : Int) ∧ 0 < c) ∨ ∃ j, ∃ h : j < cs.length, s = ((i + 1 + j : Nat) : Int) ∧ 0 < cs[j] := by
      constructor
      · rintro ⟨j, h, h1, h2⟩
        cases j with
        | zero => exact .inl ⟨by simpa using h1, h2⟩
        | succ j => exact .inr ⟨j, by simpa using h, by rw [h1]; congr 1; omega, by simpa using h2⟩
      · rintro (⟨h1, h2⟩ | ⟨j, h, h1, h2⟩)
        · exact ⟨0, by simp, by simpa using h1, h2⟩
        · exact ⟨j + 1, by simpa using h, by rw [h1]; congr 1; omega, by simpa using h2⟩
    rw [key, syms]
    split
    · rename_i hc
      rw [List.mem_cons, ih]
      simp [hc]
    · rename_i hc
      rw [ih]
      simp [hc]

theorem mem_gr {s : Int} (ls : List Int) : ∀ j, j ≤ 15 → (s ∈ gr ls j ↔ ∃ k, ∃ h : k < ls.length, s = (k : Int) ∧ ((16 - j : Nat) : Int) ≤ ls[k] ∧ ls[k] ≤ 15)
  | 0, _ => by
    simp only [gr, List.not_mem_nil, false_iff, not_exists]
    rintro k h ⟨_, h1, h2⟩
    omega
  | j + 1, hj => by
    rw [gr, List.mem_append, mem_eqs, mem_gr ls j (by omega)]
    constructor
    · rintro (⟨k, h, h1, h2⟩ | ⟨k, h, h1, h2, h3⟩)
      · exact ⟨k, h, by simpa using h1, by omega, by omega⟩
      · exact ⟨k, h, h1, by omega, h3⟩
    · rintro ⟨k, h, h1, h2, h3⟩
      by_cases he : ls[k] = ((15 - j : Nat) : Int)
      · exact .inl ⟨k, h, by simpa using h1, he⟩
      · exact .inr ⟨k, h, h1, by omega, h3⟩

theorem eqs_pw (n : Int) (cs : List Int) : ∀ i : Nat, (eqs n i cs).Pairwise (· < ·) := by
  induction cs with
  | nil => intro i; exact List.Pairwise.nil
  | cons c cs ih =>
    intro i
    rw [eqs]
    split
    · refine List.pairwise_cons.2 ⟨fun y hy => ?_, ih _⟩
      obtain ⟨j, h, h1, _⟩ := (mem_eqs cs (i + 1)).1 hy
      omega
    · exact ih _
theorem syms_pw (cs : List Int) : ∀ i : Nat, (syms i cs).Pairwise (fun x y => x.toNat < y.toNat) := by
  induction cs with
  | nil => intro i; exact List.Pairwise.nil
  | cons c cs ih =>
    intro i
    rw [syms]
    split
    · refine List.pairwise_cons.2 ⟨fun y hy => ?_, ih _⟩
      obtain ⟨j, h, h1, _⟩ := (mem_syms cs (i + 1)).1 hy
      omega
    · exact ih _

theorem gr_pw (ls : List Int) : ∀ j, j ≤ 15 → (gr ls j).Pairwise (Lx (ltL ls) Int.toNat)
  | 0, _ => List.Pairwise.nil
  | j + 1, hj => by
    rw [gr]
    refine List.pairwise_append.2 ⟨?_, gr_pw ls j (by omega), ?_⟩
    · have hmem : ∀ x ∈ eqs ((15 - j : Nat) : Int) 0 ls, 0 ≤ x ∧ rd ls x = ((15 - j : Nat) : Int) := fun x hx => by
        obtain ⟨k, h, h1, h2⟩ := (mem_eqs ls 0).1 hx
        rw [Nat.zero_add] at h1
        subst h1
        exact ⟨by omega, by rw [rd_nat _ _ h]; exact h2⟩
      refine (eqs_pw _ ls 0).imp_of_mem ?_
      intro x y hx hy hxy
      obtain ⟨a1, a2⟩ := hmem x hx
      obtain ⟨b1, b2⟩ := hmem y hy
      exact .inr ⟨by unfold ltL; rw [a2, b2]; simp, by omega⟩
    · intro x hx y hy
      obtain ⟨k, h, h1, h2⟩ := (mem_eqs ls 0).1 hx
      rw [Nat.zero_add] at h1
      obtain ⟨k', h', h1', h2', h3'⟩ := (mem_gr ls j (by omega)).1 hy
      subst h1 h1'
      refine .inl ?_
      unfold ltL
      rw [rd_nat _ _ h, rd_nat _ _ h']
      simp
      omega

theorem nodup_of_lx {lt : Int → Int → Bool} (hO : SWO lt) {l : List Int} (h : l.Pairwise (Lx lt Int.toNat)) : l.Nodup := by
  refine h.imp ?_
  rintro a b hab rfl
  exact Lx.asymm hO hab hab

theorem gr_order {ls : List Int} (hv : ∀ n ∈ ls, 0 ≤ n ∧ n ≤ 15) : gr ls 15 = orderOf ls := by
  have h1 := gr_pw ls 15 (Nat.le_refl _)
  have h2 : (orderOf ls).Pairwise (Lx (ltL ls) Int.toNat) := isort_from_pw (swoL ls) Int.toNat _ [] List.Pairwise.nil (syms_pw ls 0) (by simp)
  refine Lx.uniq (swoL ls) h1 h2 ?_
  refine (List.perm_ext_iff_of_nodup (nodup_of_lx (swoL ls) h1) (nodup_of_lx (swoL ls) h2)).2 fun s => ?_
  rw [mem_gr ls 15 (Nat.le_refl _), show s ∈ orderOf ls ↔ s ∈ syms 0 ls from (isort_perm _ _).mem_iff, mem_syms]
  constructor
  · rintro ⟨k, h, h1, h2, h3⟩
    exact ⟨k, h, by simpa using h1, by omega⟩
  · rintro ⟨k, h, h1, h2⟩
    exact ⟨k, h, by simpa using h1, by omega, (hv _ (List.getElem_mem h)).2⟩
end Go.Proofs.Ytdmhhgkplcaejaa
