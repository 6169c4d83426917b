/- Decoding in plain lists; the table's classes of symbols. -/
import Derived.Test.YtdmhhgkplcaejaaD2
import Derived.Test.YtdmhhgkplcaejaaE18
import Derived.Test.YtdmhhgkplcaejaaE12
namespace Go.Proofs.Ytdmhhgkplcaejaa
open Go.RowKit Go.Sort Go.Proofs.YtdmhhgkplcaejaaW.PrintWords

/-- The symbol of a code (the last one of the first i), or -1. -/
def refFind (ls cs : List Int) (v : Int) (n : Nat) : Nat → Int
  | 0 => -1
  | i + 1 => if rd ls i = n ∧ rd cs i = v then (i : Int) else refFind ls cs v n i
/-- Whether a code of the first i begins with the n bits of v. -/
def refAlive (ls cs : List Int) (v : Int) (n : Nat) : Nat → Bool
  | 0 => false
  | i + 1 => refAlive ls cs v n i || (decide ((n : Int) ≤ rd ls i) && (rd cs i / 2 ^ (rd ls i - n).toNat == v))

theorem refAlive_iff (ls cs : List Int) (v : Int) (n : Nat) : ∀ i, refAlive ls cs v n i = true ↔ ∃ s : Nat, s < i ∧ (n : Int) ≤ rd ls s ∧ rd cs s / 2 ^ (rd ls s - n).toNat = v
  | 0 => by simp [refAlive]
  | i + 1 => by
    rw [refAlive, Bool.or_eq_true, refAlive_iff ls cs v n i, Bool.and_eq_true, decide_eq_true_eq, beq_iff_eq]
    constructor
    · rintro (⟨s, h1, h2⟩ | h)
      · exact ⟨s, by omega, h2⟩
      · exact ⟨i, by omega, h⟩
    · rintro ⟨s, h1, h2⟩
      rcases Nat.lt_or_ge s i with h | h
      · exact .inl ⟨s, h, h2⟩
      · obtain rfl : s = i := by omega
        exact .inr h2
theorem refFind_spec (ls cs : List Int) (v : Int) (n : Nat) : ∀ i, (refFind ls cs v n i = -1 ∧ ∀ s : Nat, s < i → ¬ (rd ls s = n ∧ rd cs s = v)) ∨ ∃ s : Nat, s < i ∧ refFind ls cs v n i = s ∧ rd ls s = n ∧ rd cs s = v
  | 0 => .inl ⟨rfl, fun s h => by omega⟩
  | i + 1 => by
    rw [refFind]
    by_cases h : rd ls i = n ∧ rd cs i = v
    · rw [if_pos h]
      exact .inr ⟨i, by omega, rfl, h.1, h.2⟩
    · rw [if_neg h]
      rcases refFind_spec ls cs v n i with ⟨h1, h2⟩ | ⟨s, h1, h2, h3⟩
      · refine .inl ⟨h1, fun s hs => ?_⟩
        rcases Nat.lt_or_ge s i with h' | h'
        · exact h2 s h'
        · obtain rfl : s = i := by omega
          exact h
      · exact .inr ⟨s, by omega, h2, h3⟩

/-- A symbol read: it, the error, the bits behind it. -/
def symL (ls cs : List Int) : List Bool → Int → Nat → Int × Int × List Bool
  | [], _, _ => (0, 10, [])
  | b :: r, v, n =>
    if refAlive ls cs (2 * v + if b then 1 else 0) (n + 1) ls.length = true then
      (if 0 ≤ refFind ls cs (2 * v + if b then 1 else 0) (n + 1) ls.length then (refFind ls cs (2 * v + if b then 1 else 0) (n + 1) ls.length, 0, r)
        else symL ls cs r (2 * v + if b then 1 else 0) (n + 1))
    else (0, 9, r)
/-- Symbols read. -/
def decL (ls cs : List Int) : Nat → List Bool → List Int → List Int × Int × List Bool
  | 0, l, out => (out, 0, l)
  | c + 1, l, out =>
    if (symL ls cs l 0 0).2.1 = 0 then decL ls cs c (symL ls cs l 0 0).2.2 (out ++ [(symL ls cs l 0 0).1]) else ([], (symL ls cs l 0 0).2.1, (symL ls cs l 0 0).2.2)
/-- huffman.Decode. -/
def decOf (ls : List Int) (l : List Bool) (c : Nat) : List Int × Int :=
  if (decL ls (codesOf ls) c l []).2.1 = 0 then (if (decL ls (codesOf ls) c l []).2.2 = [] then ((decL ls (codesOf ls) c l []).1, 0) else ([], 9)) else ([], (decL ls (codesOf ls) c l []).2.1)
def decArgs (ls bs : List Int) (n c : Int) : Prop := validOf ls = true ∧ 0 ≤ n ∧ n ≤ 8 * bs.length ∧ 0 ≤ c ∧ c ≤ 4096
instance (ls bs : List Int) (n c : Int) : Decidable (decArgs ls bs n c) := by unfold decArgs; infer_instance
def decV (ls bs : List Int) (n c : Int) : List Int × Int := if decArgs ls bs n c then decOf ls (bitsB bs n.toNat) c.toNat else ([], 1)

/-- The symbols of a length. -/
def cls (ls l : List Int) (n : Nat) : List Int := l.filter fun s => decide (rd ls s = n)
/-- The first code of a length. -/
def fst' (ls cs l : List Int) (n : Nat) : Int := if (cls ls l n).length = 0 then 0 else rd cs (rd (cls ls l n) 0)
theorem cls_snoc (ls l : List Int) (s : Int) (n : Nat) : cls ls (l ++ [s]) n = if rd ls s = n then cls ls l n ++ [s] else cls ls l n := by
  unfold cls
  rw [List.filter_append, List.filter_cons, List.filter_nil]
  by_cases h : rd ls s = n
  · simp [h]
  · simp [h]
theorem fst_snoc (ls cs l : List Int) (s : Int) (n : Nat) : fst' ls cs (l ++ [s]) n = if rd ls s = n ∧ (cls ls l n).length = 0 then rd cs s else fst' ls cs l n := by
  unfold fst'
  rw [cls_snoc]
  by_cases h : rd ls s = n
  · rw [show (if rd ls s = n then cls ls l n ++ [s] else cls ls l n) = cls ls l n ++ [s] from if_pos h, if_neg (show ¬ (cls ls l n ++ [s]).length = 0 by simp)]
    by_cases h0 : (cls ls l n).length = 0
    · rw [if_pos (And.intro h h0), List.eq_nil_of_length_eq_zero h0]
      rfl
    · rw [if_neg (show ¬ (rd ls s = n ∧ (cls ls l n).length = 0) from fun h' => h0 h'.2), if_neg h0]
      congr 1
      unfold rd
      rw [List.getD_eq_getElem?_getD, List.getElem?_append_left (by simp; omega), List.getD_eq_getElem?_getD]
  · rw [show (if rd ls s = n then cls ls l n ++ [s] else cls ls l n) = cls ls l n from if_neg h, if_neg (show ¬ (rd ls s = n ∧ (cls ls l n).length = 0) from fun h' => h h'.1)]

theorem order_nodup (ls : List Int) : (orderOf ls).Nodup := nodup_of_lx (swoL ls) (isort_from_pw (swoL ls) Int.toNat _ [] List.Pairwise.nil (syms_pw ls 0) (by simp))
theorem code_at {ls : List Int} (hv : validOf ls = true) {j : Nat} (hj : j < (orderOf ls).length) : rd (codesOf ls) (rd (orderOf ls) j) = cd ls (orderOf ls) j := by
  have hI := inOrd hv
  have hm := hI.mem j hj
  have hp := hI.pos j hj
  obtain ⟨a, ha, ea, ca⟩ := codes_at hv (rd (orderOf ls) j).toNat (by omega) (by rw [show (((rd (orderOf ls) j).toNat : Nat) : Int) = rd (orderOf ls) j by omega]; exact hp.1)
  rw [show (((rd (orderOf ls) j).toNat : Nat) : Int) = rd (orderOf ls) j by omega] at ea ca
  rw [rd_nat _ _ ha, rd_nat _ _ hj] at ea
  have : a = j := (List.getElem_inj (order_nodup ls)).1 ea
  rw [ca, this]

/-- In each class the codes follow one another. -/
theorem cls_codes {ls : List Int} (hv : validOf ls = true) : ∀ j, j ≤ (orderOf ls).length → (∀ n t : Nat, t < (cls ls ((orderOf ls).take j) n).length → rd (codesOf ls) (rd (cls ls ((orderOf ls).take j) n) t) = fst' ls (codesOf ls) ((orderOf ls).take j) n + t) ∧
    (∀ n : Nat, 0 < j → rd ls (rd (orderOf ls) (j - 1 : Nat)) = n → 0 < (cls ls ((orderOf ls).take j) n).length ∧ rd (cls ls ((orderOf ls).take j) n) ((cls ls ((orderOf ls).take j) n).length - 1 : Nat) = rd (orderOf ls) (j - 1 : Nat))
  | 0, _ => ⟨fun n t h => by simp [cls] at h, fun n h => by omega⟩
  | j + 1, hj => by
    obtain ⟨ih1, ih2⟩ := cls_codes hv j (by omega)
    have hI := inOrd hv
    have hcode := code_at hv (j := j) (by omega)
    rw [take_snoc_rd _ j (by omega)]
    have hlast : ∀ (a : List Int) (x : Int), rd (a ++ [x]) (a.length : Nat) = x := fun a x => by unfold rd; simp
    have hfirst : ∀ (a : List Int) (x : Int) (t : Nat), t < a.length → rd (a ++ [x]) t = rd a t := fun a x t h => rd_app a [x] t h
    refine ⟨fun n t ht => ?_, fun n _ hn => ?_⟩
    · rw [cls_snoc] at ht ⊢
      rw [fst_snoc]
      by_cases h : rd ls (rd (orderOf ls) j) = n
      · rw [if_pos h] at ht ⊢
        rw [List.length_append, List.length_singleton] at ht
        by_cases h0 : (cls ls ((orderOf ls).take j) n).length = 0
        · rw [if_pos ⟨h, h0⟩]
          have h0' := List.eq_nil_of_length_eq_zero h0
          rw [h0'] at ht ⊢
          obtain rfl : t = 0 := by simpa using ht
          simp [rd]
        · rw [if_neg (fun h' => h0 h'.2)]
          rcases Nat.lt_or_ge t (cls ls ((orderOf ls).take j) n).length with hlt | hge
          · rw [hfirst _ _ _ hlt]
            exact ih1 n t hlt
          · obtain rfl : t = (cls ls ((orderOf ls).take j) n).length := by omega
            rw [hlast, hcode]
            have hj0 : 0 < j := by
              rcases Nat.eq_zero_or_pos j with h' | h'
              · subst h'; simp [cls] at h0
              · exact h'
            obtain ⟨i, rfl⟩ : ∃ i, j = i + 1 := ⟨j - 1, by omega⟩
            simp only [Nat.add_sub_cancel] at ih2
            have hln := hI.mono i (by omega)
            have hci := code_at hv (j := i) (by omega)
            have hmx : rd ls (rd (orderOf ls) i) = n := by
              -- a symbol of the class lies before: its length is at most that at place i
              have h1 : 0 < (cls ls ((orderOf ls).take (i + 1)) n).length := by omega
              have h2 := List.getElem_mem (l := cls ls ((orderOf ls).take (i + 1)) n) h1
              unfold cls at h2
              rw [List.mem_filter, decide_eq_true_eq] at h2
              obtain ⟨h3, h4⟩ := h2
              obtain ⟨a, ha, hae⟩ := List.getElem_of_mem h3
              rw [List.length_take] at ha
              rw [List.getElem_take] at hae
              have h5 := hI.ln_mono' (show a ≤ i by omega) (by omega)
              have p1 := hI.pos a (by omega)
              have p2 := hI.pos i (by omega)
              unfold ln at h5
              rw [rd_nat (orderOf ls) a (by omega), hae] at h5 p1
              have e5 : (rd ls ((List.filter (fun s => decide (rd ls s = (n : Int))) (List.take (i + 1) (orderOf ls)))[0])) = n := h4
              rw [e5] at h5
              omega
            obtain ⟨g1, g2⟩ := ih2 n (by omega) hmx
            have g3 := ih1 n ((cls ls ((orderOf ls).take (i + 1)) n).length - 1) (by omega)
            rw [g2, hci] at g3
            have hcd : cd ls (orderOf ls) (i + 1) = cd ls (orderOf ls) i + 1 := by
              rw [cd]
              unfold ln
              rw [h, hmx]
              simp
            rw [hcd]
            omega
      · rw [if_neg h] at ht ⊢
        rw [if_neg (fun h' => h h'.1)]
        exact ih1 n t ht
    · rw [Nat.add_sub_cancel] at hn ⊢
      rw [cls_snoc, if_pos hn]
      exact ⟨by simp, by rw [List.length_append, List.length_singleton, Nat.add_sub_cancel]; exact hlast _ _⟩
end Go.Proofs.Ytdmhhgkplcaejaa
