/- Package-merge in plain lists: what huffman.Lengths' lengths are. -/
import Derived.Test.YtdmhhgkplcaejaaPM3
import Derived.Test.YtdmhhgkplcaejaaE9
import Derived.Test.YtdmhhgkplcaejaaE12
namespace Go.Proofs.Ytdmhhgkplcaejaa
open Go.Shelf Go.RowKit Go.Lib Go.Sort Go.Proofs.YtdmhhgkplcaejaaW.PrintWords

variable {ls : List It}
theorem pass_rd (s : Int) (hs : 0 ≤ s) (l : List It) : ∀ st : List Int × Nat, s < st.1.length → rd (pass l st).1 s = rd st.1 s + (l.countP (fun x => decide (x.s = s)) : Nat) := by
  induction l with
  | nil => intro st _; simp [pass]
  | cons x l ih =>
    intro st hl
    have h1 := ih (stepI st x) (by rw [stepI_len]; exact hl)
    rw [show pass (x :: l) st = pass l (stepI st x) from rfl, h1, List.countP_cons]
    unfold stepI
    by_cases h0 : 0 ≤ x.s
    · rw [if_pos h0]
      simp only
      rw [rd_set _ _ _ _ hs]
      by_cases he : x.s = s
      · rw [if_pos ⟨by omega, by omega⟩, he]
        simp
        omega
      · rw [if_neg (fun h => he (by omega))]
        simp [he]
    · rw [if_neg h0]
      have he : ¬ x.s = s := by omega
      simp [he]

/-- How often a symbol is taken. -/
def cntS (ls : List It) (s : Int) : Nat → Nat → Nat
  | 0, _ => 0
  | k + 1, t => ((lvl ls k).take t).countP (fun x => decide (x.s = s)) + cntS ls s k (2 * npk ((lvl ls k).take t))
theorem down_len (L : Nat → List It) : ∀ k t acc, (down L k t acc).length = acc.length
  | 0, _, _ => rfl
  | k + 1, t, acc => by rw [down, down_len, pass_len]
theorem down_rd (s : Int) (hs : 0 ≤ s) : ∀ k t acc, s < (acc.length : Nat) → rd (down (lvl ls) k t acc) s = rd acc s + (cntS ls s k t : Nat)
  | 0, _, _, _ => by simp [down, cntS]
  | k + 1, t, acc, hl => by
    rw [down, down_rd s hs k _ _ (by rw [pass_len]; exact hl), pass_rd s hs _ _ hl, pass_npk, cntS]
    simp only [Nat.zero_add]
    omega

theorem cnt_take (l : List It) (hnd : (l.map It.s).Nodup) : ∀ i (hi : i < l.length) a, (l.take a).countP (fun x => decide (x.s = l[i].s)) = if i < a then 1 else 0 := by
  induction l with
  | nil => intro i hi; simp at hi
  | cons y l ih =>
    intro i hi a
    rw [List.map_cons, List.nodup_cons] at hnd
    cases a with
    | zero => simp
    | succ a =>
      rw [List.take_succ_cons, List.countP_cons]
      cases i with
      | zero =>
        have h0 : (l.take a).countP (fun x => decide (x.s = y.s)) = 0 := by
          rw [List.countP_eq_zero]
          intro x hx
          simp only [decide_eq_true_eq]
          intro e
          exact hnd.1 (List.mem_map.2 ⟨x, List.mem_of_mem_take hx, e⟩)
        simp [h0]
      | succ i =>
        have hi' : i < l.length := by simpa using hi
        have hne : ¬ y.s = l[i].s := fun e => hnd.1 (List.mem_map.2 ⟨l[i], List.getElem_mem hi', e.symm⟩)
        rw [List.getElem_cons_succ, ih hnd.2 i hi' a]
        simp [hne]

theorem count_leaves (h : Lvs ls) (s : Int) (hs : 0 ≤ s) (k t : Nat) : ((lvl ls k).take t).countP (fun x => decide (x.s = s)) = (ls.take (lf ls k t)).countP (fun x => decide (x.s = s)) := by
  rw [← take_leaves h.srt h.leaf, List.countP_filter]
  apply List.countP_congr
  intro x _
  simp only [decide_eq_true_eq, Bool.and_eq_true, Bool.not_eq_true']
  constructor
  · intro e; exact ⟨e, by unfold isPk; rw [decide_eq_false_iff_not]; omega⟩
  · intro e; exact e.1
theorem cntS_leaf (h : Lvs ls) (hnd : (ls.map It.s).Nodup) (i : Nat) (hi : i < ls.length) : ∀ k t, cntS ls ls[i].s k t = (tk ls k t).countP (fun a => decide (i < a))
  | 0, _ => rfl
  | k + 1, t => by
    rw [cntS, tk, List.countP_cons, cntS_leaf h hnd i hi k, count_leaves h _ (h.leaf _ (List.getElem_mem hi)), cnt_take ls hnd i hi]
    by_cases hx : i < lf ls k t <;> simp [hx] <;> omega
theorem cntS_none (h : Lvs ls) (s : Int) (hs : 0 ≤ s) (hn : ∀ x ∈ ls, x.s ≠ s) : ∀ k t, cntS ls s k t = 0
  | 0, _ => rfl
  | k + 1, t => by
    rw [cntS, cntS_none h s hs hn k, count_leaves h s hs]
    rw [Nat.add_zero, List.countP_eq_zero]
    intro x hx
    simp only [decide_eq_true_eq]
    exact hn x (List.mem_of_mem_take hx)

/-- The sum of products. -/
def dot : List Int → List Int → Int
  | a :: as', b :: bs => a * b + dot as' bs
  | _, _ => 0
theorem dot_set (cs : List Int) : ∀ (acc : List Int) (i : Nat) (v : Int), i < cs.length → i < acc.length → dot cs (acc.set i v) = dot cs acc + rd cs i * (v - rd acc i) := by
  induction cs with
  | nil => intro acc i v h; simp at h
  | cons c cs ih =>
    intro acc i v h1 h2
    cases acc with
    | nil => simp at h2
    | cons a acc =>
      cases i with
      | zero =>
        rw [List.set_cons_zero, dot, dot]
        have e1 : rd (c :: cs) ((0 : Nat) : Int) = c := rfl
        have e2 : rd (a :: acc) ((0 : Nat) : Int) = a := rfl
        rw [e1, e2, Int.mul_sub]
        omega
      | succ i =>
        rw [List.set_cons_succ, dot, dot, ih acc i v (by simpa using h1) (by simpa using h2)]
        have e1 : rd (c :: cs) ((i + 1 : Nat) : Int) = rd cs i := by unfold rd; rw [Int.toNat_natCast, Int.toNat_natCast]; rfl
        have e2 : rd (a :: acc) ((i + 1 : Nat) : Int) = rd acc i := by unfold rd; rw [Int.toNat_natCast, Int.toNat_natCast]; rfl
        rw [e1, e2]
        omega
theorem dot_pass (cs : List Int) (l : List It) : ∀ st : List Int × Nat, (∀ x ∈ l, 0 ≤ x.s → x.s < cs.length ∧ x.w = rd cs x.s) → st.1.length = cs.length → dot cs (pass l st).1 = dot cs st.1 + W (l.filter (fun x => !isPk x)) := by
  induction l with
  | nil => intro st _ _; simp [pass, W]
  | cons x l ih =>
    intro st hx hl
    have h1 := ih (stepI st x) (fun y hy => hx y (List.mem_cons_of_mem _ hy)) (by rw [stepI_len]; exact hl)
    rw [show pass (x :: l) st = pass l (stepI st x) from rfl, h1, List.filter_cons]
    unfold stepI isPk
    by_cases h0 : 0 ≤ x.s
    · obtain ⟨h2, h3⟩ := hx x List.mem_cons_self h0
      have hd : decide (x.s < 0) = false := decide_eq_false (by omega)
      rw [if_pos h0, hd]
      simp only [Bool.not_false, if_true, W_cons]
      rw [dot_set cs _ _ _ (by omega) (by omega), Int.toNat_of_nonneg h0, ← h3]
      have : rd st.1 x.s + 1 - rd st.1 x.s = 1 := by omega
      rw [this, Int.mul_one]
      omega
    · have hd : decide (x.s < 0) = true := decide_eq_true (by omega)
      rw [if_neg h0, hd]
      simp only [Bool.not_true, Bool.false_eq_true, if_false]
theorem dot_down (h : Lvs ls) (cs : List Int) (hw : ∀ x ∈ ls, x.s < cs.length ∧ x.w = rd cs x.s) : ∀ k t acc, acc.length = cs.length → dot cs (down (lvl ls) (k + 1) t acc) = dot cs acc + W ((lvl ls k).take t)
  | k, t, acc, hl => by
    have hleaf : ∀ x ∈ (lvl ls k).take t, 0 ≤ x.s → x.s < cs.length ∧ x.w = rd cs x.s := fun x hx h0 => by
      have h1 : x ∈ (lvl ls k).filter (fun x => !isPk x) := List.mem_filter.2 ⟨List.mem_of_mem_take hx, by unfold isPk; simp; omega⟩
      rw [lvl_leaves h.srt h.leaf] at h1
      exact hw x h1
    have hp := dot_pass cs ((lvl ls k).take t) (acc, 0) hleaf hl
    rw [down]
    cases k with
    | zero =>
      rw [down, hp, W_split ((lvl ls 0).take t)]
      have : ((lvl ls 0).take t).filter isPk = [] := by
        rw [List.filter_eq_nil_iff]
        intro x hx
        have := h.leaf x (List.mem_of_mem_take hx)
        unfold isPk
        simp
        omega
      rw [this]
      simp [W]
    | succ k =>
      rw [dot_down h cs hw k _ _ (by rw [pass_len]; exact hl), hp, pass_npk, W_level h.srt h.leaf, take_leaves h.srt h.leaf]
      simp only [Nat.zero_add]
      omega
end Go.Proofs.Ytdmhhgkplcaejaa
