/- The lengths of package-merge are like Lens tells: within the limit, complete, least. -/
import Derived.Test.YtdmhhgkplcaejaaPM5
namespace Go.Proofs.Ytdmhhgkplcaejaa
open Go.Sort Go.Proofs.YtdmhhgkplcaejaaW.PrintWords

theorem map_range {α β : Type} [Inhabited α] (ls : List α) (g : α → β) : ls.map g = (List.range ls.length).map (fun i => g (ls.getD i default)) := by
  apply List.ext_getElem
  · simp
  · intro i h1 h2
    simp at h1
    simp [h1]
theorem range_add (f g : Nat → Nat) (c : Nat) (n : Nat) (h : ∀ i, i < n → f i + g i = c) : ((List.range n).map f).sum + ((List.range n).map g).sum = n * c := by
  induction n with
  | zero => simp
  | succ n ih =>
    rw [List.range_succ, List.map_append, List.map_append, List.sum_append, List.sum_append]
    have h1 := ih (fun i hi => h i (by omega))
    have h2 := h n (by omega)
    simp only [List.map_cons, List.map_nil, List.sum_cons, List.sum_nil, Nat.succ_mul]
    omega
theorem countP_anti (l : List Nat) {i j : Nat} (h : i ≤ j) : l.countP (fun a => decide (j < a)) ≤ l.countP (fun a => decide (i < a)) := by
  apply List.countP_mono_left
  intro x _ hx
  simp at *
  omega
theorem mem_tk (ls : List It) (n : Nat) (hn : ∀ k t, lf ls k t ≤ n) : ∀ k t, ∀ a ∈ tk ls k t, a ≤ n
  | 0, _, a, h => by simp [tk] at h
  | k + 1, t, a, h => by
    rw [tk] at h
    rcases List.mem_cons.1 h with rfl | h
    · exact hn _ _
    · exact mem_tk ls n hn k _ a h

theorem one_leaf {m : Nat} (cs : List Int) (h : (leavesOf cs).length < 2) : (leavesOf cs = [] ∧ lengthsOf cs m = List.replicate cs.length 0) ∨ ∃ x, leavesOf cs = [x] ∧ lengthsOf cs m = (List.replicate cs.length 0).set x.s.toNat 1 := by
  unfold lengthsOf
  rw [if_pos h]
  match hl : leavesOf cs with
  | [] => exact .inl ⟨rfl, rfl⟩
  | [x] => exact .inr ⟨x, rfl, rfl⟩
  | x :: y :: l => rw [hl] at h; simp at h; omega

theorem lens_holds {cs : List Int} {m : Nat} (hm : 1 ≤ m) (hp : (leavesOf cs).length ≤ 2 ^ m) : Lens cs m (lengthsOf cs m) := by
  have hL := leaves_lvs cs
  have hnd := leaves_nodup cs
  have hw := leaves_w cs
  rcases Nat.lt_or_ge (leavesOf cs).length 2 with hlt | hge
  · rcases one_leaf (m := m) cs hlt with ⟨e, er⟩ | ⟨x, e, er⟩
    · have hno : ∀ s : Nat, s < cs.length → ¬ 0 < rd cs s := fun s hs h0 => by
        obtain ⟨i, hi, _⟩ := leaf_of cs s hs h0
        rw [e] at hi
        simp at hi
      rw [er]
      exact ⟨by simp, fun s _ _ => rd_zeros _ _, fun s hs h0 => absurd h0 (hno s hs), fun s t _ ht h0 => absurd h0 (hno t ht), fun h => by omega, fun f _ _ => by rw [dot_zeros, e]; simp⟩
    · have hx := hw x (by rw [e]; simp)
      have hx0 := hL.leaf x (by rw [e]; simp)
      have hxw := hL.pos x (by rw [e]; simp)
      have hone : ∀ s : Nat, s < cs.length → 0 < rd cs s → x.s = s := fun s hs h0 => by
        obtain ⟨i, hi, hxi⟩ := leaf_of cs s hs h0
        have h1 : ∀ y ∈ leavesOf cs, y = x := by rw [e]; simp
        rw [← hxi, h1 _ (List.getElem_mem hi)]
      have hrd : ∀ s : Nat, s < cs.length → rd ((List.replicate cs.length 0).set x.s.toNat 1) s = if x.s = s then 1 else 0 := fun s hs => by
        rw [rd_set _ _ _ _ (by omega), rd_zeros, List.length_replicate]
        by_cases hc : x.s = s
        · rw [if_pos hc, if_pos (by omega)]
        · rw [if_neg hc, if_neg (by omega)]
      rw [er]
      refine ⟨by simp, fun s hs h0 => ?_, fun s hs h0 => ?_, fun s t hs ht h0 h1 => ?_, fun h => by omega, fun f hf _ => ?_⟩
      · rw [hrd s hs, if_neg]
        intro hc
        rw [← hc] at h0
        have := hx.2
        omega
      · rw [hrd s hs, if_pos (hone s hs h0)]; omega
      · have a := hone s hs (by omega)
        have b := hone t ht h0
        have : s = t := by omega
        rw [this] at h1
        omega
      · have hfx := hf x (by rw [e]; simp)
        have e1 := dot_set cs (List.replicate cs.length 0) x.s.toNat 1 (by omega) (by rw [List.length_replicate]; omega)
        rw [e1, dot_zeros, rd_zeros, e, show ((x.s.toNat : Nat) : Int) = x.s by omega, ← hx.2]
        simp only [List.map_cons, List.map_nil, List.sum_cons, List.sum_nil]
        have := Int.mul_le_mul_of_nonneg_left hfx.1 (show 0 ≤ x.w by omega)
        omega
  · have er : lengthsOf cs m = down (lvl (leavesOf cs)) m (2 * (leavesOf cs).length - 2) (List.replicate cs.length 0) := by
      unfold lengthsOf
      rw [if_neg (by omega)]
    rw [er]
    clear er
    have hlo := leaf_of cs
    generalize hls : leavesOf cs = ls at *
    have key : ∀ i (hi : i < ls.length), rd (down (lvl ls) m (2 * ls.length - 2) (List.replicate cs.length 0)) ls[i].s = ((tk ls m (2 * ls.length - 2)).countP (fun a => decide (i < a)) : Nat) := fun i hi => by
      rw [down_rd _ (hL.leaf _ (List.getElem_mem hi)) _ _ _ (by rw [List.length_replicate]; exact (hw _ (List.getElem_mem hi)).1), rd_zeros, cntS_leaf hL hnd i hi]
      omega
    have htop := lvl_top ls m hp (m - 1) (by omega)
    rw [show m - (m - 1) = 1 by omega] at htop
    have hfull := lf_full hL hge (m - 1) (by omega)
    have htk : ∃ r, tk ls m (2 * ls.length - 2) = ls.length :: r := by
      obtain ⟨k, rfl⟩ : ∃ k, m = k + 1 := ⟨m - 1, by omega⟩
      exact ⟨_, by rw [tk, show lf ls k (2 * ls.length - 2) = ls.length from hfull]⟩
    have hone : ∀ i, i < ls.length → 1 ≤ (tk ls m (2 * ls.length - 2)).countP (fun a => decide (i < a)) := fun i hi => by
      obtain ⟨r, hr⟩ := htk
      rw [hr, List.countP_cons, if_pos (by simpa using hi)]
      omega
    have hmax : ∀ i, (tk ls m (2 * ls.length - 2)).countP (fun a => decide (i < a)) ≤ m := fun i => by
      have := List.countP_le_length (p := fun a => decide (i < a)) (l := tk ls m (2 * ls.length - 2))
      rw [tk_length] at this
      exact this
    refine ⟨by rw [down_len, List.length_replicate], fun s hs h0 => ?_, fun s hs h0 => ?_, fun s t hs ht h0 h1 => ?_, fun _ => ?_, fun f hf hk => ?_⟩
    · rw [down_rd _ (by omega) _ _ _ (by rw [List.length_replicate]; omega), rd_zeros, cntS_none hL _ (by omega)]
      · rfl
      · intro x hx he
        have a := hL.pos x hx
        have b := (hw x hx).2
        rw [he] at b
        omega
    · obtain ⟨i, hi, he⟩ := hlo s hs h0
      rw [← he, key i hi]
      have a := hone i hi
      have b := hmax i
      omega
    · obtain ⟨i, hi, he⟩ := hlo s hs (by omega)
      obtain ⟨j, hj, he'⟩ := hlo t ht h0
      rw [← he, ← he', key i hi, key j hj]
      have hji : j ≤ i := by
        rcases Nat.lt_or_ge i j with h | h
        · have a := hL.srt.le (i := i) (j := j) (by omega) hj
          rw [List.getD_eq_getElem?_getD, List.getD_eq_getElem?_getD, List.getElem?_eq_getElem hi, List.getElem?_eq_getElem hj] at a
          have b := (hw _ (List.getElem_mem hi)).2
          have c := (hw _ (List.getElem_mem hj)).2
          rw [he] at b
          rw [he'] at c
          simp only [Option.getD_some] at a
          omega
        · exact h
      have := countP_anti (tk ls m (2 * ls.length - 2)) hji
      omega
    · rw [hls, map_range]
      have hk : (List.range ls.length).map (fun i => 2 ^ (m - (rd (down (lvl ls) m (2 * ls.length - 2) (List.replicate cs.length 0)) (ls.getD i default).s).toNat)) = (List.range ls.length).map (fun i => 2 ^ (m - (tk ls m (2 * ls.length - 2)).countP (fun a => decide (i < a)))) := by
        apply List.map_congr_left
        intro i hi
        have hi := List.mem_range.1 hi
        rw [List.getD_eq_getElem?_getD, List.getElem?_eq_getElem hi, Option.getD_some, key i hi, Int.toNat_natCast]
      rw [hk]
      have h1 := range_add (fun i => bsum i (tk ls m (2 * ls.length - 2))) (fun i => 2 ^ (m - (tk ls m (2 * ls.length - 2)).countP (fun a => decide (i < a)))) (2 ^ m) ls.length (fun i hi => by
        have := bsum_count i _ (tk_pw hL m (2 * ls.length - 2))
        rw [tk_length] at this
        exact this)
      rw [bsum_total ls.length _ (mem_tk ls _ (fun k t => lf_le hL k t) _ _)] at h1
      have h2 := tk_vsum hL m (2 * ls.length - 2) (.inr (by omega))
      rw [if_neg (by omega)] at h2
      obtain ⟨n, hn⟩ : ∃ n, ls.length = n + 1 := ⟨ls.length - 1, by omega⟩
      rw [show 2 * ls.length - 2 = n * 2 by omega] at h1 h2 ⊢
      rw [hn, Nat.add_mul, Nat.one_mul] at h1
      rw [hn]
      rw [Nat.mul_right_comm] at h2
      omega
    · obtain ⟨k, rfl⟩ : ∃ k, m = k + 1 := ⟨m - 1, by omega⟩
      rw [hls] at hf hk ⊢
      rw [dot_down hL cs hw k _ _ (by simp), dot_zeros, Int.zero_add]
      exact other_cost hL (k + 1) (by omega) (by omega) f hf hk
end Go.Proofs.Ytdmhhgkplcaejaa
