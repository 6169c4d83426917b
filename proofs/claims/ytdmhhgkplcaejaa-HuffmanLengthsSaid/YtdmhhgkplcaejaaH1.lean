/- huffman's items sorted by weight: the closures, and slices.SortStableFunc at a row of the call's own. -/
import Derived.Test.YtdmhhgkplcaejaaHk
namespace Go.Proofs.Ytdmhhgkplcaejaa
open Go.Shelf Go.RowKit Go.Lib Go.Sort Go.Proofs.YtdmhhgkplcaejaaW.PrintWords

/-- Items whose weights are not too great. -/
abbrev ItB := {x : It // 0 ≤ x.w ∧ x.w ≤ 1099511627776}
instance : Inhabited ItB := ⟨⟨⟨0, 0, 0, 0⟩, by decide⟩⟩
def ltW (x y : It) : Bool := decide (x.w < y.w)

set_option maxHeartbeats 1000000 in
theorem cmp42 (x y : It) (hx : 0 ≤ x.w ∧ x.w ≤ 1099511627776) (hy : 0 ≤ y.w ∧ y.w ≤ 1099511627776) (W : World) : Calls Try.prog 42 #[.agg (encI x).toArray, .agg (encI y).toArray] W fun e w' => e = .returned (.int .i64 (x.w - y.w)) ∧ ∃ q os', w' = grow (W.drewN q) os' := by
  obtain ⟨hx1, hx2⟩ := hx
  obtain ⟨hy1, hy2⟩ := hy
  obtain ⟨xw, xs, xl, xr⟩ := x
  obtain ⟨yw, ys, yl, yr⟩ := y
  simp only at hx1 hx2 hy1 hy2
  unfold encI
  go_enter Try.func42, Try.ntmps42
  go_wp2
  go_ret
  exact ⟨rfl, 0, _, by rw [alloc_eq_grow, alloc_eq_grow, grow_grow]; rfl⟩

set_option maxHeartbeats 1000000 in
theorem cmp44 (x y : It) (hx : 0 ≤ x.w ∧ x.w ≤ 1099511627776) (hy : 0 ≤ y.w ∧ y.w ≤ 1099511627776) (W : World) : Calls Try.prog 44 #[.agg (encI x).toArray, .agg (encI y).toArray] W fun e w' => e = .returned (.int .i64 (x.w - y.w)) ∧ ∃ q os', w' = grow (W.drewN q) os' := by
  obtain ⟨hx1, hx2⟩ := hx
  obtain ⟨hy1, hy2⟩ := hy
  obtain ⟨xw, xs, xl, xr⟩ := x
  obtain ⟨yw, ys, yl, yr⟩ := y
  simp only at hx1 hx2 hy1 hy2
  unfold encI
  go_enter Try.func44, Try.ntmps44
  go_wp2
  go_ret
  exact ⟨rfl, 0, _, by rw [alloc_eq_grow, alloc_eq_grow, grow_grow]; rfl⟩

theorem swoW : SWO (ltOf fun x y : ItB => x.1.w - y.1.w) where
  irrefl x := by unfold ltOf; simp
  trans x y z h1 h2 := by unfold ltOf at *; simp at *; omega
  ntrans x y z h1 h2 := by unfold ltOf at *; simp at *; omega

/-- slices.SortStableFunc at a row of items of the call's own. -/
theorem sort_items (g : Nat) (eg : ∀ args w, (callFunc g args).run Try.prog w = .ok (.enter g args) w)
    (hg : ∀ (x y : It) (_ : 0 ≤ x.w ∧ x.w ≤ 1099511627776) (_ : 0 ≤ y.w ∧ y.w ≤ 1099511627776) (W : World), Calls Try.prog g #[.agg (encI x).toArray, .agg (encI y).toArray] W fun e w' => e = .returned (.int .i64 (x.w - y.w)) ∧ ∃ q os', w' = grow (W.drewN q) os')
    {base : Nat} {ok : Nat → Prop} {w : World} {v : Value} {xs : List It} (h : kI.R 48 w base ok v xs) (hb : ∀ x ∈ xs, 0 ≤ x.w ∧ x.w ≤ 1099511627776) (hn : xs.length < 1000000) :
    Calls Try.prog 41 #[v, .func (.func g) #[] #[]] w fun e w' => e = .returned (.tuple #[]) ∧ kI.R 48 w' base ok v (isort ltW xs) ∧ w.grownBy w' v.ownBlock := by
  have ho := flat_own encI_len encI_one (by decide) h
  rcases Nat.eq_zero_or_pos xs.length with h0 | h0
  · obtain rfl := List.eq_nil_of_length_eq_zero h0
    obtain ⟨A, c, hv⟩ := own_slice ho
    have hv' : v = .slice A 0 c := hv
    subst hv'
    refine (sort_item_none A c _ w).mono ?_
    rintro e w' ⟨rfl, rfl⟩
    exact ⟨rfl, h, rfl, rfl, rfl, Nat.le_refl _, fun _ _ _ => rfl⟩
  · obtain ⟨ds, rfl⟩ : ∃ ds : List ItB, xs = ds.map Subtype.val := ⟨xs.attach.map fun x => ⟨x.1, hb x.1 x.2⟩, by simp⟩
    have hfm : ∀ l : List ItB, l.flatMap (fun x : ItB => encI x.1) = (l.map Subtype.val).flatMap encI := fun l => by rw [List.flatMap_map]
    have h' : (flatKd (fun x : ItB => encI x.1) 4 (fun x => encI_len x.1) (fun x => encI_one x.1)).R 48 w base ok v ds := by
      refine own_flat _ _ ?_ h.1
      rw [hfm]
      simpa using ho
    obtain ⟨gb, cap, rfl, hR, hback⟩ := flat_sort (fun x : ItB => encI_len x.1) (fun x : ItB => encI_one x.1) (by decide) h' (by simpa using h0)
    have hlen : ds.length < 1000000 := by simpa using hn
    have hcmp : CmpLays Try.prog g #[] (fun x : ItB => encI x.1) 4 (fun x y => x.1.w - y.1.w) gb 0 ds.toArray.size w := fun m os dk hs x y => hg x.1 y.1 x.2 y.2 _
    have hc := sort_item (fun x : ItB => encI x.1) (fun x y => x.1.w - y.1.w) swoW g #[] gb 0 cap ds.toArray w eg hcmp hR (by simp; omega)
    have hsz : ds.toArray.size = ds.length := by simp
    rw [hsz] at hc
    refine hc.mono ?_
    rintro e w' ⟨rfl, hS⟩
    obtain ⟨k1, k2⟩ := hback _ w' (by simp [isort_length]) hS
    have ho2 := flat_own _ _ (by decide) k1
    rw [hfm] at ho2
    have him : (isort (ltOf fun x y : ItB => x.1.w - y.1.w) ds).map Subtype.val = isort ltW (ds.map Subtype.val) := by
      rw [← isort_map Subtype.val ltW ds]
      congr 1
      congr 1
      funext x y
      unfold ltOf ltW
      congr 1
      rw [eq_iff_iff]
      show x.1.w - y.1.w < 0 ↔ x.1.w < y.1.w
      omega
    simp only [List.toList_toArray] at ho2
    rw [him] at ho2
    refine ⟨rfl, own_flat encI_len encI_one ?_ h.1, k2⟩
    have e2 : (isort (ltOf fun x y : ItB => x.1.w - y.1.w) ds).length = (isort ltW (ds.map Subtype.val)).length := by simp [isort_length]
    rw [← e2]
    exact ho2

end Go.Proofs.Ytdmhhgkplcaejaa
