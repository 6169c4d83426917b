/- huffman.next: the leaves and the packages of a list, stably sorted by weight. -/
import Derived.Test.YtdmhhgkplcaejaaH2
import Derived.Shelf.SlicesE.Clone
import Derived.Deep.RegionLaw
namespace Go.Proofs.Ytdmhhgkplcaejaa
open Go.Shelf Go.RowKit Go.Lib Go.Sort Go.Proofs.YtdmhhgkplcaejaaW.PrintWords

def renClone : Ren := ⟨fun | 41 => 43 | n => n, fun | 22 => 45 | 23 => 48 | n => n, fun n => n⟩
theorem layClone : SlLaysE0.n41 Try.prog renClone where
  mixed := by kernel_rfl
  f41 := ⟨Try.f43.name, by kernel_rfl, Try.func43.trans (by kernel_rfl)⟩
  t4 := Try.underlying4
  a4 := Try.isAgg4
  z4 := Try.sizeOf4
  v4 := Try.zeroValue4
  t22 := Try.underlying45
  a22 := Try.isAgg45
  z22 := Try.sizeOf45
  v22 := Try.zeroValue45

/-- The shape of a row of items of the call's own that holds something. -/
theorem kI_form {base : Nat} {ok : Nat → Prop} {w : World} {v : Value} {xs : List It} (h : kI.R 48 w base ok v xs) (h0 : 0 < xs.length) :
    ∃ g cap, v = .slice (some ⟨g, 0, none⟩) xs.length cap ∧ xs.length ≤ cap ∧ base ≤ g ∧ g < w.heap.size ∧ ∀ k, k < xs.length → w.cell? ⟨g, k * 4, none⟩ = some (.int .i64 (xs.getD k default).w) ∧ w.cell? ⟨g, k * 4 + 1, none⟩ = some (.int .i64 (xs.getD k default).s) ∧ w.cell? ⟨g, k * 4 + 2, none⟩ = some (.int .i64 (xs.getD k default).l) ∧ w.cell? ⟨g, k * 4 + 3, none⟩ = some (.int .i64 (xs.getD k default).r) := by
  have ho := flat_own encI_len encI_one (by decide) h
  rcases ho.2 with ⟨_, hz⟩ | ⟨g, cap, cur, rfl, hg, hh, hn, hm, hc, ht⟩
  · omega
  refine ⟨g, cap, rfl, hn, hg, (Array.getElem?_eq_some_iff.1 hh).1, fun k hk => ?_⟩
  have key : ∀ f, f < 4 → w.cell? ⟨g, k * 4 + f, none⟩ = some (encI (xs.getD k default))[f]! := fun f hf => by
    rw [ho.cellAt (k * 4 + f) (by omega), flatMap_get encI_len (by decide) xs _ (by omega)]
    rw [show (k * 4 + f) / 4 = k by omega, show (k * 4 + f) % 4 = f by omega, List.getD_eq_getElem?_getD]
  exact ⟨key 0 (by decide), key 1 (by decide), key 2 (by decide), key 3 (by decide)⟩

theorem clone_calls {base : Nat} {ok : Nat → Prop} {w : World} {v : Value} {xs : List It} (h : kI.R 48 w base ok v xs) (h0 : 0 < xs.length) (hn : xs.length < 1000000) :
    Calls Try.prog 43 #[v] w fun e w' => ∃ v', e = .returned v' ∧ kI.R 48 w' w.heap.size (fun _ => True) v' xs ∧ Below w.heap.size w w' := by
  have ho := flat_own encI_len encI_one (by decide) h
  rcases ho.2 with ⟨_, hz⟩ | ⟨g, cap, cur, rfl, hg, hh, hcn, hm, hc, ht⟩
  · omega
  obtain ⟨i0, hi, hzz⟩ := Option.map_eq_some_iff.1 info48
  simp only [Prod.mk.injEq] at hzz
  obtain ⟨hz0, hz1, hz2⟩ := hzz
  have hlen : (xs.flatMap encI).length = xs.length * 4 := flatMap_len encI_len xs
  have hcl := AnyE.slices_Clone layClone i0 _ 4 32 hi hz0 hz1 hz2 rfl (by decide) Try.sizeOf48 g 0 xs.length cap (xs.flatMap encI) w hlen (by unfold maxLen; omega) (by omega) (fun j u hu => by
    rw [Nat.zero_add, ho.cellAt j (by have := (List.getElem?_eq_some_iff.1 hu).1; omega)]; exact hu) (fun u hu => by
    obtain ⟨x, _, hx⟩ := List.mem_flatMap.1 hu
    exact encI_one x u hx)
  refine hcl.mono ?_
  rintro e w' ⟨v', rfl, hown, _, hb⟩
  exact ⟨v', rfl, own_flat encI_len encI_one hown (fun _ _ => trivial), hb⟩

/-- The first j packages of a list. -/
def packs (bs : List It) (j : Nat) : List It := (List.range j).map fun t => ⟨(bs.getD (2 * t) default).w + (bs.getD (2 * t + 1) default).w, -1, (2 * t : Nat), (2 * t + 1 : Nat)⟩
theorem packs_succ (bs : List It) (j : Nat) : packs bs (j + 1) = packs bs j ++ [⟨(bs.getD (2 * j) default).w + (bs.getD (2 * j + 1) default).w, -1, (2 * j : Nat), (2 * j + 1 : Nat)⟩] := by
  unfold packs
  rw [List.range_succ, List.map_append]
  rfl
theorem packs_length (bs : List It) (j : Nat) : (packs bs j).length = j := by simp [packs]
theorem packs_mem (bs : List It) (j : Nat) (hj : 2 * j ≤ bs.length) (M : Int) (hb : ∀ x ∈ bs, 0 ≤ x.w ∧ x.w ≤ M) : ∀ x ∈ packs bs j, 0 ≤ x.w ∧ x.w ≤ 2 * M := by
  intro x hx
  unfold packs at hx
  obtain ⟨t, ht, rfl⟩ := List.mem_map.1 hx
  rw [List.mem_range] at ht
  have g : ∀ i, i < bs.length → 0 ≤ (bs.getD i default).w ∧ (bs.getD i default).w ≤ M := fun i hi => by
    rw [List.getD_eq_getElem?_getD, List.getElem?_eq_getElem hi]
    exact hb _ (List.getElem_mem hi)
  have a := g (2 * t) (by omega)
  have b := g (2 * t + 1) (by omega)
  simp only
  omega

/-- huffman.next. -/
def nextOf (ls bs : List It) : List It := isort ltW (ls ++ packs bs (bs.length / 2))

set_option maxHeartbeats 4000000 in
set_option maxRecDepth 100000 in
theorem next_calls {b1 b2 : Nat} {ok1 ok2 : Nat → Prop} {v1 v2 : Value} {ls bs : List It} {w : World} (h1 : kI.R 48 w b1 ok1 v1 ls) (h2 : kI.R 48 w b2 ok2 v2 bs) (hl0 : 0 < ls.length) (hb0 : 0 < bs.length) (hln : ls.length < 100000) (hbn : bs.length < 100000)
    (hlb : ∀ x ∈ ls, 0 ≤ x.w ∧ x.w ≤ 274877906944) (hbb : ∀ x ∈ bs, 0 ≤ x.w ∧ x.w ≤ 274877906944) :
    Calls Try.prog 25 #[v1, v2] w fun e w' => ∃ v, e = .returned v ∧ kI.R 48 w' w.heap.size (fun _ => True) v (nextOf ls bs) ∧ Below w.heap.size w w' := by
  have hclone := clone_calls h1 hl0 (by omega)
  obtain ⟨g, cap, rfl, hcap, hg1, hg2, hcells⟩ := kI_form h2 hb0
  obtain ⟨A, c, hv1⟩ := own_slice (flat_own encI_len encI_one (by decide) h1)
  subst hv1
  have HCE := Aside0.mk hcells
  have HLB := Aside0.mk hlb
  have HBB := Aside0.mk hbb
  clear h1 h2 hcells hlb hbb
  have hu48 := Try.underlying48
  have e41 : ∀ args w, (callFunc 41 args).run Try.prog w = .ok (.enter 41 args) w := enters_of Try.func41 (by kernel_rfl) rfl
  have e44 : ∀ args w, (callFunc 44 args).run Try.prog w = .ok (.enter 44 args) w := enters_of Try.func44 (by kernel_rfl) rfl
  go_enter Try.func25, Try.ntmps25
  go_wp2_with (go_at_call 43; refine hclone.mono ?_; rintro e w0 ⟨v0, rfl, ho0, hb0'⟩)
  have HO0 := Aside0.mk ho0
  have HB0 := Aside0.mk hb0'
  clear ho0 hb0'
  go_loopg [5, 6] (bs.length / 2) (fun kx s5 s6 w' => ∃ (j : Nat), s6 = .int .i64 ((2 * j : Nat) : Int) ∧ j ≤ bs.length / 2 ∧ bs.length / 2 - j ≤ kx ∧ Aside0 (kI.R 48 w' w.heap.size (fun _ => True) s5 (ls ++ packs bs j)) ∧ Aside0 (Below w.heap.size w w'))
  case atStart => exact ⟨0, rfl, by omega, by omega, ⟨by simpa [packs] using HO0.out⟩, HB0⟩
  case round =>
    clear HO0 HB0
    obtain ⟨j, rfl, hj, hkx, HO, HB⟩ := hrel
    have ej : ((2 * j : Nat) : Int) = 2 * (j : Int) := by omega
    have hpl : (ls ++ packs bs j).length = ls.length + j := by rw [List.length_append, packs_length]
    by_cases hlt : 2 * j + 1 < bs.length
    · have hltz : 2 * (j : Int) + 1 < (bs.length : Int) := by omega
      have wx : 0 ≤ (bs.getD (2 * j) default).w ∧ (bs.getD (2 * j) default).w ≤ 274877906944 := by
        rw [List.getD_eq_getElem?_getD, List.getElem?_eq_getElem (show 2 * j < bs.length by omega)]
        exact HBB.out _ (List.getElem_mem _)
      have wy : 0 ≤ (bs.getD (2 * j + 1) default).w ∧ (bs.getD (2 * j + 1) default).w ≤ 274877906944 := by
        rw [List.getD_eq_getElem?_getD, List.getElem?_eq_getElem (show 2 * j + 1 < bs.length by omega)]
        exact HBB.out _ (List.getElem_mem _)
      have c1 := (HCE.out (2 * j) (by omega)).1
      have c2 := (HCE.out (2 * j + 1) (by omega)).1
      replace c1 := (HB.out.cell (World.block_lt_of_cell? w _ c1)).trans c1
      replace c2 := (HB.out.cell (World.block_lt_of_cell? w _ c2)).trans c2
      have hps : Hid (packs bs (j + 1) = packs bs j ++ [⟨(bs.getD (2 * j) default).w + (bs.getD (2 * j + 1) default).w, -1, (2 * j : Nat), (2 * j + 1 : Nat)⟩]) := packs_succ bs j
      generalize (bs.getD (2 * j) default).w = x at c1 hps wx
      generalize (bs.getD (2 * j + 1) default).w = y at c2 hps wy
      obtain ⟨wx0, wx1⟩ := wx
      obtain ⟨wy0, wy1⟩ := wy
      have q0 : (0 : Int) ≤ 2 * (j : Int) := by omega
      have q1 : (2 * (j : Int)).toNat = 2 * j := by omega
      have q2 : 2 * (j : Int) < (bs.length : Int) := by omega
      have q3 : (0 : Int) ≤ 2 * (j : Int) + 1 := by omega
      have q4 : (2 * (j : Int) + 1).toNat = 2 * j + 1 := by omega
      have q5 : IntKind.i64.wrap (2 * (j : Int) + 1) = 2 * (j : Int) + 1 := by rw [IntKind.wrap_i64]; omega
      have q6 : IntKind.i64.wrap (x + y) = x + y := by rw [IntKind.wrap_i64]; omega
      go_upto_region 5 with (fail)
      have HO2 : Aside0 (kI.R 48 wr.drew w.heap.size (fun _ => True) u5 (ls ++ packs bs j)) := ⟨HO.out⟩
      have HB2 : Aside0 (Below w.heap.size w wr.drew) := ⟨below_drew HB.out⟩
      clear HO HB
      go_region_law (refine Kd.R_append_step kI (w0 := w) (W := wr.drew) w.heap.size ?aW (.tmp 16) (.tmp 33) 45 48 (.agg #[.int .i64 0, .int .i64 0, .int .i64 0, .int .i64 0]) 32 ?aOp Try.underlying45 info48 rfl (by decide) (by omega) u5 (ls ++ packs bs j) ⟨x + y, -1, (2 * j : Nat), (2 * j + 1 : Nat)⟩ [.int .i64 (x + y), .int .i64 (-1), .int .i64 (2 * (j : Int)), .int .i64 (2 * (j : Int) + 1)] (fun _ => True) (fun _ => False) ?aV ?aX ?aP (fun _ hk => hk.elim) ?aF ?aO ?aB ?aS ?aL ?_; (case aOp => rfl); (case aW => rfl); (case aV => rfl); (case aX => rfl); (case aP => show _ = encI _; simp [encI]); (case aF => exact fun _ _ => trivial); (case aO => exact HO2.out); (case aB => exact HB2.out); (case aS => exact HB2.out.size); (case aL => omega); intro v1 w1 ho hb hg hat; rw [List.append_assoc, ← hps.out] at ho; clear hg hat)
      all_goals
        go_wp2
        go_roundg (bs.length / 2 - (j + 1))
        case measure => omega
        case rel => exact ⟨j + 1, by first | go_num | (congr 1; omega), by omega, Nat.le_refl _, ⟨ho⟩, ⟨hb⟩⟩
    · have hltz : ¬ 2 * (j : Int) + 1 < (bs.length : Int) := by omega
      obtain rfl : j = bs.length / 2 := by omega
      have hsort := sort_items 44 e44 cmp44 HO.out (fun x hx => by
        rcases List.mem_append.1 hx with hx | hx
        · have := HLB.out x hx; omega
        · have := packs_mem bs _ (by omega) 274877906944 HBB.out x hx; omega) (by omega)
      have hbase := fun k hk => own_base (flat_own encI_len encI_one (by decide) HO.out) k hk
      have HNX : Hid (nextOf ls bs = isort ltW (ls ++ packs bs (bs.length / 2))) := rfl
      clear HO hkx
      have hjb : bs.length / 2 < 100000 := by omega
      generalize bs.length / 2 = j at hsort hbase ej hltz HNX hjb ⊢
      go_wp2_with (go_at_call 41; refine hsort.mono ?_; rintro e w1 ⟨rfl, ho, hg⟩)
      go_ret
      exact ⟨_, rfl, by rw [HNX.out]; exact ho, pw_below_grown HB.out _ HB.out.size hg hbase⟩
end Go.Proofs.Ytdmhhgkplcaejaa
