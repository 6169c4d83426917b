/- The reference's Lengths. -/
import Derived.Test.YtdmhhgkplcaejaaQ3
import Derived.Test.YtdmhhgkplcaejaaE9
import Derived.Test.YtdmhhgkplcaejaaH4
import Derived.BigRegion
import Derived.OwnWalk
namespace Go.Proofs.Ytdmhhgkplcaejaa
open Go.Shelf Go.RowKit Go.Lib Go.Sort Go.Proofs.YtdmhhgkplcaejaaW.PrintWords

set_option maxRecDepth 100000 in
theorem refLengths_bad (A : Option Addr) (c : Nat) (cs : List Int) (limit : Int) (w : World) (hr : Kd.C (Kd.int .i64) w A cs.length cs) (hE : checkOf cs limit ≠ 0) :
    Calls Try.prog 13 #[.slice A cs.length c, .int .i64 limit] w fun e w' => e = .returned (.tuple #[.slice none 0 0, .int .i64 (checkOf cs limit)]) ∧ w = w' := by
  have hck := refCheck_calls A c cs limit w hr hr.2.1
  have hne : (checkOf cs limit != 0) = true := bne_iff_ne.2 hE
  clear hr
  generalize checkOf cs limit = er at *
  go_enter Try.func13, Try.ntmps13
  go_wp2_with (first | (go_at_call 16; refine hck.mono ?_; rintro e w' ⟨rfl, rfl⟩))
  go_ret2
  exact ⟨rfl, rfl⟩

/-- The sorted leaves of the first k symbols. -/
def lv (cs : List Int) (k : Nat) : List It := isort ltW (present 0 (cs.take k))
theorem lv_succ {cs : List Int} {k : Nat} (hk : k < cs.length) : lv cs (k + 1) = if 0 < rd cs k then ins1 ltW ⟨rd cs k, (k : Nat), 0, 0⟩ (lv cs k) else lv cs k := by
  unfold lv
  rw [take_snoc_rd cs k hk, present_snoc, List.length_take, Nat.min_eq_left (by omega), Nat.zero_add]
  split
  · rw [isort_append]; rfl
  · rw [List.append_nil]
theorem lv_all (cs : List Int) : lv cs cs.length = leavesOf cs := by unfold lv leavesOf; rw [List.take_length]
theorem lv_len (cs : List Int) (k : Nat) : (lv cs k).length ≤ k := by
  unfold lv
  rw [isort_length]
  have := present_length (cs.take k) 0
  rw [List.length_take] at this
  omega
/-- An item goes in behind those that weigh no more. -/
theorem ins1_at (lt : It → It → Bool) (x : It) (l : List It) (k : Nat) (hk : k ≤ l.length) (h1 : ∀ j, j < k → lt x (l.getD j default) = false) (h2 : k < l.length → lt x (l.getD k default) = true) : ins1 lt x l = l.take k ++ x :: l.drop k := by
  conv => lhs; rw [← List.take_append_drop k l]
  refine ins1_mid lt x _ _ (fun y hy => ?_) ?_
  · obtain ⟨j, hj, he⟩ := List.getElem_of_mem hy
    rw [List.length_take] at hj
    rw [List.getElem_take] at he
    have := h1 j (by omega)
    rw [List.getD_eq_getElem?_getD, List.getElem?_eq_getElem (by omega), Option.getD_some, he] at this
    exact this
  · rcases Nat.lt_or_ge k l.length with h | h
    · right
      refine ⟨l[k], l.drop (k + 1), List.drop_eq_getElem_cons h, ?_⟩
      have := h2 h
      rw [List.getD_eq_getElem?_getD, List.getElem?_eq_getElem h, Option.getD_some] at this
      exact this
    · exact .inl (List.drop_of_length_le h)

theorem F2.drop {α β : Type} {P : α → β → Prop} : ∀ {xs : List α} {ys : List β} (k : Nat), F2 P xs ys → F2 P (xs.drop k) (ys.drop k)
  | [], [], k, _ => by simp [F2]
  | _ :: _, _ :: _, 0, h => h
  | _ :: _, _ :: _, k + 1, h => F2.drop k h.2
theorem lvl_weights {cs : List Int} {m : Nat} (hb : ∀ j : Nat, j < cs.length → 0 ≤ rd cs j ∧ rd cs j ≤ 4096) (hm : (m : Int) ≤ 15) : ∀ i, i < 15 → ∀ x ∈ lvl (leavesOf cs) i, 0 < x.w ∧ x.w ≤ 274877906944 := by
  intro i hi x hx
  have h1 := leavesOf_mem (cs := cs) (fun c hc => by
    obtain ⟨j, hj, he⟩ := List.getElem_of_mem hc
    have := hb j hj
    rw [rd_nat _ _ hj, he] at this
    exact this.2)
  have h2 := lvl_ok (n := cs.length) (M := 4096) (by omega) (fun y hy => (h1 y hy).1) i x hx
  have h3 : (4096 : Int) * 2 ^ i ≤ 4096 * 2 ^ 15 := by
    have := Nat.pow_le_pow_right (n := 2) (by decide) (show i ≤ 15 by omega)
    have : (2 : Int) ^ i ≤ 2 ^ 15 := by exact_mod_cast this
    omega
  have h4 : (4096 : Int) * 2 ^ 15 = 134217728 := by decide
  exact ⟨h2.2.1, by have := h2.2.2; omega⟩
theorem getD_mem {l : List It} {k : Nat} (h : k < l.length) : l.getD k default ∈ l := by
  rw [List.getD_eq_getElem?_getD, List.getElem?_eq_getElem h]
  exact List.getElem_mem h
theorem made_R (W : World) (n : Nat) (hn : n ≤ 1024) : (Kd.int .i64).R 3 (W.alloc (.cells (madeCells #[.int .i64 0] n) 3)) W.heap.size (fun _ => True) (.slice (some ⟨W.heap.size, 0, none⟩) n n) (List.replicate n 0) :=
  Kd.R_of_own (by
    have h := own_made_of (enc := Value.int .i64) (d := (0 : Int)) W W.heap.size 3 n (Nat.le_refl _) (by omega)
    rw [List.length_replicate]
    exact h) (fun _ _ => trivial)
theorem made_fst (W : World) (b : Array Value) (n : Nat) (hn : n ≤ 1024) :
    ((W.alloc (.cells (madeCells #[.int .i64 0] n) 3)).alloc (.cells b 53)).drew.heap[W.heap.size + 1]? = some (.cells b 53 (0, 0)) ∧ (Kd.int .i64).R 3 ((W.alloc (.cells (madeCells #[.int .i64 0] n) 3)).alloc (.cells b 53)).drew W.heap.size (fun _ => True) (.slice (some ⟨W.heap.size, 0, none⟩) n n) (List.replicate n 0) ∧ Below W.heap.size W ((W.alloc (.cells (madeCells #[.int .i64 0] n) 3)).alloc (.cells b 53)).drew := by
  refine ⟨?_, Kd.R_below (made_R W n hn) (below_alloc (Below.refl _ _) _).drew, (below_alloc (below_alloc (Below.refl _ _) _) _).drew⟩
  have h := blk_new (W.alloc (.cells (madeCells #[.int .i64 0] n) 3)) (.cells b 53)
  rw [World.size_alloc] at h
  exact h
theorem made_snd (W : World) (b : Array Value) (n : Nat) (hn : n ≤ 1024) :
    ((W.alloc (.cells b 53)).alloc (.cells (madeCells #[.int .i64 0] n) 3)).drew.heap[W.heap.size]? = some (.cells b 53 (0, 0)) ∧ (Kd.int .i64).R 3 ((W.alloc (.cells b 53)).alloc (.cells (madeCells #[.int .i64 0] n) 3)).drew W.heap.size (fun _ => True) (.slice (some ⟨W.heap.size + 1, 0, none⟩) n n) (List.replicate n 0) ∧ Below W.heap.size W ((W.alloc (.cells b 53)).alloc (.cells (madeCells #[.int .i64 0] n) 3)).drew := by
  have h := made_R (W.alloc (.cells b 53)) n hn
  rw [World.size_alloc] at h
  exact ⟨blk_below (blk_new W _) (below_alloc (Below.refl _ _) _).drew, Kd.R_below (Kd.R_lower h (by omega)) (Below.refl _ _).drew, (below_alloc (below_alloc (Below.refl _ _) _) _).drew⟩
/-- The first s of n values laid. -/
def fillV (n : Nat) (v : Nat → Int) : Nat → List Int
  | 0 => List.replicate n 0
  | s + 1 => (fillV n v s).set s (v s)
theorem fillV_length (n : Nat) (v : Nat → Int) : ∀ s, (fillV n v s).length = n
  | 0 => by simp [fillV]
  | s + 1 => by rw [fillV, List.length_set, fillV_length n v s]
theorem fillV_rd (n : Nat) (v : Nat → Int) (j : Nat) (hj : j < n) : ∀ s, s ≤ n → j < s → rd (fillV n v s) j = v j
  | 0, _, h => by omega
  | s + 1, hs, h => by
    rw [fillV, rd_set _ _ _ _ (by omega), fillV_length]
    by_cases e : j = s
    · subst e; rw [if_pos ⟨hj, rfl⟩]
    · rw [if_neg (fun h' => e (by omega))]
      exact fillV_rd n v j hj s (by omega) (by omega)
theorem pow_pos2 (n : Nat) : (0 : Int) < 2 ^ n := by
  have : 0 < 2 ^ n := Nat.two_pow_pos n
  exact_mod_cast this
theorem occ_bound (ls : List It) : ∀ k x s, 0 ≤ occ ls k x s ∧ occ ls k x s ≤ 2 ^ k
  | 0, x, s => by rw [occ]; split <;> omega
  | k + 1, x, s => by
    have h2 : (2 : Int) ^ (k + 1) = 2 * 2 ^ k := by rw [Int.pow_succ]; omega
    have h1 : (1 : Int) ≤ 2 ^ k := by have := pow_pos2 k; omega
    rw [occ]
    split
    · split <;> omega
    · have a := occ_bound ls k ((lvl ls k).getD x.l.toNat default) s
      have b := occ_bound ls k ((lvl ls k).getD x.r.toNat default) s
      omega
theorem srtX_of {P : X3 → It → Prop} (hw : ∀ x y, P x y → x.w = y.w) : ∀ {xs : List X3} {ys : List It}, F2 P xs ys → Srt ys → SrtX xs := by
  intro xs ys h hs
  have hl := h.len
  unfold SrtX
  rw [List.pairwise_iff_getElem]
  intro i j hi hj hij
  have h1 := List.pairwise_iff_getElem.1 hs i j (by omega) (by omega) hij
  have a := hw _ _ (h.get i hi (by omega))
  have b := hw _ _ (h.get j hj (by omega))
  unfold ltX
  unfold ltW at h1
  simp only [decide_eq_false_iff_not] at h1 ⊢
  omega
theorem Lst.cap {gl base n k : Nat} {ls its : List It} {A : Option Addr} {m c : Nat} {w : World} (h : Lst gl base n ls k (.slice A m c) its w) : its.length ≤ c := by
  obtain ⟨xs, h1, h2⟩ := h
  obtain ⟨A', c', e, hc, _⟩ := Kd.R_reads h1
  injection e with e1 e2 e3
  rw [← h2.len]
  omega
theorem lengthsOf_length (cs : List Int) (m : Nat) : (lengthsOf cs m).length = cs.length := by
  unfold lengthsOf
  split
  · have : ∀ (l : List It) (acc : List Int), (l.foldl (fun acc x => acc.set x.s.toNat 1) acc).length = acc.length := by
      intro l
      induction l with
      | nil => intro acc; rfl
      | cons x l ih => intro acc; rw [List.foldl_cons, ih, List.length_set]
    rw [this, List.length_replicate]
  · rw [down_len, List.length_replicate]
theorem sumI_take (l : List It) (f : It → Int) (q : Nat) (h : q < l.length) : sumI (l.take (q + 1)) f = sumI (l.take q) f + f (l.getD q default) := by
  rw [List.take_succ_eq_append_getElem h, sumI_append, List.getD_eq_getElem?_getD, List.getElem?_eq_getElem h]
  simp [sumI]
theorem sumI_bound (l : List It) (f : It → Int) (B : Int) (hf : ∀ x, 0 ≤ f x ∧ f x ≤ B) : 0 ≤ sumI l f ∧ sumI l f ≤ B * l.length := by
  induction l with
  | nil => simp [sumI]
  | cons x l ih =>
    have h := hf x
    rw [sumI_cons, List.length_cons, show ((l.length + 1 : Nat) : Int) = (l.length : Int) + 1 by omega, Int.mul_add, Int.mul_one]
    omega
/-- A row of one item just made. -/
theorem one_C (w : World) (x : X3) : kX.C (w.alloc (Obj.cells #[.int .i64 x.w, .bool x.lf, .slice (some ⟨x.g, 0, none⟩) x.n x.c] 53)) (some ⟨w.heap.size, 0, none⟩) 1 [x] := by
  have h := World.ownsRow_lit (base := w.heap.size) (e := 53) (size := 3) w #[.int .i64 x.w, .bool x.lf, .slice (some ⟨x.g, 0, none⟩) x.n x.c] 1 (Nat.le_refl _) (by decide) (by simp)
  have h2 : kX.R 53 (w.alloc (Obj.cells #[.int .i64 x.w, .bool x.lf, .slice (some ⟨x.g, 0, none⟩) x.n x.c] 53)) w.heap.size (fun _ => True) (.slice (some ⟨w.heap.size, 0, none⟩) [x].length 1) [x] := own_flat encX_len encX_one h (fun _ _ => trivial)
  exact (Kd.R_reads' h2).2.2
theorem below_al {w W : World} (h : Below w.heap.size w.drew W) (o : Obj) : Below w.heap.size w.drew (W.alloc o) := by
  show Below w.drew.heap.size w.drew _
  exact below_alloc h o
theorem below_dd (w : World) (o : Obj) : Below w.heap.size w.drew (w.alloc o).drew := by
  show Below w.drew.heap.size w.drew (w.drew.alloc o)
  exact below_alloc (Below.refl _ _) o
theorem grown_below {w w1 : World} (h : w.grownBy w1 none) : Below w.heap.size w w1 := ⟨h.os, h.tape, h.output, h.size, fun i hi => h.block i hi (by simp)⟩

set_option maxHeartbeats 8000000 in
set_option maxRecDepth 100000 in
theorem refLengths_good (A : Option Addr) (c : Nat) (cs : List Int) (m : Nat) (w : World) (hr : Kd.C (Kd.int .i64) w A cs.length cs) (hE : checkOf cs m = 0) (hn0 : 0 < cs.length) :
    Calls Try.prog 13 #[.slice A cs.length c, .int .i64 m] w fun e w' => ∃ v, e = .returned (.tuple #[v, .int .i64 0]) ∧ (Kd.int .i64).R 3 w' w.heap.size (fun _ => True) v (lengthsOf cs m) ∧ Below w.heap.size w w' := by
  have hck := refCheck_calls A c cs m w hr hr.2.1
  rw [hE] at hck
  obtain ⟨hl1, hl2, hcl, hcb, hnp⟩ := check_ok hE
  rw [Int.toNat_natCast, ← leavesOf_length] at hnp
  have HCB : Aside0 (∀ j : Nat, j < cs.length → 0 ≤ rd cs j ∧ rd cs j ≤ 4096) := ⟨fun j hj => hcb _ (rd_mem hj)⟩
  have HC := Aside0.mk hr
  clear hr hE hcb
  go_enter Try.func13, Try.ntmps13
  go_wp2_with (first | (go_at_call 16; refine hck.mono ?_; rintro e w' ⟨rfl, rfl⟩) | ((with_reducible refine gate_dst (N := 30) rfl ?_); refine Kd.R_make (Kd.int .i64) (w0 := w) w.heap.size 3 rfl (N := 30) rfl 22 _ _ rfl (cs.length : Int) rfl rfl Try.underlying22 (.int .i64 0) 8 info3 rfl (by decide) (by omega) (0 : Int) (ok := fun _ => True) (okp := fun _ => True) rfl (fun _ hk => hk) trivial (by omega) (by omega) (Below.refl _ _) (Nat.le_refl _) ?_; intro v1 w1 ho hbw hg hat; obtain ⟨gl, capl, rfl, hcapl, hgl, hgls⟩ := ints_form (n := cs.length) ho (by obtain ⟨b, hb, _⟩ := hat; exact ⟨b, hb⟩) (by simp); clear hg hat))
  have HO0 : Aside0 ((Kd.int .i64).R 3 w1 w.heap.size (fun _ => True) (.slice (some ⟨gl, 0, none⟩) cs.length capl) (ones cs 0)) := ⟨by rw [show (cs.length : Int).toNat = cs.length from Int.toNat_natCast _] at ho; exact ho⟩
  have HB0 := Aside0.mk hbw
  clear ho hbw hck
  have HLT0 : Aside0 (Lst gl w.heap.size cs.length (leavesOf cs) 0 (.slice none 0 0) (lv cs 0) w1) := ⟨⟨[], Kd.R_nil _ _ _ _ _, trivial⟩⟩
  go_loopg [8, 33] cs.length (fun kx s8 s33 w' => ∃ (k : Nat), s33 = .int .i64 k ∧ k ≤ cs.length ∧ cs.length - k ≤ kx ∧ gl < w'.heap.size ∧ Aside0 ((Kd.int .i64).R 3 w' w.heap.size (fun _ => True) (.slice (some ⟨gl, 0, none⟩) cs.length capl) (ones cs k)) ∧ Aside0 (Lst gl w.heap.size cs.length (leavesOf cs) 0 s8 (lv cs k) w') ∧ Aside0 (Below w.heap.size w w'))
  case atStart => exact ⟨0, rfl, by omega, by omega, hgls, HO0, HLT0, HB0⟩
  case round =>
    clear HO0 HLT0 HB0
    obtain ⟨k, rfl, hk, hkx, hgs, HO, HL, HB⟩ := hrel
    by_cases hlt : k < cs.length
    · have hltz : (k : Int) < (cs.length : Int) := by omega
      obtain ⟨ad, rfl, hx⟩ := int_at HC.out k hlt
      replace hx := (HB.out.cell (World.block_lt_of_cell? w _ hx)).trans hx
      have hcb := HCB.out k hlt
      have hls := lv_succ hlt
      have hos : Hid (ones cs (k + 1) = if rd cs k = 0 then ones cs k else (ones cs k).set k 1) := rfl
      by_cases hz : rd cs k = 0
      · have d0 : (rd cs k == 0) = true := by rw [beq_iff_eq]; exact hz
        have hos2 : Hid (ones cs (k + 1) = ones cs k) := by show _ = _; rw [hos.out, if_pos hz]
        have hls2 : Hid (lv cs (k + 1) = lv cs k) := by show _ = _; rw [hls, if_neg (by omega)]
        clear hls hos
        generalize rd cs (k : Int) = x at *
        go_wp2
        go_roundg (cs.length - (k + 1))
        case measure => omega
        case rel => exact ⟨k + 1, by go_num, by omega, Nat.le_refl _, hgs, ⟨by rw [hos2.out]; exact HO.out⟩, ⟨by rw [hls2.out]; exact HL.out⟩, HB⟩
      · have d0 : (rd cs k == 0) = false := by rw [beq_eq_false_iff_ne]; exact hz
        have hos2 : Hid (ones cs (k + 1) = (ones cs k).set k 1) := by show _ = _; rw [hos.out, if_neg hz]
        have hls2 : Hid (lv cs (k + 1) = ins1 ltW ⟨rd cs k, (k : Nat), 0, 0⟩ (lv cs k)) := by show _ = _; rw [hls, if_pos (by omega)]
        clear hls hos
        generalize rd cs (k : Int) = x at *
        have hlvl := lv_len cs k
        obtain ⟨A8, c8, hs8⟩ := HL.out.form
        have hs8' : u8 = .slice A8 (lv cs k).length c8 := hs8
        subst hs8'
        clear hs8
        go_upto_block 2 with (first | ((with_reducible refine gate_dst (N := 43) rfl ?_); refine Kd.R_make (Kd.int .i64) (w0 := wr) wr.heap.size 3 rfl (N := 43) rfl 22 _ _ rfl (cs.length : Int) rfl rfl Try.underlying22 (.int .i64 0) 8 info3 rfl (by decide) (by omega) (0 : Int) (ok := fun _ => True) (okp := fun _ => True) rfl (fun _ hk => hk) trivial (by omega) (by omega) (Below.refl _ _) (Nat.le_refl _) ?_; intro v2 w2 ho2 hb2 hg2 hat2; obtain ⟨gp, capp, rfl, hcapp, hgp, hgps⟩ := ints_form (n := cs.length) ho2 (by obtain ⟨b, hb, _⟩ := hat2; exact ⟨b, hb⟩) (by simp); clear hg2 hat2; have ho3 := Kd.R_below ho2 (below_alloc (Below.refl _ _) (Obj.cells #[.int .i64 x, .bool true, .slice (some ⟨gp, 0, none⟩) cs.length capp] 53)); obtain ⟨kc, kf⟩ := Kd.R_celln (0 : Int) ho3 (k : Int) (by omega) hltz; rw [Int.toNat_natCast] at kc kf))
        have hpb3 := blk_new (w2.setCell ⟨gp, k, none⟩ (.int .i64 1)) (.cells #[.int .i64 x, .bool true, .slice (some ⟨gp, 0, none⟩) cs.length capp] 53)
        rw [World.size_setCell] at hpb3
        have ho4 := Kd.R_below (Kd.R_putn ho2 (k : Int) 1) (below_alloc (Below.refl _ _) (Obj.cells #[.int .i64 x, .bool true, .slice (some ⟨gp, 0, none⟩) cs.length capp] 53))
        have hb4 := below_alloc (hb2.setCell (p := ⟨gp, k, none⟩) hgp (.int .i64 1)) (Obj.cells #[.int .i64 x, .bool true, .slice (some ⟨gp, 0, none⟩) cs.length capp] 53)
        rw [Int.toNat_natCast] at ho4
        change (Kd.int .i64).R 3 ((w2.setCell ⟨gp, k, none⟩ (.int .i64 1)).alloc (Obj.cells #[.int .i64 x, .bool true, .slice (some ⟨gp, 0, none⟩) cs.length capp] 53)) _ _ _ _ at ho4
        have hoc : (List.replicate (cs.length : Int).toNat 0).set k (1 : Int) = occL (leavesOf cs) cs.length 0 ⟨x, (k : Nat), 0, 0⟩ := by
          rw [Int.toNat_natCast]
          refine ext_rd (by rw [occL_length]; simp) (fun s hs => ?_)
          rw [List.length_set, List.length_replicate] at hs
          rw [occL_rd _ _ _ _ s hs, rd_set _ _ _ _ (by omega), rd_zeros, List.length_replicate]
          show _ = if ((k : Nat) : Int) = (s : Int) then (1 : Int) else 0
          by_cases e : k = s
          · subst e; rw [if_pos ⟨hs, rfl⟩, if_pos rfl]
          · rw [if_neg (fun h => e (by omega)), if_neg (fun h => e (by omega))]
        rw [hoc] at ho4
        have hsz4 : gl < ((w2.setCell ⟨gp, k, none⟩ (.int .i64 1)).alloc (Obj.cells #[.int .i64 x, .bool true, .slice (some ⟨gp, 0, none⟩) cs.length capp] 53)).heap.size := Nat.lt_of_lt_of_le hgs hb4.size
        have HOC := Aside0.mk ho4
        have HBW := Aside0.mk hb4
        have HPB := Aside0.mk hpb3
        have hglp : gp ≠ gl := by omega
        have hpbz : wr.heap.size ≤ w2.heap.size := hb2.size
        have hwz : w.heap.size ≤ wr.heap.size := HB.out.size
        clear hpb3 ho2 ho3 ho4 hb2 hb4 hoc kc kf hx
        generalize hW3 : (w2.setCell ⟨gp, k, none⟩ (.int .i64 1)).alloc (Obj.cells #[.int .i64 x, .bool true, .slice (some ⟨gp, 0, none⟩) cs.length capp] 53) = W3 at *
        clear hW3
        generalize hpbn : w2.heap.size = pb at *
        clear hpbn
        have HL3 := Aside0.mk (HL.out.below HBW.out)
        go_cut [12] from 51 to 64 (fun s12 wc => ∃ j : Nat, s12 = .int .i64 j ∧ j ≤ (lv cs k).length ∧ Aside0 (lv cs (k + 1) = (lv cs k).take j ++ ⟨x, (k : Nat), 0, 0⟩ :: (lv cs k).drop j) ∧ W3 = wc)
        case first =>
          go_wp2_with fail
          go_loopg [12] ((lv cs k).length + 1) (fun kx s12 w' => ∃ (j : Nat), s12 = .int .i64 j ∧ j ≤ (lv cs k).length ∧ j + 1 ≤ kx ∧ W3 = w' ∧ Aside0 (∀ i : Nat, j ≤ i → i < (lv cs k).length → x < ((lv cs k).getD i default).w))
          case atStart => exact ⟨(lv cs k).length, rfl, Nat.le_refl _, Nat.le_refl _, rfl, ⟨fun i h1 h2 => by omega⟩⟩
          case round =>
            obtain ⟨j, rfl, hj, hjx, rfl, HGT⟩ := hrel
            by_cases hj0 : j = 0
            · have d1 : decide (0 < (j : Int)) = false := decide_eq_false (by omega)
              have HINS : lv cs (k + 1) = (lv cs k).take j ++ ⟨x, (k : Nat), 0, 0⟩ :: (lv cs k).drop j := by
                rw [hls2.out]
                refine ins1_at ltW _ _ _ hj (fun i hi => by omega) (fun hi => ?_)
                unfold ltW
                simp only [decide_eq_true_eq]
                exact HGT.out j (Nat.le_refl _) hi
              clear HGT
              go_wp2
              go_meet
              case rel => exact ⟨j, rfl, hj, ⟨HINS⟩, rfl⟩
            · obtain ⟨m, rfl⟩ : ∃ m, j = m + 1 := ⟨j - 1, by omega⟩
              have d1 : decide (0 < ((m : Int) + 1)) = true := decide_eq_true (by omega)
              obtain ⟨g8, x8, rfl, _, hc8, _, c0, _, _, _⟩ := HL3.out.at m (by omega)
              have HG2 : Hid (x < ((lv cs k).getD m default).w → ∀ i : Nat, m ≤ i → i < (lv cs k).length → x < ((lv cs k).getD i default).w) := fun h i h1 h2 => by
                rcases Nat.lt_or_ge m i with h' | h'
                · exact HGT.out i (by omega) h2
                · rw [show i = m by omega]; exact h
              have HLE : Hid (¬ x < ((lv cs k).getD m default).w → lv cs (k + 1) = (lv cs k).take (m + 1) ++ ⟨x, (k : Nat), 0, 0⟩ :: (lv cs k).drop (m + 1)) := fun h => by
                rw [hls2.out]
                have hs := isort_sorted swoI (present 0 (cs.take k))
                refine ins1_at ltW _ _ _ hj (fun i hi => ?_) (fun hi => ?_)
                · have h1 : ((lv cs k).getD i default).w ≤ ((lv cs k).getD m default).w := Srt.le (l := lv cs k) hs (by omega) (by omega)
                  unfold ltW
                  simp only [decide_eq_false_iff_not]
                  omega
                · unfold ltW
                  simp only [decide_eq_true_eq]
                  exact HGT.out (m + 1) (Nat.le_refl _) hi
              have p0 : (0 : Int) ≤ (m : Int) := by omega
              have p1 : (m : Int) < ((lv cs k).length : Int) := by omega
              generalize ((lv cs k).getD m default).w = y at *
              by_cases hgt : x < y
              · have d2 : decide (x < y) = true := decide_eq_true hgt
                have HG3 := Aside0.mk (HG2.out hgt)
                clear HGT HG2 HLE
                go_wp2
                go_roundg (m + 1)
                case measure => omega
                case rel => exact ⟨m, by go_num, by omega, Nat.le_refl _, rfl, HG3⟩
              · have d2 : decide (x < y) = false := decide_eq_false hgt
                have HINS := HLE.out hgt
                clear HGT HG2 HLE
                go_wp2
                go_meet
                case rel => exact ⟨m + 1, by go_num, hj, ⟨HINS⟩, rfl⟩
        case rest =>
          obtain ⟨j, rfl, hj, HINS0, rfl⟩ := hcut
          obtain ⟨xs, hx1, hx2⟩ := HL3.out
          have hxl := hx2.len
          obtain ⟨A', c', he8, hle8, hC8⟩ := Kd.R_reads hx1
          injection he8 with q1 q2 q3
          subst q1 q3
          clear q2
          have hform := (flat_own encX_len encX_one (by decide) hx1).2
          rw [← hxl] at hform
          have HTK : Aside0 (kX.C W3.drew A8 j (xs.take j)) := ⟨by
            have h := Kd.C_take hC8 (m := j) (by omega)
            rw [List.length_take, Nat.min_eq_left (by omega)] at h
            exact Kd.C_below h (Below.refl _ _).drew⟩
          have hj1 : (0 : Int) ≤ (j : Int) := by omega
          have hj2 : (j : Int) ≤ (c8 : Int) := by omega
          have hj3 : (j : Int) ≤ ((lv cs k).length : Int) := by omega
          have hj4 : j ≤ c8 := by omega
          have hxk : xs.length ≤ 1024 := by omega
          have HC8 := Aside0.mk hC8
          have HINS2 := HINS0
          have HXL := Aside0.mk hxl
          have HX2 := Aside0.mk hx2
          clear hC8 hx1 hx2 hxl
          go_upto_region 15 with (fail)
          go_cut [8] from 65 to 75 (fun s8 wc => ∃ ys : List X3, Aside0 (kX.R 53 wc w.heap.size (fun _ => True) s8 ys ∧ ys = xs.take j ++ ⟨x, true, gp, cs.length, capp⟩ :: xs.drop j ∧ Below W3.heap.size W3 wc))
          case first =>
            repeat (rename (∀ (a : Act) (w : World), Code.wp Try.prog _ _ a w → _) => hkk; clear hkk)
            have hw3 : w.heap.size ≤ W3.heap.size := Nat.le_trans hwz HBW.out.size
            have hq0 : W3.drew.cell? ⟨pb, 0, none⟩ = some (.int .i64 x) := blk_cell HPB.out 0
            have hq1 : W3.drew.cell? ⟨pb, 1, none⟩ = some (.bool true) := blk_cell HPB.out 1
            have hq2 : W3.drew.cell? ⟨pb, 2, none⟩ = some (.slice (some ⟨gp, 0, none⟩) cs.length capp) := blk_cell HPB.out 2
            have hform2 : (A8 = none ∧ c8 = 0 ∧ xs.length = 0) ∨ ∃ g8', A8 = some ⟨g8', 0, none⟩ := by
              rcases hform with ⟨hv8, hz8⟩ | ⟨g8', cap8, cur8, hv8, _⟩
              · injection hv8 with r1 r2 r3; exact .inl ⟨r1, r3, by omega⟩
              · injection hv8 with r1 r2 r3; exact .inr ⟨g8', r1⟩
            clear hform
            rcases hform2 with ⟨rfl, rfl, hz8⟩ | ⟨g8', rfl⟩
            · have hl0 : Hid ((lv cs k).length = 0) := by show _ = _; have := HXL.out; omega
              obtain rfl : j = 0 := by have := hl0.out; omega
              have HDR : Aside0 (kX.C W3.drew none (lv cs k).length (xs.drop 0)) := ⟨by rw [hl0.out, List.eq_nil_of_length_eq_zero hz8]; exact Kd.C_nil kX _⟩
              go_region_law (first | (refine Kd.R_append_rows_step kX (Rr := fun x cs => cs = encX x) (w0 := W3.drew) (W := W3.drew) W3.heap.size ?aG (.const (.slice none 0 0)) (.tmp 67) 51 53 (.agg #[.int .i64 0, .bool false, .slice none 0 0]) 40 ?aOp Try.underlying51 info53 rfl (by decide) (by decide) (.slice none 0 0) [] (xs.take 0) none 0 0 (fun _ => True) (fun _ => False) ?aV ?aX ?aO ?aR ?aK (fun _ hk => hk.elim) ?aF ?aB ?aS ?aL ?_; (case aG => rfl); (case aOp => rfl); (case aV => rfl); (case aX => rfl); (case aF => exact fun _ _ => trivial); (case aK => exact fun _ _ h => h); (case aO => exact Kd.R_nil _ _ _ _ _); (case aR => exact HTK.out); (case aB => exact (Below.refl W3.heap.size W3.drew)); (case aS => exact (Below.refl W3.heap.size W3.drew).size); (case aL => (try simp only [List.length_append, List.length_take, List.length_singleton, List.length_nil]); omega); intro v5 w5 ho5 hb5 hg5 hat5; have hq0 : w5.cell? ⟨pb, 0, none⟩ = some (.int .i64 x) := pw_cell_below hb5 hq0; have hq1 : w5.cell? ⟨pb, 1, none⟩ = some (.bool true) := pw_cell_below hb5 hq1; have hq2 : w5.cell? ⟨pb, 2, none⟩ = some (.slice (some ⟨gp, 0, none⟩) cs.length capp) := pw_cell_below hb5 hq2; have HS6 : Aside0 (kX.C (w5.alloc (Obj.cells #[.int .i64 x, .bool true, .slice (some ⟨gp, 0, none⟩) cs.length capp] 53)) (some ⟨w5.heap.size, 0, none⟩) 1 [(⟨x, true, gp, cs.length, capp⟩ : X3)]) := ⟨one_C w5 _⟩; have HW6 : Aside0 (kX.R 53 (w5.alloc (Obj.cells #[.int .i64 x, .bool true, .slice (some ⟨gp, 0, none⟩) cs.length capp] 53)) W3.heap.size (fun _ => True) v5 ([] ++ xs.take 0) ∧ Below W3.heap.size W3.drew (w5.alloc (Obj.cells #[.int .i64 x, .bool true, .slice (some ⟨gp, 0, none⟩) cs.length capp] 53))) := ⟨Kd.R_below ho5 (below_alloc (Below.refl _ _) _), below_al hb5 _⟩; clear hg5 hat5) | (refine Kd.R_append_rows_step kX (Rr := fun x cs => cs = encX x) (w0 := W3.drew) (W := (W3.alloc (Obj.cells #[.int .i64 x, .bool true, .slice (some ⟨gp, 0, none⟩) cs.length capp] 53)).drew) W3.heap.size ?aG (.const (.slice none 0 0)) (.tmp 67) 51 53 (.agg #[.int .i64 0, .bool false, .slice none 0 0]) 40 ?aOp Try.underlying51 info53 rfl (by decide) (by decide) (.slice none 0 0) [] (xs.take 0) none 0 0 (fun _ => True) (fun _ => False) ?aV ?aX ?aO ?aR ?aK (fun _ hk => hk.elim) ?aF ?aB ?aS ?aL ?_; (case aG => rfl); (case aOp => rfl); (case aV => rfl); (case aX => rfl); (case aF => exact fun _ _ => trivial); (case aK => exact fun _ _ h => h); (case aO => exact Kd.R_nil _ _ _ _ _); (case aR => exact (Kd.C_below (w := W3.drew) HTK.out (below_dd W3 (Obj.cells #[.int .i64 x, .bool true, .slice (some ⟨gp, 0, none⟩) cs.length capp] 53)))); (case aB => exact (below_dd W3 (Obj.cells #[.int .i64 x, .bool true, .slice (some ⟨gp, 0, none⟩) cs.length capp] 53))); (case aS => exact (below_dd W3 (Obj.cells #[.int .i64 x, .bool true, .slice (some ⟨gp, 0, none⟩) cs.length capp] 53)).size); (case aL => (try simp only [List.length_append, List.length_take, List.length_singleton, List.length_nil]); omega); intro v5 w5 ho5 hb5 hg5 hat5; have HS6 : Aside0 (kX.C w5 (some ⟨W3.heap.size, 0, none⟩) 1 [(⟨x, true, gp, cs.length, capp⟩ : X3)]) := ⟨Kd.C_below (Kd.C_below (one_C W3 _) (Below.refl _ _).drew) (grown_below hg5)⟩; have HW6 : Aside0 (kX.R 53 w5 W3.heap.size (fun _ => True) v5 ([] ++ xs.take 0) ∧ Below W3.heap.size W3.drew w5) := ⟨ho5, hb5⟩; clear hg5 hat5) | (refine Kd.R_append_rows_step kX (Rr := fun x cs => cs = encX x) (w0 := W3.drew) (W := (w5.alloc (Obj.cells #[.int .i64 x, .bool true, .slice (some ⟨gp, 0, none⟩) cs.length capp] 53))) W3.heap.size ?aG (.tmp 68) (.tmp 70) 51 53 (.agg #[.int .i64 0, .bool false, .slice none 0 0]) 40 ?aOp Try.underlying51 info53 rfl (by decide) (by decide) v5 ([] ++ xs.take 0) [(⟨x, true, gp, cs.length, capp⟩ : X3)] (some ⟨w5.heap.size, 0, none⟩) 1 1 (fun _ => True) (fun _ => False) ?aV ?aX ?aO ?aR ?aK (fun _ hk => hk.elim) ?aF ?aB ?aS ?aL ?_; (case aG => rfl); (case aOp => rfl); (case aV => rfl); (case aX => rfl); (case aF => exact fun _ _ => trivial); (case aK => exact fun _ _ h => h); (case aO => exact HW6.out.1); (case aR => exact HS6.out); (case aB => exact HW6.out.2); (case aS => exact HW6.out.2.size); (case aL => (try simp only [List.length_append, List.length_take, List.length_singleton, List.length_nil]); omega); intro v6 w6 ho6 hb6 hg6 hat6; have HDW : Aside0 (kX.C w6 none (lv cs k).length (xs.drop 0)) := ⟨Kd.C_below HDR.out hb6⟩; clear hg6 hat6 HW6 HS6) | (refine Kd.R_append_rows_step kX (Rr := fun x cs => cs = encX x) (w0 := W3.drew) (W := w5) W3.heap.size ?aG (.tmp 68) (.tmp 70) 51 53 (.agg #[.int .i64 0, .bool false, .slice none 0 0]) 40 ?aOp Try.underlying51 info53 rfl (by decide) (by decide) v5 ([] ++ xs.take 0) [(⟨x, true, gp, cs.length, capp⟩ : X3)] (some ⟨W3.heap.size, 0, none⟩) 1 1 (fun _ => True) (fun _ => False) ?aV ?aX ?aO ?aR ?aK (fun _ hk => hk.elim) ?aF ?aB ?aS ?aL ?_; (case aG => rfl); (case aOp => rfl); (case aV => rfl); (case aX => rfl); (case aF => exact fun _ _ => trivial); (case aK => exact fun _ _ h => h); (case aO => exact HW6.out.1); (case aR => exact HS6.out); (case aB => exact HW6.out.2); (case aS => exact HW6.out.2.size); (case aL => (try simp only [List.length_append, List.length_take, List.length_singleton, List.length_nil]); omega); intro v6 w6 ho6 hb6 hg6 hat6; have HDW : Aside0 (kX.C w6 none (lv cs k).length (xs.drop 0)) := ⟨Kd.C_below HDR.out hb6⟩; clear hg6 hat6 HW6 HS6) | (refine Kd.R_append_rows_step kX (Rr := fun x cs => cs = encX x) (w0 := W3.drew) (W := w6) W3.heap.size ?aG (.tmp 71) (.tmp 74) 51 53 (.agg #[.int .i64 0, .bool false, .slice none 0 0]) 40 ?aOp Try.underlying51 info53 rfl (by decide) (by decide) v6 ([] ++ xs.take 0 ++ [(⟨x, true, gp, cs.length, capp⟩ : X3)]) (xs.drop 0) none (lv cs k).length 0 (fun _ => True) (fun _ => False) ?aV ?aX ?aO ?aR ?aK (fun _ hk => hk.elim) ?aF ?aB ?aS ?aL ?_; (case aG => rfl); (case aOp => rfl); (case aV => rfl); (case aX => rfl); (case aF => exact fun _ _ => trivial); (case aK => exact fun _ _ h => h); (case aO => exact ho6); (case aR => exact HDW.out); (case aB => exact hb6); (case aS => exact hb6.size); (case aL => (try simp only [List.length_append, List.length_take, List.length_singleton, List.length_nil]); omega); intro v7 w7 ho7 hb7 hg7 hat7; clear hg7 hat7))
              all_goals go_wp2
              all_goals go_meet
              all_goals (case rel => exact ⟨_, ⟨Kd.R_lower ho7 hw3, by simp, below_then (Below.refl W3.heap.size W3).drew (Nat.le_refl _) hb7⟩⟩)
            · by_cases hc8j : c8 = j
              · have hle9 : (lv cs k).length ≤ c8 := by have := HXL.out; omega
                subst hc8j
                have HDR : Aside0 (kX.C W3.drew (some ⟨g8', 0, none⟩) 0 (xs.drop c8)) := ⟨by have h := Kd.C_drop HC8.out (m := c8) (c := c8) (by have := HXL.out; omega) hle8; rw [if_pos rfl, List.length_drop, show xs.length - c8 = 0 by omega] at h; exact Kd.C_below h (Below.refl _ _).drew⟩
                go_region_law (first | (refine Kd.R_append_rows_step kX (Rr := fun x cs => cs = encX x) (w0 := W3.drew) (W := W3.drew) W3.heap.size ?aG (.const (.slice none 0 0)) (.tmp 67) 51 53 (.agg #[.int .i64 0, .bool false, .slice none 0 0]) 40 ?aOp Try.underlying51 info53 rfl (by decide) (by decide) (.slice none 0 0) [] (xs.take c8) (some ⟨g8', 0, none⟩) c8 c8 (fun _ => True) (fun _ => False) ?aV ?aX ?aO ?aR ?aK (fun _ hk => hk.elim) ?aF ?aB ?aS ?aL ?_; (case aG => rfl); (case aOp => rfl); (case aV => rfl); (case aX => rfl); (case aF => exact fun _ _ => trivial); (case aK => exact fun _ _ h => h); (case aO => exact Kd.R_nil _ _ _ _ _); (case aR => exact HTK.out); (case aB => exact (Below.refl W3.heap.size W3.drew)); (case aS => exact (Below.refl W3.heap.size W3.drew).size); (case aL => (try simp only [List.length_append, List.length_take, List.length_singleton, List.length_nil]); omega); intro v5 w5 ho5 hb5 hg5 hat5; have hq0 : w5.cell? ⟨pb, 0, none⟩ = some (.int .i64 x) := pw_cell_below hb5 hq0; have hq1 : w5.cell? ⟨pb, 1, none⟩ = some (.bool true) := pw_cell_below hb5 hq1; have hq2 : w5.cell? ⟨pb, 2, none⟩ = some (.slice (some ⟨gp, 0, none⟩) cs.length capp) := pw_cell_below hb5 hq2; have HS6 : Aside0 (kX.C (w5.alloc (Obj.cells #[.int .i64 x, .bool true, .slice (some ⟨gp, 0, none⟩) cs.length capp] 53)) (some ⟨w5.heap.size, 0, none⟩) 1 [(⟨x, true, gp, cs.length, capp⟩ : X3)]) := ⟨one_C w5 _⟩; have HW6 : Aside0 (kX.R 53 (w5.alloc (Obj.cells #[.int .i64 x, .bool true, .slice (some ⟨gp, 0, none⟩) cs.length capp] 53)) W3.heap.size (fun _ => True) v5 ([] ++ xs.take c8) ∧ Below W3.heap.size W3.drew (w5.alloc (Obj.cells #[.int .i64 x, .bool true, .slice (some ⟨gp, 0, none⟩) cs.length capp] 53))) := ⟨Kd.R_below ho5 (below_alloc (Below.refl _ _) _), below_al hb5 _⟩; clear hg5 hat5) | (refine Kd.R_append_rows_step kX (Rr := fun x cs => cs = encX x) (w0 := W3.drew) (W := (W3.alloc (Obj.cells #[.int .i64 x, .bool true, .slice (some ⟨gp, 0, none⟩) cs.length capp] 53)).drew) W3.heap.size ?aG (.const (.slice none 0 0)) (.tmp 67) 51 53 (.agg #[.int .i64 0, .bool false, .slice none 0 0]) 40 ?aOp Try.underlying51 info53 rfl (by decide) (by decide) (.slice none 0 0) [] (xs.take c8) (some ⟨g8', 0, none⟩) c8 c8 (fun _ => True) (fun _ => False) ?aV ?aX ?aO ?aR ?aK (fun _ hk => hk.elim) ?aF ?aB ?aS ?aL ?_; (case aG => rfl); (case aOp => rfl); (case aV => rfl); (case aX => rfl); (case aF => exact fun _ _ => trivial); (case aK => exact fun _ _ h => h); (case aO => exact Kd.R_nil _ _ _ _ _); (case aR => exact (Kd.C_below (w := W3.drew) HTK.out (below_dd W3 (Obj.cells #[.int .i64 x, .bool true, .slice (some ⟨gp, 0, none⟩) cs.length capp] 53)))); (case aB => exact (below_dd W3 (Obj.cells #[.int .i64 x, .bool true, .slice (some ⟨gp, 0, none⟩) cs.length capp] 53))); (case aS => exact (below_dd W3 (Obj.cells #[.int .i64 x, .bool true, .slice (some ⟨gp, 0, none⟩) cs.length capp] 53)).size); (case aL => (try simp only [List.length_append, List.length_take, List.length_singleton, List.length_nil]); omega); intro v5 w5 ho5 hb5 hg5 hat5; have HS6 : Aside0 (kX.C w5 (some ⟨W3.heap.size, 0, none⟩) 1 [(⟨x, true, gp, cs.length, capp⟩ : X3)]) := ⟨Kd.C_below (Kd.C_below (one_C W3 _) (Below.refl _ _).drew) (grown_below hg5)⟩; have HW6 : Aside0 (kX.R 53 w5 W3.heap.size (fun _ => True) v5 ([] ++ xs.take c8) ∧ Below W3.heap.size W3.drew w5) := ⟨ho5, hb5⟩; clear hg5 hat5) | (refine Kd.R_append_rows_step kX (Rr := fun x cs => cs = encX x) (w0 := W3.drew) (W := (w5.alloc (Obj.cells #[.int .i64 x, .bool true, .slice (some ⟨gp, 0, none⟩) cs.length capp] 53))) W3.heap.size ?aG (.tmp 68) (.tmp 70) 51 53 (.agg #[.int .i64 0, .bool false, .slice none 0 0]) 40 ?aOp Try.underlying51 info53 rfl (by decide) (by decide) v5 ([] ++ xs.take c8) [(⟨x, true, gp, cs.length, capp⟩ : X3)] (some ⟨w5.heap.size, 0, none⟩) 1 1 (fun _ => True) (fun _ => False) ?aV ?aX ?aO ?aR ?aK (fun _ hk => hk.elim) ?aF ?aB ?aS ?aL ?_; (case aG => rfl); (case aOp => rfl); (case aV => rfl); (case aX => rfl); (case aF => exact fun _ _ => trivial); (case aK => exact fun _ _ h => h); (case aO => exact HW6.out.1); (case aR => exact HS6.out); (case aB => exact HW6.out.2); (case aS => exact HW6.out.2.size); (case aL => (try simp only [List.length_append, List.length_take, List.length_singleton, List.length_nil]); omega); intro v6 w6 ho6 hb6 hg6 hat6; have HDW : Aside0 (kX.C w6 (some ⟨g8', 0, none⟩) 0 (xs.drop c8)) := ⟨Kd.C_below HDR.out hb6⟩; clear hg6 hat6 HW6 HS6) | (refine Kd.R_append_rows_step kX (Rr := fun x cs => cs = encX x) (w0 := W3.drew) (W := w5) W3.heap.size ?aG (.tmp 68) (.tmp 70) 51 53 (.agg #[.int .i64 0, .bool false, .slice none 0 0]) 40 ?aOp Try.underlying51 info53 rfl (by decide) (by decide) v5 ([] ++ xs.take c8) [(⟨x, true, gp, cs.length, capp⟩ : X3)] (some ⟨W3.heap.size, 0, none⟩) 1 1 (fun _ => True) (fun _ => False) ?aV ?aX ?aO ?aR ?aK (fun _ hk => hk.elim) ?aF ?aB ?aS ?aL ?_; (case aG => rfl); (case aOp => rfl); (case aV => rfl); (case aX => rfl); (case aF => exact fun _ _ => trivial); (case aK => exact fun _ _ h => h); (case aO => exact HW6.out.1); (case aR => exact HS6.out); (case aB => exact HW6.out.2); (case aS => exact HW6.out.2.size); (case aL => (try simp only [List.length_append, List.length_take, List.length_singleton, List.length_nil]); omega); intro v6 w6 ho6 hb6 hg6 hat6; have HDW : Aside0 (kX.C w6 (some ⟨g8', 0, none⟩) 0 (xs.drop c8)) := ⟨Kd.C_below HDR.out hb6⟩; clear hg6 hat6 HW6 HS6) | (refine Kd.R_append_rows_step kX (Rr := fun x cs => cs = encX x) (w0 := W3.drew) (W := w6) W3.heap.size ?aG (.tmp 71) (.tmp 74) 51 53 (.agg #[.int .i64 0, .bool false, .slice none 0 0]) 40 ?aOp Try.underlying51 info53 rfl (by decide) (by decide) v6 ([] ++ xs.take c8 ++ [(⟨x, true, gp, cs.length, capp⟩ : X3)]) (xs.drop c8) (some ⟨g8', 0, none⟩) 0 0 (fun _ => True) (fun _ => False) ?aV ?aX ?aO ?aR ?aK (fun _ hk => hk.elim) ?aF ?aB ?aS ?aL ?_; (case aG => rfl); (case aOp => rfl); (case aV => rfl); (case aX => rfl); (case aF => exact fun _ _ => trivial); (case aK => exact fun _ _ h => h); (case aO => exact ho6); (case aR => exact HDW.out); (case aB => exact hb6); (case aS => exact hb6.size); (case aL => (try simp only [List.length_append, List.length_take, List.length_singleton, List.length_nil]); omega); intro v7 w7 ho7 hb7 hg7 hat7; clear hg7 hat7))
                all_goals go_wp2
                all_goals go_meet
                all_goals (case rel => exact ⟨_, ⟨Kd.R_lower ho7 hw3, by simp, below_then (Below.refl W3.heap.size W3).drew (Nat.le_refl _) hb7⟩⟩)
              · have hc8j2 : ¬ j = c8 := fun h => hc8j h.symm
                have hc8j3 : j < c8 := by omega
                have HDR : Aside0 (kX.C W3.drew (some ⟨g8', j * 3, none⟩) ((lv cs k).length - j) (xs.drop j)) := ⟨by have h := Kd.C_drop HC8.out (m := j) (c := c8) (by have := HXL.out; omega) hle8; rw [if_neg hc8j, List.length_drop, HXL.out] at h; rw [← add_plain g8' (j * 3)]; exact Kd.C_below h (Below.refl _ _).drew⟩
                go_region_law (first | (refine Kd.R_append_rows_step kX (Rr := fun x cs => cs = encX x) (w0 := W3.drew) (W := W3.drew) W3.heap.size ?aG (.const (.slice none 0 0)) (.tmp 67) 51 53 (.agg #[.int .i64 0, .bool false, .slice none 0 0]) 40 ?aOp Try.underlying51 info53 rfl (by decide) (by decide) (.slice none 0 0) [] (xs.take j) (some ⟨g8', 0, none⟩) j c8 (fun _ => True) (fun _ => False) ?aV ?aX ?aO ?aR ?aK (fun _ hk => hk.elim) ?aF ?aB ?aS ?aL ?_; (case aG => rfl); (case aOp => rfl); (case aV => rfl); (case aX => rfl); (case aF => exact fun _ _ => trivial); (case aK => exact fun _ _ h => h); (case aO => exact Kd.R_nil _ _ _ _ _); (case aR => exact HTK.out); (case aB => exact (Below.refl W3.heap.size W3.drew)); (case aS => exact (Below.refl W3.heap.size W3.drew).size); (case aL => (try simp only [List.length_append, List.length_take, List.length_singleton, List.length_nil]); omega); intro v5 w5 ho5 hb5 hg5 hat5; have hq0 : w5.cell? ⟨pb, 0, none⟩ = some (.int .i64 x) := pw_cell_below hb5 hq0; have hq1 : w5.cell? ⟨pb, 1, none⟩ = some (.bool true) := pw_cell_below hb5 hq1; have hq2 : w5.cell? ⟨pb, 2, none⟩ = some (.slice (some ⟨gp, 0, none⟩) cs.length capp) := pw_cell_below hb5 hq2; have HS6 : Aside0 (kX.C (w5.alloc (Obj.cells #[.int .i64 x, .bool true, .slice (some ⟨gp, 0, none⟩) cs.length capp] 53)) (some ⟨w5.heap.size, 0, none⟩) 1 [(⟨x, true, gp, cs.length, capp⟩ : X3)]) := ⟨one_C w5 _⟩; have HW6 : Aside0 (kX.R 53 (w5.alloc (Obj.cells #[.int .i64 x, .bool true, .slice (some ⟨gp, 0, none⟩) cs.length capp] 53)) W3.heap.size (fun _ => True) v5 ([] ++ xs.take j) ∧ Below W3.heap.size W3.drew (w5.alloc (Obj.cells #[.int .i64 x, .bool true, .slice (some ⟨gp, 0, none⟩) cs.length capp] 53))) := ⟨Kd.R_below ho5 (below_alloc (Below.refl _ _) _), below_al hb5 _⟩; clear hg5 hat5) | (refine Kd.R_append_rows_step kX (Rr := fun x cs => cs = encX x) (w0 := W3.drew) (W := (W3.alloc (Obj.cells #[.int .i64 x, .bool true, .slice (some ⟨gp, 0, none⟩) cs.length capp] 53)).drew) W3.heap.size ?aG (.const (.slice none 0 0)) (.tmp 67) 51 53 (.agg #[.int .i64 0, .bool false, .slice none 0 0]) 40 ?aOp Try.underlying51 info53 rfl (by decide) (by decide) (.slice none 0 0) [] (xs.take j) (some ⟨g8', 0, none⟩) j c8 (fun _ => True) (fun _ => False) ?aV ?aX ?aO ?aR ?aK (fun _ hk => hk.elim) ?aF ?aB ?aS ?aL ?_; (case aG => rfl); (case aOp => rfl); (case aV => rfl); (case aX => rfl); (case aF => exact fun _ _ => trivial); (case aK => exact fun _ _ h => h); (case aO => exact Kd.R_nil _ _ _ _ _); (case aR => exact (Kd.C_below (w := W3.drew) HTK.out (below_dd W3 (Obj.cells #[.int .i64 x, .bool true, .slice (some ⟨gp, 0, none⟩) cs.length capp] 53)))); (case aB => exact (below_dd W3 (Obj.cells #[.int .i64 x, .bool true, .slice (some ⟨gp, 0, none⟩) cs.length capp] 53))); (case aS => exact (below_dd W3 (Obj.cells #[.int .i64 x, .bool true, .slice (some ⟨gp, 0, none⟩) cs.length capp] 53)).size); (case aL => (try simp only [List.length_append, List.length_take, List.length_singleton, List.length_nil]); omega); intro v5 w5 ho5 hb5 hg5 hat5; have HS6 : Aside0 (kX.C w5 (some ⟨W3.heap.size, 0, none⟩) 1 [(⟨x, true, gp, cs.length, capp⟩ : X3)]) := ⟨Kd.C_below (Kd.C_below (one_C W3 _) (Below.refl _ _).drew) (grown_below hg5)⟩; have HW6 : Aside0 (kX.R 53 w5 W3.heap.size (fun _ => True) v5 ([] ++ xs.take j) ∧ Below W3.heap.size W3.drew w5) := ⟨ho5, hb5⟩; clear hg5 hat5) | (refine Kd.R_append_rows_step kX (Rr := fun x cs => cs = encX x) (w0 := W3.drew) (W := (w5.alloc (Obj.cells #[.int .i64 x, .bool true, .slice (some ⟨gp, 0, none⟩) cs.length capp] 53))) W3.heap.size ?aG (.tmp 68) (.tmp 70) 51 53 (.agg #[.int .i64 0, .bool false, .slice none 0 0]) 40 ?aOp Try.underlying51 info53 rfl (by decide) (by decide) v5 ([] ++ xs.take j) [(⟨x, true, gp, cs.length, capp⟩ : X3)] (some ⟨w5.heap.size, 0, none⟩) 1 1 (fun _ => True) (fun _ => False) ?aV ?aX ?aO ?aR ?aK (fun _ hk => hk.elim) ?aF ?aB ?aS ?aL ?_; (case aG => rfl); (case aOp => rfl); (case aV => rfl); (case aX => rfl); (case aF => exact fun _ _ => trivial); (case aK => exact fun _ _ h => h); (case aO => exact HW6.out.1); (case aR => exact HS6.out); (case aB => exact HW6.out.2); (case aS => exact HW6.out.2.size); (case aL => (try simp only [List.length_append, List.length_take, List.length_singleton, List.length_nil]); omega); intro v6 w6 ho6 hb6 hg6 hat6; have HDW : Aside0 (kX.C w6 (some ⟨g8', j * 3, none⟩) ((lv cs k).length - j) (xs.drop j)) := ⟨Kd.C_below HDR.out hb6⟩; clear hg6 hat6 HW6 HS6) | (refine Kd.R_append_rows_step kX (Rr := fun x cs => cs = encX x) (w0 := W3.drew) (W := w5) W3.heap.size ?aG (.tmp 68) (.tmp 70) 51 53 (.agg #[.int .i64 0, .bool false, .slice none 0 0]) 40 ?aOp Try.underlying51 info53 rfl (by decide) (by decide) v5 ([] ++ xs.take j) [(⟨x, true, gp, cs.length, capp⟩ : X3)] (some ⟨W3.heap.size, 0, none⟩) 1 1 (fun _ => True) (fun _ => False) ?aV ?aX ?aO ?aR ?aK (fun _ hk => hk.elim) ?aF ?aB ?aS ?aL ?_; (case aG => rfl); (case aOp => rfl); (case aV => rfl); (case aX => rfl); (case aF => exact fun _ _ => trivial); (case aK => exact fun _ _ h => h); (case aO => exact HW6.out.1); (case aR => exact HS6.out); (case aB => exact HW6.out.2); (case aS => exact HW6.out.2.size); (case aL => (try simp only [List.length_append, List.length_take, List.length_singleton, List.length_nil]); omega); intro v6 w6 ho6 hb6 hg6 hat6; have HDW : Aside0 (kX.C w6 (some ⟨g8', j * 3, none⟩) ((lv cs k).length - j) (xs.drop j)) := ⟨Kd.C_below HDR.out hb6⟩; clear hg6 hat6 HW6 HS6) | (refine Kd.R_append_rows_step kX (Rr := fun x cs => cs = encX x) (w0 := W3.drew) (W := w6) W3.heap.size ?aG (.tmp 71) (.tmp 74) 51 53 (.agg #[.int .i64 0, .bool false, .slice none 0 0]) 40 ?aOp Try.underlying51 info53 rfl (by decide) (by decide) v6 ([] ++ xs.take j ++ [(⟨x, true, gp, cs.length, capp⟩ : X3)]) (xs.drop j) (some ⟨g8', j * 3, none⟩) ((lv cs k).length - j) (c8 - j) (fun _ => True) (fun _ => False) ?aV ?aX ?aO ?aR ?aK (fun _ hk => hk.elim) ?aF ?aB ?aS ?aL ?_; (case aG => rfl); (case aOp => rfl); (case aV => rfl); (case aX => rfl); (case aF => exact fun _ _ => trivial); (case aK => exact fun _ _ h => h); (case aO => exact ho6); (case aR => exact HDW.out); (case aB => exact hb6); (case aS => exact hb6.size); (case aL => (try simp only [List.length_append, List.length_take, List.length_singleton, List.length_nil]); omega); intro v7 w7 ho7 hb7 hg7 hat7; clear hg7 hat7))
                all_goals go_wp2
                all_goals go_meet
                all_goals (case rel => exact ⟨_, ⟨Kd.R_lower ho7 hw3, by simp, below_then (Below.refl W3.heap.size W3).drew (Nat.le_refl _) hb7⟩⟩)
          case rest =>
            obtain ⟨ys, HY⟩ := hcut
            have hB2 := below_then HBW.out HBW.out.size HY.out.2.2
            have hsz5 : gl < wc.heap.size := Nat.lt_of_lt_of_le hsz4 HY.out.2.2.size
            have HO5 := Aside0.mk (Kd.R_below HO.out hB2)
            have HB5 := Aside0.mk (below_then HB.out hwz hB2)
            have hx3 : XOk gl w.heap.size cs.length (leavesOf cs) 0 W3 ⟨x, true, gp, cs.length, capp⟩ ⟨x, (k : Nat), 0, 0⟩ := ⟨rfl, rfl, Kd.R_of_own (Kd.own_of_R (Kd.R_lower HOC.out hwz)) (fun b hb => by
              have : gp = b := by simpa [Value.ownBlock] using hb
              omega)⟩
            have HLN : Aside0 (Lst gl w.heap.size cs.length (leavesOf cs) 0 u8 (lv cs (k + 1)) wc) := ⟨ys, HY.out.1, by
              rw [HY.out.2.1, HINS2.out]
              exact F2.mono (fun _ _ h => XOk.below h HY.out.2.2) (F2.app (F2.take j HX2.out) ⟨hx3, F2.drop j HX2.out⟩)⟩
            obtain ⟨kc, kf⟩ := Kd.R_celln (0 : Int) HO5.out (k : Int) (by omega) hltz
            rw [Int.toNat_natCast] at kc kf
            obtain ⟨cells3, hcells⟩ := own_typed (Kd.own_of_R HO5.out) gl rfl
            have HPT := Aside0.mk (Kd.R_putn HO5.out (k : Int) 1)
            rw [Int.toNat_natCast] at HPT
            have HLS := Aside0.mk (HLN.out.set hcells k (.int .i64 1))
            have HBS := Aside0.mk (HB5.out.setCell (p := ⟨gl, k, none⟩) hgl (.int .i64 1))
            clear hcells HY
            go_wp2
            go_roundg (cs.length - (k + 1))
            case measure => omega
            case rel => exact ⟨k + 1, by go_num, by omega, Nat.le_refl _, by rw [World.size_setCell]; exact hsz5, ⟨by rw [hos2.out]; exact HPT.out⟩, HLS, HBS⟩
    · have hltz : ¬ (k : Int) < (cs.length : Int) := by omega
      obtain rfl : k = cs.length := by omega
      rw [lv_all] at HL
      obtain ⟨A8, c8, hs8⟩ := HL.out.form
      have hs8' : u8 = .slice A8 (leavesOf cs).length c8 := hs8
      subst hs8'
      clear hs8
      by_cases hf : (leavesOf cs).length < 2
      · have d0 : decide (((leavesOf cs).length : Int) < 2) = true := decide_eq_true (by omega)
        have HON := Aside0.mk (ones_few (m := m) (fun j hj => (HCB.out j hj).1) hf)
        clear hf
        go_wp2
        go_ret2
        exact ⟨_, rfl, by rw [← HON.out]; exact HO.out, HB.out⟩
      · have d0 : decide (((leavesOf cs).length : Int) < 2) = false := decide_eq_false (by omega)
        have hnl : (leavesOf cs).length ≤ 1024 := by
          have := leavesOf_length cs
          have := npos_le cs
          omega
        have HLV := Aside0.mk (leaves_lvs cs)
        have HWB : Aside0 (∀ i, i < 15 → ∀ x ∈ lvl (leavesOf cs) i, 0 < x.w ∧ x.w ≤ 274877906944) := ⟨lvl_weights HCB.out hl2⟩
        have HLL := Aside0.mk (fun i => lvl_length_le (leavesOf cs) i)
        have hlt0 : (leavesOf cs).length ≠ 0 := by omega
        go_wp2_with fail
        go_loopg [13, 14] m (fun kx s13 s14 w' => ∃ (i : Nat), s14 = .int .i64 ((i + 1 : Nat) : Int) ∧ i + 1 ≤ m ∧ m - i ≤ kx ∧ Aside0 (Lst gl w.heap.size cs.length (leavesOf cs) i s13 (lvl (leavesOf cs) i) w') ∧ Aside0 (Below wr.heap.size wr w'))
        case atStart => exact ⟨0, rfl, by omega, by omega, HL, ⟨Below.refl _ _⟩⟩
        case round =>
          obtain ⟨i, rfl, hi, hix, HLI, HBI⟩ := hrel
          have hglB : gl < wr.heap.size := Nat.lt_of_lt_of_le hgs HBI.out.size
          have hwB : w.heap.size ≤ wr.heap.size := Nat.le_trans HB.out.size HBI.out.size
          by_cases him : i + 1 < m
          · have himz : ((i : Int) + 1) < (m : Int) := by omega
            obtain ⟨A13, c13, hs13⟩ := HLI.out.form
            have hs13' : u13 = .slice A13 (lvl (leavesOf cs) i).length c13 := hs13
            subst hs13'
            clear hs13
            have hll := HLL.out i
            have HWi := Aside0.mk (HWB.out i (by omega))
            have HLV2 := Aside0.mk (HLV.out)
            obtain ⟨WB, rfl⟩ : ∃ WB, WB = wr := ⟨wr, rfl⟩
            go_wp2_with fail
            go_loopg [15, 16] ((lvl (leavesOf cs) i).length) (fun kx s15 s16 w' => ∃ (t : Nat), s16 = .int .i64 (2 * (t : Int)) ∧ t ≤ (lvl (leavesOf cs) i).length / 2 ∧ (lvl (leavesOf cs) i).length / 2 - t ≤ kx ∧ Aside0 (Lst gl WB.heap.size cs.length (leavesOf cs) (i + 1) s15 (packs (lvl (leavesOf cs) i) t) w') ∧ Aside0 (Below WB.heap.size WB w'))
            case atStart => exact ⟨0, by go_num, by omega, by omega, ⟨⟨[], Kd.R_nil _ _ _ _ _, trivial⟩⟩, ⟨Below.refl _ _⟩⟩
            case round =>
              obtain ⟨t, rfl, ht, htx, HP, HBB⟩ := hrel
              obtain ⟨W4, rfl⟩ : ∃ W4, W4 = wr := ⟨wr, rfl⟩
              by_cases hlt4 : 2 * t + 1 < (lvl (leavesOf cs) i).length
              · have htz : 2 * (t : Int) + 1 < ((lvl (leavesOf cs) i).length : Int) := by omega
                have q0 : (0 : Int) ≤ 2 * (t : Int) := by omega
                have q1 : (2 * (t : Int)).toNat = 2 * t := by omega
                have q2 : 2 * (t : Int) < ((lvl (leavesOf cs) i).length : Int) := by omega
                have q3 : (0 : Int) ≤ 2 * (t : Int) + 1 := by omega
                have q4 : (2 * (t : Int) + 1).toNat = 2 * t + 1 := by omega
                have q5 : IntKind.i64.wrap (2 * (t : Int) + 1) = 2 * (t : Int) + 1 := by rw [IntKind.wrap_i64]; omega
                obtain ⟨g13, x0, rfl, _, hc13, hg13, a0, _, a2, X0⟩ := HLI.out.at (2 * t) (by omega)
                obtain ⟨g13', x1, e13, _, _, _, b0, _, b2, X1⟩ := HLI.out.at (2 * t + 1) hlt4
                injection e13 with e13
                injection e13 with e13
                subst e13
                replace a0 := (HBB.out.cell hg13).trans a0
                replace a2 := (HBB.out.cell hg13).trans a2
                replace b0 := (HBB.out.cell hg13).trans b0
                replace b2 := (HBB.out.cell hg13).trans b2
                have hw0 := HWi.out _ (getD_mem (l := lvl (leavesOf cs) i) (k := 2 * t) (by omega))
                have hw1 := HWi.out _ (getD_mem (l := lvl (leavesOf cs) i) (k := 2 * t + 1) hlt4)
                have hpk := packs_succ (lvl (leavesOf cs) i) t
                have HOC : Hid (∀ s : Int, occ (leavesOf cs) (i + 1) ⟨((lvl (leavesOf cs) i).getD (2 * t) default).w + ((lvl (leavesOf cs) i).getD (2 * t + 1) default).w, -1, (2 * t : Nat), (2 * t + 1 : Nat)⟩ s = occ (leavesOf cs) i ((lvl (leavesOf cs) i).getD (2 * t) default) s + occ (leavesOf cs) i ((lvl (leavesOf cs) i).getD (2 * t + 1) default) s) := fun s => occ_pack _ _ _ _ _
                have HPK : Hid (packs (lvl (leavesOf cs) i) (t + 1) = packs (lvl (leavesOf cs) i) t ++ [⟨((lvl (leavesOf cs) i).getD (2 * t) default).w + ((lvl (leavesOf cs) i).getD (2 * t + 1) default).w, -1, (2 * t : Nat), (2 * t + 1 : Nat)⟩]) := hpk
                clear hpk
                have HX0 := Aside0.mk X0
                have HX1 := Aside0.mk X1
                clear X0 X1
                generalize (lvl (leavesOf cs) i).getD (2 * t) default = I0 at *
                generalize (lvl (leavesOf cs) i).getD (2 * t + 1) default = I1 at *
                have q6 : IntKind.i64.wrap (I0.w + I1.w) = I0.w + I1.w := by rw [IntKind.wrap_i64]; omega
                go_upto_region 28 with (fail)
                go_cut [17] from 97 to 112 (fun s17 wc => ∃ gp capp pb, s17 = .pointer (some ⟨pb, 0, none⟩) ∧ cs.length ≤ capp ∧ W4.heap.size ≤ gp ∧ W4.heap.size ≤ pb ∧ gp ≠ pb ∧ Aside0 (wc.heap[pb]? = some (.cells #[.int .i64 (I0.w + I1.w), .bool false, .slice (some ⟨gp, 0, none⟩) cs.length capp] 53 (0, 0)) ∧ (Kd.int .i64).R 3 wc W4.heap.size (fun _ => True) (.slice (some ⟨gp, 0, none⟩) cs.length capp) (List.replicate cs.length 0) ∧ Below W4.heap.size W4 wc))
                case first =>
                  repeat (rename (∀ (a : Act) (w : World), Code.wp Try.prog _ _ a w → _) => hkk; clear hkk)
                  have hmk := print_make (P := Try.prog) 22 3 .i64 8 Try.underlying22 info3 (by decide) cs.length (by omega)
                  have hz1 : (W4.alloc (Obj.cells (madeCells #[Value.int IntKind.i64 0] cs.length) 3)).cell? ⟨g13, 2 * t * 3, none⟩ = some (.int .i64 I0.w) := pw_cell_below (below_alloc (Below.refl W4.heap.size W4) (Obj.cells (madeCells #[Value.int IntKind.i64 0] cs.length) 3)) a0
                  have hz2 : (W4.alloc (Obj.cells (madeCells #[Value.int IntKind.i64 0] cs.length) 3)).cell? ⟨g13, (2 * t + 1) * 3, none⟩ = some (.int .i64 I1.w) := pw_cell_below (below_alloc (Below.refl W4.heap.size W4) (Obj.cells (madeCells #[Value.int IntKind.i64 0] cs.length) 3)) b0
                  have hz3 : (W4.alloc (Obj.cells (madeCells #[Value.int IntKind.i64 0] cs.length) 3)).drew.cell? ⟨g13, 2 * t * 3, none⟩ = some (.int .i64 I0.w) := pw_cell_below (below_alloc (Below.refl W4.heap.size W4) (Obj.cells (madeCells #[Value.int IntKind.i64 0] cs.length) 3)).drew a0
                  have hz4 : (W4.alloc (Obj.cells (madeCells #[Value.int IntKind.i64 0] cs.length) 3)).drew.cell? ⟨g13, (2 * t + 1) * 3, none⟩ = some (.int .i64 I1.w) := pw_cell_below (below_alloc (Below.refl W4.heap.size W4) (Obj.cells (madeCells #[Value.int IntKind.i64 0] cs.length) 3)).drew b0
                  have hz5 : (W4.alloc (Obj.cells #[Value.int IntKind.i64 0, Value.bool false, Value.slice none 0 0] 53)).cell? ⟨g13, 2 * t * 3, none⟩ = some (.int .i64 I0.w) := pw_cell_below (below_alloc (Below.refl W4.heap.size W4) (Obj.cells #[Value.int IntKind.i64 0, Value.bool false, Value.slice none 0 0] 53)) a0
                  have hz6 : (W4.alloc (Obj.cells #[Value.int IntKind.i64 0, Value.bool false, Value.slice none 0 0] 53)).cell? ⟨g13, (2 * t + 1) * 3, none⟩ = some (.int .i64 I1.w) := pw_cell_below (below_alloc (Below.refl W4.heap.size W4) (Obj.cells #[Value.int IntKind.i64 0, Value.bool false, Value.slice none 0 0] 53)) b0
                  have hz7 : (W4.alloc (Obj.cells #[Value.int IntKind.i64 0, Value.bool false, Value.slice none 0 0] 53)).drew.cell? ⟨g13, 2 * t * 3, none⟩ = some (.int .i64 I0.w) := pw_cell_below (below_alloc (Below.refl W4.heap.size W4) (Obj.cells #[Value.int IntKind.i64 0, Value.bool false, Value.slice none 0 0] 53)).drew a0
                  have hz8 : (W4.alloc (Obj.cells #[Value.int IntKind.i64 0, Value.bool false, Value.slice none 0 0] 53)).drew.cell? ⟨g13, (2 * t + 1) * 3, none⟩ = some (.int .i64 I1.w) := pw_cell_below (below_alloc (Below.refl W4.heap.size W4) (Obj.cells #[Value.int IntKind.i64 0, Value.bool false, Value.slice none 0 0] 53)).drew b0
                  have hz9 : ((W4.alloc (Obj.cells (madeCells #[Value.int IntKind.i64 0] cs.length) 3)).alloc (Obj.cells #[Value.int IntKind.i64 0, Value.bool false, Value.slice none 0 0] 53)).cell? ⟨g13, 2 * t * 3, none⟩ = some (.int .i64 I0.w) := pw_cell_below (below_alloc (below_alloc (Below.refl W4.heap.size W4) (Obj.cells (madeCells #[Value.int IntKind.i64 0] cs.length) 3)) (Obj.cells #[Value.int IntKind.i64 0, Value.bool false, Value.slice none 0 0] 53)) a0
                  have hz10 : ((W4.alloc (Obj.cells (madeCells #[Value.int IntKind.i64 0] cs.length) 3)).alloc (Obj.cells #[Value.int IntKind.i64 0, Value.bool false, Value.slice none 0 0] 53)).cell? ⟨g13, (2 * t + 1) * 3, none⟩ = some (.int .i64 I1.w) := pw_cell_below (below_alloc (below_alloc (Below.refl W4.heap.size W4) (Obj.cells (madeCells #[Value.int IntKind.i64 0] cs.length) 3)) (Obj.cells #[Value.int IntKind.i64 0, Value.bool false, Value.slice none 0 0] 53)) b0
                  have hz11 : ((W4.alloc (Obj.cells (madeCells #[Value.int IntKind.i64 0] cs.length) 3)).alloc (Obj.cells #[Value.int IntKind.i64 0, Value.bool false, Value.slice none 0 0] 53)).drew.cell? ⟨g13, 2 * t * 3, none⟩ = some (.int .i64 I0.w) := pw_cell_below (below_alloc (below_alloc (Below.refl W4.heap.size W4) (Obj.cells (madeCells #[Value.int IntKind.i64 0] cs.length) 3)) (Obj.cells #[Value.int IntKind.i64 0, Value.bool false, Value.slice none 0 0] 53)).drew a0
                  have hz12 : ((W4.alloc (Obj.cells (madeCells #[Value.int IntKind.i64 0] cs.length) 3)).alloc (Obj.cells #[Value.int IntKind.i64 0, Value.bool false, Value.slice none 0 0] 53)).drew.cell? ⟨g13, (2 * t + 1) * 3, none⟩ = some (.int .i64 I1.w) := pw_cell_below (below_alloc (below_alloc (Below.refl W4.heap.size W4) (Obj.cells (madeCells #[Value.int IntKind.i64 0] cs.length) 3)) (Obj.cells #[Value.int IntKind.i64 0, Value.bool false, Value.slice none 0 0] 53)).drew b0
                  have hz13 : ((W4.alloc (Obj.cells #[Value.int IntKind.i64 0, Value.bool false, Value.slice none 0 0] 53)).alloc (Obj.cells (madeCells #[Value.int IntKind.i64 0] cs.length) 3)).cell? ⟨g13, 2 * t * 3, none⟩ = some (.int .i64 I0.w) := pw_cell_below (below_alloc (below_alloc (Below.refl W4.heap.size W4) (Obj.cells #[Value.int IntKind.i64 0, Value.bool false, Value.slice none 0 0] 53)) (Obj.cells (madeCells #[Value.int IntKind.i64 0] cs.length) 3)) a0
                  have hz14 : ((W4.alloc (Obj.cells #[Value.int IntKind.i64 0, Value.bool false, Value.slice none 0 0] 53)).alloc (Obj.cells (madeCells #[Value.int IntKind.i64 0] cs.length) 3)).cell? ⟨g13, (2 * t + 1) * 3, none⟩ = some (.int .i64 I1.w) := pw_cell_below (below_alloc (below_alloc (Below.refl W4.heap.size W4) (Obj.cells #[Value.int IntKind.i64 0, Value.bool false, Value.slice none 0 0] 53)) (Obj.cells (madeCells #[Value.int IntKind.i64 0] cs.length) 3)) b0
                  have hz15 : ((W4.alloc (Obj.cells #[Value.int IntKind.i64 0, Value.bool false, Value.slice none 0 0] 53)).alloc (Obj.cells (madeCells #[Value.int IntKind.i64 0] cs.length) 3)).drew.cell? ⟨g13, 2 * t * 3, none⟩ = some (.int .i64 I0.w) := pw_cell_below (below_alloc (below_alloc (Below.refl W4.heap.size W4) (Obj.cells #[Value.int IntKind.i64 0, Value.bool false, Value.slice none 0 0] 53)) (Obj.cells (madeCells #[Value.int IntKind.i64 0] cs.length) 3)).drew a0
                  have hz16 : ((W4.alloc (Obj.cells #[Value.int IntKind.i64 0, Value.bool false, Value.slice none 0 0] 53)).alloc (Obj.cells (madeCells #[Value.int IntKind.i64 0] cs.length) 3)).drew.cell? ⟨g13, (2 * t + 1) * 3, none⟩ = some (.int .i64 I1.w) := pw_cell_below (below_alloc (below_alloc (Below.refl W4.heap.size W4) (Obj.cells #[Value.int IntKind.i64 0, Value.bool false, Value.slice none 0 0] 53)) (Obj.cells (madeCells #[Value.int IntKind.i64 0] cs.length) 3)).drew b0
                  go_region
                  all_goals go_wp2
                  all_goals go_meet
                  all_goals (case rel => first | exact ⟨W4.heap.size, cs.length, W4.heap.size + 1, rfl, Nat.le_refl _, Nat.le_refl _, Nat.le_succ _, by omega, ⟨made_fst W4 _ cs.length hcl⟩⟩ | exact ⟨W4.heap.size + 1, cs.length, W4.heap.size, rfl, Nat.le_refl _, Nat.le_succ _, Nat.le_refl _, by omega, ⟨made_snd W4 _ cs.length hcl⟩⟩)
                case rest =>
                  obtain ⟨gp, capp, pb, rfl, hcapp, hgpw, hpbw, hgpb, HM28⟩ := hcut
                  have HLP := HP.out.form
                  obtain ⟨A15, c15, hs15⟩ := HLP
                  have hs15' : u15 = .slice A15 (packs (lvl (leavesOf cs) i) t).length c15 := hs15
                  subst hs15'
                  clear hs15
                  have hwp : WB.heap.size ≤ W4.heap.size := HBB.out.size
                  have HPB0 := Aside0.mk HM28.out.1
                  have HOC0 : Aside0 ((Kd.int .i64).R 3 wc W4.heap.size (fun _ => True) (.slice (some ⟨gp, 0, none⟩) cs.length capp) (fillV cs.length (fun s => occ (leavesOf cs) i I0 s + occ (leavesOf cs) i I1 s) 0)) := ⟨HM28.out.2.1⟩
                  have HBW0 := Aside0.mk HM28.out.2.2
                  have hpd : pb < wc.heap.size := blk_lt HM28.out.1
                  clear HM28 a0 b0
                  go_wp2_with fail
                  go_loopg [115] cs.length (fun kx s115 w' => ∃ (s : Nat), s115 = .int .i64 s ∧ s ≤ cs.length ∧ cs.length - s ≤ kx ∧ Aside0 (w'.heap[pb]? = some (.cells #[.int .i64 (I0.w + I1.w), .bool false, .slice (some ⟨gp, 0, none⟩) cs.length capp] 53 (0, 0))) ∧ Aside0 ((Kd.int .i64).R 3 w' W4.heap.size (fun _ => True) (.slice (some ⟨gp, 0, none⟩) cs.length capp) (fillV cs.length (fun s => occ (leavesOf cs) i I0 s + occ (leavesOf cs) i I1 s) s)) ∧ Aside0 (Below W4.heap.size W4 w'))
                  case atStart => exact ⟨0, rfl, by omega, by omega, HPB0, HOC0, HBW0⟩
                  case round =>
                    clear HPB0 HOC0 HBW0
                    obtain ⟨s, rfl, hs, hsx, HPB, HOC', HBW⟩ := hrel
                    by_cases hsl : s < cs.length
                    · have hsz : (s : Int) < (cs.length : Int) := by omega
                      have r0 : (0 : Int) ≤ (s : Int) := by omega
                      have hp2 : wr.cell? ⟨pb, 2, none⟩ = some (.slice (some ⟨gp, 0, none⟩) cs.length capp) := blk_cell HPB.out 2
                      have a2' := pw_cell_below HBW.out a2
                      have b2' := pw_cell_below HBW.out b2
                      obtain ⟨o0, _⟩ := Kd.R_celln (0 : Int) HX0.out.2.2 (s : Int) r0 hsz
                      obtain ⟨o1, _⟩ := Kd.R_celln (0 : Int) HX1.out.2.2 (s : Int) r0 hsz
                      rw [Int.toNat_natCast] at o0 o1
                      change WB.cell? _ = some (Value.int .i64 (rd (occL (leavesOf cs) cs.length i I0) s)) at o0
                      change WB.cell? _ = some (Value.int .i64 (rd (occL (leavesOf cs) cs.length i I1) s)) at o1
                      rw [occL_rd _ _ _ _ s hsl] at o0 o1
                      replace o0 := pw_cell_below (below_then HBB.out hwp HBW.out) o0
                      replace o1 := pw_cell_below (below_then HBB.out hwp HBW.out) o1
                      obtain ⟨kc, kf⟩ := Kd.R_celln (0 : Int) HOC'.out (s : Int) r0 hsz
                      rw [Int.toNat_natCast] at kc kf
                      have HPT := Aside0.mk (Kd.R_putn HOC'.out (s : Int) (occ (leavesOf cs) i I0 s + occ (leavesOf cs) i I1 s))
                      rw [Int.toNat_natCast] at HPT
                      have HPB2 := Aside0.mk (blk_far (p := ⟨gp, s, none⟩) HPB.out (Ne.symm hgpb) (.int .i64 (occ (leavesOf cs) i I0 s + occ (leavesOf cs) i I1 s)))
                      have HBW2 := Aside0.mk (HBW.out.setCell (p := ⟨gp, s, none⟩) hgpw (.int .i64 (occ (leavesOf cs) i I0 s + occ (leavesOf cs) i I1 s)))
                      have hb0 := occ_bound (leavesOf cs) i I0 s
                      have hb1 := occ_bound (leavesOf cs) i I1 s
                      have h15 : (2 : Int) ^ i ≤ 32768 := by
                        have := Nat.pow_le_pow_right (n := 2) (by decide) (show i ≤ 15 by omega)
                        have h7 : (2 : Int) ^ i ≤ 2 ^ 15 := by exact_mod_cast this
                        have h8 : (2 : Int) ^ 15 = 32768 := by decide
                        omega
                      generalize hO0 : occ (leavesOf cs) i I0 (s : Int) = O0 at *
                      generalize hO1 : occ (leavesOf cs) i I1 (s : Int) = O1 at *
                      have HFS : Hid (fillV cs.length (fun s => occ (leavesOf cs) i I0 s + occ (leavesOf cs) i I1 s) (s + 1) = (fillV cs.length (fun s => occ (leavesOf cs) i I0 s + occ (leavesOf cs) i I1 s) s).set s (O0 + O1)) := by show _ = _; rw [← hO0, ← hO1]; rfl
                      have q7 : IntKind.i64.wrap (O0 + O1) = O0 + O1 := by rw [IntKind.wrap_i64]; omega
                      clear hb0 hb1 h15
                      go_upto_region 32 with (fail)
                      go_region
                      all_goals go_wp2
                      all_goals
                        go_roundg (cs.length - (s + 1))
                        case measure => omega
                        case rel => exact ⟨s + 1, by go_num, by omega, Nat.le_refl _, ⟨blk_below HPB2.out (Below.refl _ _).drew⟩, ⟨by rw [HFS.out]; exact Kd.R_below HPT.out (Below.refl _ _).drew⟩, ⟨HBW2.out.drew⟩⟩
                    · have hsz : ¬ (s : Int) < (cs.length : Int) := by omega
                      obtain rfl : s = cs.length := by omega
                      have hp0 : wr.cell? ⟨pb, 0, none⟩ = some (.int .i64 (I0.w + I1.w)) := blk_cell HPB.out 0
                      have hp1 : wr.cell? ⟨pb, 1, none⟩ = some (.bool false) := blk_cell HPB.out 1
                      have hp2 : wr.cell? ⟨pb, 2, none⟩ = some (.slice (some ⟨gp, 0, none⟩) cs.length capp) := blk_cell HPB.out 2
                      obtain ⟨ps, hp1', hp2'⟩ := HP.out.below HBW.out
                      have hpl := hp2'.len
                      have hpk := packs_length (lvl (leavesOf cs) i) t
                      have hocl : fillV cs.length (fun s => occ (leavesOf cs) i I0 s + occ (leavesOf cs) i I1 s) cs.length = occL (leavesOf cs) cs.length (i + 1) ⟨I0.w + I1.w, -1, (2 * t : Nat), (2 * t + 1 : Nat)⟩ := by
                        refine ext_rd (by rw [fillV_length, occL_length]) (fun j hj => ?_)
                        rw [fillV_length] at hj
                        rw [fillV_rd _ _ _ hj _ (Nat.le_refl _) hj, occL_rd _ _ _ _ j hj, HOC.out]
                      have hx3 : XOk gl WB.heap.size cs.length (leavesOf cs) (i + 1) wr ⟨I0.w + I1.w, false, gp, cs.length, capp⟩ ⟨I0.w + I1.w, -1, (2 * t : Nat), (2 * t + 1 : Nat)⟩ := ⟨rfl, rfl, by
                        have h := HOC'.out
                        rw [hocl] at h
                        exact Kd.R_of_own (Kd.own_of_R (Kd.R_lower h hwp)) (fun b hb => by
                          have : gp = b := by simpa [Value.ownBlock] using hb
                          omega)⟩
                      have HP1 := Aside0.mk hp1'
                      have HPN := Aside0.mk (F2.snoc hp2' hx3)
                      have HBB2 := Aside0.mk (below_then HBB.out hwp HBW.out)
                      have hpsz : WB.heap.size ≤ wr.heap.size := Nat.le_trans hwp HBW.out.size
                      have hpsl : ps.length ≤ 2048 := by omega
                      clear hp1' hp2' hpl hpk hocl hx3
                      go_wp2_with (first | (at_builtin; refine Kd.R_append kX (w0 := wr) (W := wr) WB.heap.size ?aG (.tmp 141) (.tmp 143) 51 53 (.agg #[.int .i64 0, .bool false, .slice none 0 0]) 40 ?aOp Try.underlying51 info53 rfl (by decide) (by omega) (.slice A15 (packs (lvl (leavesOf cs) i) t).length c15) ps ⟨I0.w + I1.w, false, gp, cs.length, capp⟩ [.int .i64 (I0.w + I1.w), .bool false, .slice (some ⟨gp, 0, none⟩) cs.length capp] (fun _ => True) (fun _ => False) ?aV ?aX ?aP (fun _ hk => hk.elim) ?aF ?aO ?aB ?aS ?aL ?_; (case aG => rfl); (case aOp => rfl); (case aV => rfl); (case aX => rfl); (case aP => exact rfl); (case aF => exact fun _ _ => trivial); (case aO => exact HP1.out); (case aB => exact Below.refl _ _); (case aS => exact hpsz); (case aL => omega); intro v6 w6 ho6 hb6 hg6 hat6; have HPF := Aside0.mk (F2.mono (fun _ _ h => XOk.grown h HP1.out hg6) HPN.out); have HB6 := Aside0.mk (pw_below_grown HBB2.out _ hpsz hg6 (fun b hb => own_base (flat_own encX_len encX_one (by decide) HP1.out) b hb)); clear hb6 hg6 hat6))
                      go_roundg ((lvl (leavesOf cs) i).length / 2 - (t + 1))
                      case measure => omega
                      case rel => exact ⟨t + 1, by go_num, by omega, Nat.le_refl _, ⟨⟨_, ho6, by rw [HPK.out]; exact HPF.out⟩⟩, HB6⟩
              · have htz : ¬ 2 * (t : Int) + 1 < ((lvl (leavesOf cs) i).length : Int) := by omega
                obtain rfl : t = (lvl (leavesOf cs) i).length / 2 := by omega
                have q5 : IntKind.i64.wrap (2 * (((lvl (leavesOf cs) i).length / 2 : Nat) : Int) + 1) = 2 * (((lvl (leavesOf cs) i).length / 2 : Nat) : Int) + 1 := by rw [IntKind.wrap_i64]; omega
                obtain ⟨xa, hxa, hfa⟩ := ((HL.out.below HBI.out).below HBB.out).up (i + 1) HLV.out.leaf
                obtain ⟨xb, hxb, hfb⟩ := HP.out
                have hla := hfa.len
                have hlb := hfb.len
                have hpk := packs_length (lvl (leavesOf cs) i) ((lvl (leavesOf cs) i).length / 2)
                have hwt : ∀ x y x' y', XOk gl WB.heap.size cs.length (leavesOf cs) (i + 1) W4 x y → XOk gl WB.heap.size cs.length (leavesOf cs) (i + 1) W4 x' y' → ltX x x' = ltW y y' := fun x y x' y' h h' => by unfold ltX ltW; rw [h.1, h'.1]
                have hsb : SrtX xb := srtX_of (fun _ _ h => h.1) hfb (packs_srt (lvl_srt HLV.out.srt i) (by omega))
                have hmg := merge_calls hxa hxb (by omega) (by omega) (by omega) (by omega) hsb
                have HMF : Aside0 (F2 (XOk gl w.heap.size cs.length (leavesOf cs) (i + 1) W4) (mrg xa xb xb.length) (lvl (leavesOf cs) (i + 1))) := ⟨by
                  have h1 := F2.fold (P := XOk gl w.heap.size cs.length (leavesOf cs) (i + 1) W4) (l1 := ltX) (l2 := ltW) (fun x y x' y' h h' => by unfold ltX ltW; rw [h.1, h'.1]) xb _ xa _ (F2.mono (fun _ _ h => XOk.lower h hwB) hfb) hfa
                  have h2 : lvl (leavesOf cs) (i + 1) = (packs (lvl (leavesOf cs) i) ((lvl (leavesOf cs) i).length / 2)).foldl (fun acc x => ins1 ltW x acc) (leavesOf cs) := by
                    show isort ltW (leavesOf cs ++ packs (lvl (leavesOf cs) i) ((lvl (leavesOf cs) i).length / 2)) = _
                    rw [isort_append, isort_id ltW _ HLV.out.srt]
                  rw [h2]
                  unfold mrg
                  rw [List.take_length]
                  exact h1⟩
                have hbz4 : w.heap.size ≤ W4.heap.size := Nat.le_trans hwB HBB.out.size
                have hszI := HBI.out.size
                have HBI2 := Aside0.mk (below_then HBI.out hszI HBB.out)
                clear hla hlb hpk hwt hsb hxa hxb hfa hfb
                go_wp2_with (first | (go_at_call 26; refine hmg.mono ?_; rintro e w6 ⟨v6, rfl, ho6, hb6⟩))
                go_roundg (m - (i + 1))
                case measure => omega
                case rel => exact ⟨i + 1, by go_num, by omega, Nat.le_refl _, ⟨⟨_, Kd.R_lower ho6 hbz4, F2.mono (fun _ _ h => XOk.below h hb6) HMF.out⟩⟩, ⟨below_then HBI2.out HBI2.out.size hb6⟩⟩
          · have himz : ¬ ((i : Int) + 1) < (m : Int) := by omega
            obtain rfl : m = i + 1 := by omega
            obtain ⟨A13, c13, hs13⟩ := HLI.out.form
            have hs13' : u13 = .slice A13 (lvl (leavesOf cs) i).length c13 := hs13
            subst hs13'
            clear hs13
            have HSUM : Aside0 (∀ s : Nat, s < cs.length → sumI ((lvl (leavesOf cs) i).take (2 * (leavesOf cs).length - 2)) (fun x => occ (leavesOf cs) i x s) = rd (lengthsOf cs (i + 1)) s) := ⟨fun s hs => lengths_sum (m := i + 1) (by omega) (by omega) hnp s hs⟩
            have HLEN := Aside0.mk (lengthsOf_length cs (i + 1))
            have htop := lvl_top (leavesOf cs) (i + 1) hnp i (by omega)
            rw [show i + 1 - i = 1 by omega] at htop
            have hc13 := HLI.out.cap
            have hT1 : 2 * (leavesOf cs).length - 2 ≤ (lvl (leavesOf cs) i).length := by omega
            have hT2 : 2 * (leavesOf cs).length - 2 ≤ c13 := by omega
            have hT3 : (0 : Int) ≤ 2 * ((leavesOf cs).length : Int) - 2 := by omega
            have hT4 : (2 * ((leavesOf cs).length : Int) - 2).toNat = 2 * (leavesOf cs).length - 2 := by omega
            have hT5 : 2 * ((leavesOf cs).length : Int) - 2 ≤ (c13 : Int) := by omega
            have HTN : Hid (2 * (leavesOf cs).length - 2 ≤ 2048) := by show _ ≤ _; omega
            have HO6 := Aside0.mk (Kd.R_below HO.out HBI.out)
            have HB6 := Aside0.mk (below_then HB.out HB.out.size HBI.out)
            clear htop
            generalize hR : lengthsOf cs (i + 1) = r at *
            go_wp2_with fail
            go_loopg [150] cs.length (fun kx s150 w' => ∃ (s : Nat), s150 = .int .i64 s ∧ s ≤ cs.length ∧ cs.length - s ≤ kx ∧ Aside0 ((Kd.int .i64).R 3 w' w.heap.size (fun _ => True) (.slice (some ⟨gl, 0, none⟩) cs.length capl) (outL cs r s)) ∧ Aside0 (Lst gl w.heap.size cs.length (leavesOf cs) i (.slice A13 (lvl (leavesOf cs) i).length c13) (lvl (leavesOf cs) i) w') ∧ Aside0 (Below w.heap.size w w'))
            case atStart => exact ⟨0, rfl, by omega, by omega, HO6, HLI, HB6⟩
            case round =>
              clear HO6 HB6
              obtain ⟨s, rfl, hs, hsx, HOS, HLS, HBS⟩ := hrel
              by_cases hsl : s < cs.length
              · have hsz : (s : Int) < (cs.length : Int) := by omega
                have r0 : (0 : Int) ≤ (s : Int) := by omega
                obtain ⟨W6, rfl⟩ : ∃ W6, W6 = wr := ⟨wr, rfl⟩
                obtain ⟨kc, kf⟩ := Kd.R_celln (0 : Int) HOS.out (s : Int) r0 hsz
                rw [Int.toNat_natCast] at kc kf
                obtain ⟨cells6, hc6⟩ := own_typed (Kd.own_of_R HOS.out) gl rfl
                have HPT0 := Aside0.mk (Kd.R_putn HOS.out (s : Int) 0)
                rw [Int.toNat_natCast] at HPT0
                have HLS0 := Aside0.mk (HLS.out.set hc6 s (.int .i64 0))
                have HBS0 := Aside0.mk (HBS.out.setCell (p := ⟨gl, s, none⟩) hgl (.int .i64 0))
                clear hc6
                go_wp2_with fail
                generalize W6.setCell ⟨gl, s, none⟩ (.int .i64 0) = W7 at *
                go_loopg [163] (2 * (leavesOf cs).length - 2) (fun kx s163 w' => ∃ (q : Nat), s163 = .int .i64 q ∧ q ≤ 2 * (leavesOf cs).length - 2 ∧ 2 * (leavesOf cs).length - 2 - q ≤ kx ∧ Aside0 ((Kd.int .i64).R 3 w' w.heap.size (fun _ => True) (.slice (some ⟨gl, 0, none⟩) cs.length capl) ((outL cs r s).set s (sumI ((lvl (leavesOf cs) i).take q) (fun x => occ (leavesOf cs) i x s)))) ∧ Aside0 (Lst gl w.heap.size cs.length (leavesOf cs) i (.slice A13 (lvl (leavesOf cs) i).length c13) (lvl (leavesOf cs) i) w') ∧ Aside0 (Below w.heap.size w w'))
                case atStart => exact ⟨0, rfl, by omega, by omega, HPT0, HLS0, HBS0⟩
                case round =>
                  clear HPT0 HLS0 HBS0 HOS HLS HBS
                  obtain ⟨q, rfl, hq, hqx, HOQ, HLQ, HBQ⟩ := hrel
                  by_cases hqT : q < 2 * (leavesOf cs).length - 2
                  · have hqz1 : (q : Int) < ((2 * (leavesOf cs).length - 2 : Nat) : Int) := by omega
                    have hqz2 : (q : Int) < 2 * ((leavesOf cs).length : Int) - 2 := by omega
                    have hqz3 : (q : Int) < ((lvl (leavesOf cs) i).length : Int) := by omega
                    have r1 : (0 : Int) ≤ (q : Int) := by omega
                    obtain ⟨g13, x0, rfl, _, _, hg13, c0, c1, c2, X0⟩ := HLQ.out.at q (by omega)
                    have hsu : Hid (sumI ((lvl (leavesOf cs) i).take (q + 1)) (fun x => occ (leavesOf cs) i x s) = sumI ((lvl (leavesOf cs) i).take q) (fun x => occ (leavesOf cs) i x s) + occ (leavesOf cs) i ((lvl (leavesOf cs) i).getD q default) s) := sumI_take _ _ q (by omega)
                    have hsb := sumI_bound ((lvl (leavesOf cs) i).take q) (fun x => occ (leavesOf cs) i x s) 32768 (fun x => by
                      have h1 := occ_bound (leavesOf cs) i x s
                      have := Nat.pow_le_pow_right (n := 2) (by decide) (show i ≤ 15 by omega)
                      have h7 : (2 : Int) ^ i ≤ 2 ^ 15 := by exact_mod_cast this
                      have h8 : (2 : Int) ^ 15 = 32768 := by decide
                      omega)
                    have hob := occ_bound (leavesOf cs) i ((lvl (leavesOf cs) i).getD q default) s
                    have h15 : (2 : Int) ^ i ≤ 32768 := by
                      have := Nat.pow_le_pow_right (n := 2) (by decide) (show i ≤ 15 by omega)
                      have h7 : (2 : Int) ^ i ≤ 2 ^ 15 := by exact_mod_cast this
                      have h8 : (2 : Int) ^ 15 = 32768 := by decide
                      omega
                    rw [List.length_take, Nat.min_eq_left (by omega)] at hsb
                    have htn := HTN.out
                    obtain ⟨o0, _⟩ := Kd.R_celln (0 : Int) X0.2.2 (s : Int) r0 hsz
                    rw [Int.toNat_natCast] at o0
                    change wr.cell? _ = some (Value.int .i64 (rd (occL (leavesOf cs) cs.length i ((lvl (leavesOf cs) i).getD q default)) s)) at o0
                    rw [occL_rd _ _ _ _ s hsl] at o0
                    have hrs : rd ((outL cs r s).set s (sumI ((lvl (leavesOf cs) i).take q) (fun x => occ (leavesOf cs) i x s))) (s : Int) = sumI ((lvl (leavesOf cs) i).take q) (fun x => occ (leavesOf cs) i x s) := by
                      rw [rd_set _ _ _ _ r0, outL_length, if_pos ⟨hsl, rfl⟩]
                    generalize hO0 : occ (leavesOf cs) i ((lvl (leavesOf cs) i).getD q default) (s : Int) = O0 at *
                    generalize hSQ : sumI ((lvl (leavesOf cs) i).take q) (fun x => occ (leavesOf cs) i x s) = SQ at *
                    generalize (lvl (leavesOf cs) i).getD q default = I0 at *
                    have q7 : IntKind.i64.wrap (SQ + O0) = SQ + O0 := by rw [IntKind.wrap_i64]; omega
                    clear X0
                    go_wp2_with fail
                    have HBX := blk_new wr (.cells #[.int .i64 I0.w, .bool x0.lf, .slice (some ⟨x0.g, 0, none⟩) cs.length x0.c] 53)
                    have HBA := below_alloc (Below.refl wr.heap.size wr) (Obj.cells #[.int .i64 I0.w, .bool x0.lf, .slice (some ⟨x0.g, 0, none⟩) cs.length x0.c] 53)
                    have HO8 := Kd.R_below HOQ.out HBA
                    have HL8 := HLQ.out.below HBA
                    have HB8 := below_then HBQ.out HBQ.out.size HBA
                    have o8 := pw_cell_below HBA o0
                    have hgn : wr.heap.size ≠ gl := fun e => by
                      obtain ⟨cells, hc⟩ := own_typed (Kd.own_of_R HOQ.out) gl rfl
                      have := blk_lt hc
                      omega
                    generalize hW8 : wr.alloc (Obj.cells #[.int .i64 I0.w, .bool x0.lf, .slice (some ⟨x0.g, 0, none⟩) cs.length x0.c] 53) = W8 at *
                    clear hW8 c0 c1 c2 o0 hg13 HBA
                    generalize wr.heap.size = pb at *
                    have hp2 : W8.cell? ⟨pb, 2, none⟩ = some (.slice (some ⟨x0.g, 0, none⟩) cs.length x0.c) := blk_cell HBX 2
                    obtain ⟨kc, kf⟩ := Kd.R_celln (0 : Int) HO8 (s : Int) r0 hsz
                    rw [Int.toNat_natCast] at kc kf
                    change W8.cell? _ = some (Value.int .i64 (rd ((outL cs r s).set s SQ) (s : Int))) at kc
                    rw [hrs] at kc
                    obtain ⟨cells8, hc8'⟩ := own_typed (Kd.own_of_R HO8) gl rfl
                    have HPT := Aside0.mk (Kd.R_putn HO8 (s : Int) (SQ + O0))
                    rw [Int.toNat_natCast, List.set_set] at HPT
                    have HL9 := Aside0.mk (HL8.set hc8' s (.int .i64 (SQ + O0)))
                    have HB9 := Aside0.mk (HB8.setCell (p := ⟨gl, s, none⟩) hgl (.int .i64 (SQ + O0)))
                    clear HO8 HL8 HB8 HBX hc8' hrs hsb hob h15 htn HOQ HLQ HBQ
                    go_region
                    all_goals go_wp2
                    all_goals
                      go_roundg (2 * (leavesOf cs).length - 2 - (q + 1))
                      case measure => omega
                      case rel => exact ⟨q + 1, by go_num, by omega, Nat.le_refl _, ⟨by rw [hsu.out]; exact Kd.R_below HPT.out (Below.refl _ _).drew⟩, ⟨HL9.out.below (Below.refl _ _).drew⟩, ⟨HB9.out.drew⟩⟩
                  · have hqz1 : ¬ (q : Int) < ((2 * (leavesOf cs).length - 2 : Nat) : Int) := by omega
                    have hqz2 : ¬ (q : Int) < 2 * ((leavesOf cs).length : Int) - 2 := by omega
                    obtain rfl : q = 2 * (leavesOf cs).length - 2 := by omega
                    have HOQ2 : Aside0 ((Kd.int .i64).R 3 wr w.heap.size (fun _ => True) (.slice (some ⟨gl, 0, none⟩) cs.length capl) (outL cs r (s + 1))) := ⟨by
                      have h := HOQ.out
                      rw [HSUM.out s hsl] at h
                      exact h⟩
                    go_wp2
                    go_roundg (cs.length - (s + 1))
                    case measure => omega
                    case rel => exact ⟨s + 1, by go_num, by omega, Nat.le_refl _, HOQ2, HLQ, HBQ⟩
              · have hsz : ¬ (s : Int) < (cs.length : Int) := by omega
                obtain rfl : s = cs.length := by omega
                go_wp2
                go_ret2
                exact ⟨_, rfl, by rw [← outL_all HLEN.out]; exact HOS.out, HBS.out⟩
end Go.Proofs.Ytdmhhgkplcaejaa
