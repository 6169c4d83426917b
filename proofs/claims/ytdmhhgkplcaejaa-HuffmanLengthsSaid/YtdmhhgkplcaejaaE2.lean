/- huffman.inOrder: the present symbols in order of length. -/
import Derived.Test.YtdmhhgkplcaejaaE1
import Derived.Test.YtdmhhgkplcaejaaH6
namespace Go.Proofs.Ytdmhhgkplcaejaa
open Go.Shelf Go.RowKit Go.Lib Go.Sort Go.Proofs.YtdmhhgkplcaejaaW.PrintWords

set_option maxHeartbeats 1000000 in
theorem cmp53 (A : Option Addr) (c : Nat) (ls : List Int) (b : Nat) (W : World) (hb : W.cell? ⟨b, 0, none⟩ = some (.slice A ls.length c)) (hls : Kd.C (Kd.int .i64) W A ls.length ls) (hok : ∀ n ∈ ls, 0 ≤ n ∧ n ≤ 15)
    (x y : Nat) (hx : x < ls.length) (hy : y < ls.length) :
    Calls Try.prog 53 #[.int .i64 x, .int .i64 y, .pointer (some ⟨b, 0, none⟩)] W fun e w' => e = .returned (.int .i64 (rd ls x - rd ls y)) ∧ ∃ q os', w' = grow (W.drewN q) os' := by
  obtain ⟨ad, rfl, h1⟩ := int_at hls x hx
  obtain ⟨ad', hE, h2⟩ := int_at hls y hy
  injection hE with hE
  subst hE
  have hx0 := hok (rd ls x) (by unfold rd; simp [hx])
  have hy0 := hok (rd ls y) (by unfold rd; simp [hy])
  have hn := hls.2.1
  clear hls hok
  obtain ⟨hx1, hx2⟩ := hx0
  obtain ⟨hy1, hy2⟩ := hy0
  have p0 : (0 : Int) ≤ (x : Int) := by omega
  have p1 : (0 : Int) ≤ (y : Int) := by omega
  have p2 : (x : Int) < (ls.length : Int) := by omega
  have p3 : (y : Int) < (ls.length : Int) := by omega
  generalize rd ls (x : Int) = u at *
  generalize rd ls (y : Int) = v at *
  go_enter Try.func53, Try.ntmps53
  go_wp2_with fail
  go_quiet (fail)
  go_wp2
  go_ret
  exact ⟨rfl, _, #[], by rw [grow_empty]⟩

theorem putCells_map {β γ : Type} [Inhabited β] [Inhabited γ] (f : β → γ) (enc : γ → Value) (off : Nat) (d : Array β) (c : Array Value) : putCells (fun p : β => enc (f p)) off d c = putCells enc off (d.map f) c := by
  unfold putCells
  apply Array.ext
  · simp
  · intro i h1 h2
    simp only [Array.getElem_mapIdx, Array.size_map]
    split
    · rename_i h
      have hlt : i - off < d.size := by omega
      have e1 : d[i - off]! = d[i - off] := getElem!_pos d _ hlt
      have e2 : (d.map f)[i - off]! = f d[i - off] := by rw [getElem!_pos _ _ (by simpa using hlt)]; simp
      rw [e1, e2]
    · rfl

theorem sortWorld_map {β γ : Type} [Inhabited β] [Inhabited γ] (f : β → γ) (enc : γ → Value) (w : World) (blk off m : Nat) (dk : Array β) (os : Array Obj) :
    sortWorld (fun p : β => enc (f p)) w blk off m dk os = sortWorld enc w blk off m (dk.map f) os := by
  unfold sortWorld putRow
  rw [show putCells (fun p : β => enc (f p)) off dk = putCells enc off (dk.map f) from funext fun c => putCells_map f enc off dk c]

/-- Symbols by their lengths. -/
def ltL (ls : List Int) (a b : Int) : Bool := decide (rd ls a < rd ls b)

/-- slices.SortStableFunc at a row of symbols of the call's own, by their lengths. -/
theorem sort_syms (A : Option Addr) (c : Nat) (ls : List Int) (b : Nat) (hok : ∀ n ∈ ls, 0 ≤ n ∧ n ≤ 15) {base : Nat} {ok : Nat → Prop} {w : World} {v : Value} {xs : List Int} (h : (Kd.int .i64).R 3 w base ok v xs)
    (hx : ∀ x ∈ xs, 0 ≤ x ∧ x < ls.length) (hn : xs.length < 1000000)
    (hW : ∀ W, w.grownBy W v.ownBlock → W.cell? ⟨b, 0, none⟩ = some (.slice A ls.length c) ∧ Kd.C (Kd.int .i64) W A ls.length ls) :
    Calls Try.prog 52 #[v, .func (.func 53) #[] #[.pointer (some ⟨b, 0, none⟩)]] w fun e w' => e = .returned (.tuple #[]) ∧ (Kd.int .i64).R 3 w' base ok v (isort (ltL ls) xs) ∧ w.grownBy w' v.ownBlock := by
  have e53 : ∀ args w, (callFunc 53 args).run Try.prog w = .ok (.enter 53 args) w := enters_of Try.func53 (by kernel_rfl) rfl
  rcases Nat.eq_zero_or_pos xs.length with h0 | h0
  · obtain rfl := List.eq_nil_of_length_eq_zero h0
    obtain ⟨B, c', rfl⟩ := own_slice (Kd.own_of_R h)
    refine (sort_int_none B c' _ w).mono ?_
    rintro e w' ⟨rfl, rfl⟩
    exact ⟨rfl, h, rfl, rfl, rfl, Nat.le_refl _, fun _ _ _ => rfl⟩
  · have hpos : 0 < ls.length := by
      cases xs with
      | nil => simp at h0
      | cons x xs => have := hx x List.mem_cons_self; omega
    haveI : Inhabited {x : Int // 0 ≤ x ∧ x < (ls.length : Int)} := ⟨⟨0, by omega, by omega⟩⟩
    obtain ⟨ds, rfl⟩ : ∃ ds : List {x : Int // 0 ≤ x ∧ x < (ls.length : Int)}, xs = ds.map Subtype.val := ⟨xs.attach.map fun x => ⟨x.1, hx x.1 x.2⟩, by simp⟩
    obtain ⟨gb, cap, rfl, hR, hback⟩ := ints_sort h h0
    have hR' : Row1 (fun x : {x : Int // 0 ≤ x ∧ x < (ls.length : Int)} => Value.int .i64 x.1) w gb 0 ds.toArray := ⟨fun _ => rfl, by
      intro j hj
      have hj2 : j < ds.length := by simpa using hj
      have := hR.hH j (by simpa using hj2)
      have e1 : ds.toArray[j]! = ds[j]'hj2 := by rw [getElem!_pos ds.toArray j hj]; simp
      have e2 : (ds.map Subtype.val).toArray[j]! = (ds[j]'hj2).1 := by rw [getElem!_pos _ j (by simpa using hj2)]; simp
      rw [e1]
      rw [e2] at this
      exact this, hR.hblk⟩
    have hcmp : CmpLays1 Try.prog 53 #[.pointer (some ⟨b, 0, none⟩)] (fun x : {x : Int // 0 ≤ x ∧ x < (ls.length : Int)} => Value.int .i64 x.1) (fun x y => rd ls x.1 - rd ls y.1) gb 0 ds.toArray.size w := by
      intro m os dk hs x y
      rw [sortWorld_map Subtype.val (Value.int .i64)]
      have hg := (hback (dk.map Subtype.val).toList _ (by simpa using hs) ⟨m, os, rfl⟩).2
      simp only [Array.toArray_toList] at hg
      obtain ⟨k1, k2⟩ := hW _ hg
      have := cmp53 A c ls b _ k1 k2 hok x.1.toNat y.1.toNat (by have := x.2; omega) (by have := y.2; omega)
      rw [Int.toNat_of_nonneg x.2.1, Int.toNat_of_nonneg y.2.1] at this
      exact this
    have hO : SWO (ltOf fun x y : {x : Int // 0 ≤ x ∧ x < (ls.length : Int)} => rd ls x.1 - rd ls y.1) := by
      constructor
      · intro x; unfold ltOf; simp
      · intro x y z h1 h2; unfold ltOf at *; simp at *; omega
      · intro x y z h1 h2; unfold ltOf at *; simp at *; omega
    have hdl : ds.toArray.size < 4611686018427387904 / 4 := by
      have : ds.length < 1000000 := by simpa using hn
      simp
      omega
    have hc := sort_int (fun x : {x : Int // 0 ≤ x ∧ x < (ls.length : Int)} => Value.int .i64 x.1) (fun x y => rd ls x.1 - rd ls y.1) hO 53 #[.pointer (some ⟨b, 0, none⟩)] gb 0 cap ds.toArray w e53 hcmp hR' hdl
    have hsz : ds.toArray.size = (ds.map Subtype.val).length := by simp
    rw [hsz] at hc
    refine hc.mono ?_
    rintro e w' ⟨rfl, m, os, rfl⟩
    rw [sortWorld_map Subtype.val (Value.int .i64)]
    have him : (isort (ltOf fun x y : {x : Int // 0 ≤ x ∧ x < (ls.length : Int)} => rd ls x.1 - rd ls y.1) ds).map Subtype.val = isort (ltL ls) (ds.map Subtype.val) := by
      rw [← isort_map Subtype.val (ltL ls) ds]
      congr 1
      congr 1
      funext x y
      unfold ltOf ltL
      congr 1
      rw [eq_iff_iff]
      show rd ls x.1 - rd ls y.1 < 0 ↔ rd ls x.1 < rd ls y.1
      omega
    obtain ⟨k1, k2⟩ := hback (isort (ltL ls) (ds.map Subtype.val)) (sortWorld (Value.int .i64) w gb 0 m ((isort (ltOf fun x y : {x : Int // 0 ≤ x ∧ x < (ls.length : Int)} => rd ls x.1 - rd ls y.1) ds.toArray.toList).toArray.map Subtype.val) os) (by simp [isort_length]) ⟨m, os, by rw [← him]; simp⟩
    exact ⟨rfl, k1, k2⟩

/-- The present symbols of a list, from symbol i on. -/
def syms (i : Nat) : List Int → List Int
  | [] => []
  | c :: cs => if 0 < c then (i : Int) :: syms (i + 1) cs else syms (i + 1) cs
theorem syms_snoc (cs : List Int) (c : Int) : ∀ i, syms i (cs ++ [c]) = syms i cs ++ if 0 < c then [((i + cs.length : Nat) : Int)] else [] := by
  induction cs with
  | nil => intro i; simp [syms]
  | cons d cs ih =>
    intro i
    rw [List.cons_append, syms, syms, ih]
    split <;> simp [Nat.add_comm, Nat.add_left_comm]
theorem syms_length (cs : List Int) : ∀ i, (syms i cs).length ≤ cs.length := by
  induction cs with
  | nil => intro i; simp [syms]
  | cons d cs ih =>
    intro i
    have := ih (i + 1)
    rw [syms]
    split <;> simp <;> omega
theorem syms_mem (cs : List Int) : ∀ i x, x ∈ syms i cs → (i : Int) ≤ x ∧ x < i + cs.length := by
  induction cs with
  | nil => intro i x h; simp [syms] at h
  | cons d cs ih =>
    intro i x h
    rw [syms] at h
    rw [List.length_cons]
    split at h
    · rcases List.mem_cons.1 h with h | h
      · subst h; omega
      · have := ih (i + 1) x h; omega
    · have := ih (i + 1) x h; omega

/-- huffman.inOrder. -/
def orderOf (ls : List Int) : List Int := isort (ltL ls) (syms 0 ls)

set_option maxHeartbeats 1000000 in
set_option maxRecDepth 100000 in
theorem inOrder_calls (A : Option Addr) (c : Nat) (ls : List Int) (w : World) (hr : Kd.C (Kd.int .i64) w A ls.length ls) (hn : ls.length < 1000000) (hok : ∀ n ∈ ls, 0 ≤ n ∧ n ≤ 15) :
    Calls Try.prog 45 #[.slice A ls.length c] w fun e w' => ∃ v, e = .returned v ∧ (Kd.int .i64).R 3 w' w.heap.size (fun _ => True) v (orderOf ls) ∧ Below w.heap.size w w' := by
  have HR := Aside0.mk hr
  have HOK := Aside0.mk hok
  clear hr hok
  have e52 : ∀ args w, (callFunc 52 args).run Try.prog w = .ok (.enter 52 args) w := enters_of Try.func52 (by kernel_rfl) rfl
  go_enter Try.func45, Try.ntmps45
  go_wp2
  have HBX : Aside0 ((w.alloc (.cells #[.slice A ls.length c] 22)).cell? ⟨w.heap.size, 0, none⟩ = some (.slice A ls.length c)) := ⟨World.cell?_alloc_at _ _ _ _ rfl⟩
  have HB1 := Aside0.mk (below_alloc' (Below.refl w.heap.size w) (.cells #[.slice A ls.length c] 22))
  have HC1 := Aside0.mk (Kd.C_below HR.out HB1.out)
  have HS1 := Aside0.mk HB1.out.size
  generalize hw1 : w.alloc (.cells #[.slice A ls.length c] 22) = w1 at HBX HB1 HC1 HS1 ⊢
  clear hw1
  go_loopg [3, 8] ls.length (fun kx s3 s8 w' => ∃ (k : Nat), s8 = .int .i64 k ∧ k ≤ ls.length ∧ ls.length - k ≤ kx ∧ Aside0 ((Kd.int .i64).R 3 w' w1.heap.size (fun _ => True) s3 (syms 0 (ls.take k))) ∧ Aside0 (Below w1.heap.size w1 w'))
  case atStart => exact ⟨0, rfl, by omega, by omega, ⟨Kd.R_nil _ _ _ _ _⟩, ⟨Below.refl _ _⟩⟩
  case round =>
    obtain ⟨k, rfl, hk, hkx, HO, HB⟩ := hrel
    have hpl := syms_length (ls.take k) 0
    have htl : (ls.take k).length ≤ k := List.length_take_le _ _
    by_cases hlt : k < ls.length
    · have hltz : (k : Int) < (ls.length : Int) := by omega
      obtain ⟨ad, rfl, hx⟩ := int_at HC1.out k hlt
      replace hx := (HB.out.cell (World.block_lt_of_cell? w1 _ hx)).trans hx
      have hts := take_snoc_rd ls k hlt
      have hps : Hid (syms 0 (ls.take (k + 1)) = syms 0 (ls.take k) ++ if 0 < rd ls k then [(k : Int)] else []) := by
        show _ = _
        rw [hts, syms_snoc]
        simp [Nat.min_eq_left (Nat.le_of_lt hlt)]
      clear hts
      generalize rd ls (k : Int) = x at hx hps
      by_cases hc : 0 < x
      · have hps2 : Hid (syms 0 (ls.take (k + 1)) = syms 0 (ls.take k) ++ [(k : Int)]) := by show _ = _; rw [hps.out, if_pos hc]
        clear hps
        go_wp2_with (first | (at_builtin; refine Kd.R_append (Kd.int .i64) (w0 := w1) w1.heap.size ?aG (.tmp 15) (.tmp 17) 22 3 (.int .i64 0) 8 ?aOp Try.underlying22 info3 rfl (by decide) (by omega) u3 (syms 0 (ls.take k)) (k : Int) [.int .i64 k] (fun _ => True) (fun _ => False) ?aV ?aX ?aP (fun _ hk => hk.elim) ?aF ?aO ?aB ?aS ?aL ?_; (case aG => rfl); (case aOp => rfl); (case aV => rfl); (case aX => rfl); (case aF => exact fun _ _ => trivial); (case aO => exact HO.out); (case aB => exact HB.out); (case aS => exact HB.out.size); (case aL => omega); (case aP => exact rfl); intro v1 w2 ho hb hg hat; rw [← hps2.out] at ho; clear hg hat))
        go_roundg (ls.length - (k + 1))
        case measure => omega
        case rel => exact ⟨k + 1, by go_num, by omega, Nat.le_refl _, ⟨ho⟩, ⟨hb⟩⟩
      · have hps2 : Hid (syms 0 (ls.take (k + 1)) = syms 0 (ls.take k)) := by show _ = _; rw [hps.out, if_neg hc, List.append_nil]
        clear hps
        go_wp2
        go_roundg (ls.length - (k + 1))
        case measure => omega
        case rel => exact ⟨k + 1, by go_num, by omega, Nat.le_refl _, ⟨by rw [hps2.out]; exact HO.out⟩, HB⟩
    · have hltz : ¬ (k : Int) < (ls.length : Int) := by omega
      obtain rfl : k = ls.length := by omega
      have hsort := sort_syms A c ls w.heap.size HOK.out HO.out (fun x hx => by
        have h1 := syms_mem _ _ _ hx
        rw [List.take_length] at h1
        omega) (by omega) (fun W hg => by
          have hB2 : Below w1.heap.size w1 W := pw_below_grown HB.out _ HB.out.size hg (fun k hk => own_base (Kd.own_of_R HO.out) k hk)
          exact ⟨(hB2.cell (World.block_lt_of_cell? w1 _ HBX.out)).trans HBX.out, Kd.C_below HC1.out hB2⟩)
      rw [List.take_length] at hsort
      have hbase := fun k hk => own_base (Kd.own_of_R HO.out) k hk
      clear HO hkx
      go_wp2_with (go_at_call 52; refine hsort.mono ?_; rintro e w2 ⟨rfl, ho, hg⟩)
      go_ret
      exact ⟨_, rfl, Kd.R_lower ho HS1.out, below_then HB1.out HS1.out (pw_below_grown HB.out _ HB.out.size hg hbase)⟩
end Go.Proofs.Ytdmhhgkplcaejaa
