/- The reference's merge. -/
import Derived.Test.YtdmhhgkplcaejaaQ1
import Derived.Test.YtdmhhgkplcaejaaH3
import Derived.BigQuiet
namespace Go.Proofs.Ytdmhhgkplcaejaa
open Go.Shelf Go.RowKit Go.Lib Go.Sort Go.Proofs.YtdmhhgkplcaejaaW.PrintWords

/-- The reference's item: weight, leaf, the slice of its occurrences. -/
structure X3 where
  w : Int
  lf : Bool
  g : Nat
  n : Nat
  c : Nat
  deriving Inhabited
def encX (x : X3) : List Value := [.int .i64 x.w, .bool x.lf, .slice (some ⟨x.g, 0, none⟩) x.n x.c]
theorem encX_len (x : X3) : (encX x).length = 3 := rfl
theorem encX_one (x : X3) : ∀ u ∈ encX x, u.oneCell' = true := by
  intro u hu
  simp only [encX, List.mem_cons, List.not_mem_nil, or_false] at hu
  rcases hu with rfl | rfl | rfl <;> rfl
def kX : Kd X3 := flatKd encX 3 encX_len encX_one
theorem info53 : (Try.prog.info? 53).map (fun i => (i.zero, i.size, i.bytes)) = some (some (.agg #[.int .i64 0, .bool false, .slice none 0 0]), 3, 40) := by kernel_rfl
def ltX (a b : X3) : Bool := decide (a.w < b.w)
theorem swoX : SWO ltX where
  irrefl x := by unfold ltX; simp
  trans x y z h1 h2 := by unfold ltX at *; simp at *; omega
  ntrans x y z h1 h2 := by unfold ltX at *; simp at *; omega
def SrtX (l : List X3) : Prop := l.Pairwise (fun a b => ltX b a = false)

theorem kX_form {base : Nat} {ok : Nat → Prop} {w : World} {v : Value} {xs : List X3} (h : kX.R 53 w base ok v xs) (h0 : 0 < xs.length) :
    ∃ g cap, v = .slice (some ⟨g, 0, none⟩) xs.length cap ∧ xs.length ≤ cap ∧ base ≤ g ∧ g < w.heap.size ∧ ∀ k, k < xs.length → w.cell? ⟨g, k * 3, none⟩ = some (.int .i64 (xs.getD k default).w) ∧ w.cell? ⟨g, k * 3 + 1, none⟩ = some (.bool (xs.getD k default).lf) ∧ w.cell? ⟨g, k * 3 + 2, none⟩ = some (.slice (some ⟨(xs.getD k default).g, 0, none⟩) (xs.getD k default).n (xs.getD k default).c) := by
  have ho := flat_own encX_len encX_one (by decide) h
  rcases ho.2 with ⟨_, hz⟩ | ⟨g, cap, cur, rfl, hg, hh, hn, hm, hc, ht⟩
  · omega
  refine ⟨g, cap, rfl, hn, hg, (Array.getElem?_eq_some_iff.1 hh).1, fun k hk => ?_⟩
  have key : ∀ f, f < 3 → w.cell? ⟨g, k * 3 + f, none⟩ = some (encX (xs.getD k default))[f]! := fun f hf => by
    rw [ho.cellAt (k * 3 + f) (by omega), flatMap_get encX_len (by decide) xs _ (by omega)]
    rw [show (k * 3 + f) / 3 = k by omega, show (k * 3 + f) % 3 = f by omega, List.getD_eq_getElem?_getD]
  exact ⟨key 0 (by decide), key 1 (by decide), key 2 (by decide)⟩
theorem kX_slice {base : Nat} {ok : Nat → Prop} {w : World} {v : Value} {xs : List X3} (h : kX.R 53 w base ok v xs) : ∃ A c, v = .slice A xs.length c := by
  have ho := flat_own encX_len encX_one (by decide) h
  rcases ho.2 with ⟨hv, hz⟩ | ⟨g, cap, cur, rfl, _⟩
  · have : xs.length = 0 := by omega
    rw [this, hv]; exact ⟨_, _, rfl⟩
  · exact ⟨_, _, rfl⟩

/-- Merging so far: of a the first i taken, of b the first t. -/
def mrg (a b : List X3) (t : Nat) : List X3 := (b.take t).foldl (fun acc x => ins1 ltX x acc) a

set_option maxHeartbeats 4000000 in
set_option maxRecDepth 100000 in
theorem merge_calls {b1 b2 : Nat} {ok1 ok2 : Nat → Prop} {v1 v2 : Value} {a b : List X3} {w : World} (h1 : kX.R 53 w b1 ok1 v1 a) (h2 : kX.R 53 w b2 ok2 v2 b) (hla : a.length < 100000) (hlb : b.length < 100000) (ha0 : 0 < a.length) (hb0 : 0 < b.length) (hsb : SrtX b) :
    Calls Try.prog 26 #[v1, v2] w fun e w' => ∃ v, e = .returned v ∧ kX.R 53 w' w.heap.size (fun _ => True) v (mrg a b b.length) ∧ Below w.heap.size w w' := by
  obtain ⟨ga, ca, rfl, hca, hga, hgas, HA⟩ := kX_form h1 ha0
  obtain ⟨gb, cb, rfl, hcb, hgb, hgbs, HB⟩ := kX_form h2 hb0
  have HA := Aside0.mk HA
  have HBc := Aside0.mk HB
  have H1 := Aside0.mk h1
  clear h1 h2 HB
  go_enter Try.func26, Try.ntmps26
  go_wp2
  go_loopg [5, 6, 11] b.length (fun kx s5 s6 s11 w' => ∃ (t i : Nat) (l : List X3), s11 = .int .i64 t ∧ s6 = .int .i64 i ∧ t ≤ b.length ∧ b.length - t ≤ kx ∧ i ≤ a.length ∧ l.length = i + t ∧ Aside0 (mrg a b t = l ++ a.drop i) ∧ Aside0 (∀ y ∈ l, t < b.length → ltX (b.getD t default) y = false) ∧ Aside0 (kX.R 53 w' w.heap.size (fun _ => True) s5 l) ∧ Aside0 (Below w.heap.size w w'))
  case atStart => exact ⟨0, 0, [], rfl, rfl, by omega, by omega, by omega, rfl, ⟨rfl⟩, ⟨fun y hy => by cases hy⟩, ⟨Kd.R_nil _ _ _ _ _⟩, ⟨Below.refl _ _⟩⟩
  case round =>
    obtain ⟨t, i, l, rfl, rfl, ht, htx, hi, hll, HM, HS, HO, HB⟩ := hrel
    by_cases hlt : t < b.length
    · have hltz : (t : Int) < (b.length : Int) := by omega
      obtain ⟨c0, c1, c2⟩ := HBc.out t hlt
      replace c0 := (HB.out.cell hgbs).trans c0
      replace c1 := (HB.out.cell hgbs).trans c1
      replace c2 := (HB.out.cell hgbs).trans c2
      generalize hp : b.getD t default = p at *
      have HMN : Hid (mrg a b (t + 1) = ins1 ltX p (mrg a b t)) := by
        show _ = _
        unfold mrg
        rw [List.take_succ_eq_append_getElem hlt, List.foldl_append, ← hp, List.getD_eq_getElem?_getD, List.getElem?_eq_getElem hlt]
        rfl
      have HSN : Hid (∀ y : X3, ltX p y = false → t + 1 < b.length → ltX (b.getD (t + 1) default) y = false) := fun y hy h => by
        have h1 := List.pairwise_iff_getElem.1 hsb t (t + 1) (by omega) h (by omega)
        rw [← hp, List.getD_eq_getElem?_getD, List.getElem?_eq_getElem hlt] at hy
        rw [List.getD_eq_getElem?_getD, List.getElem?_eq_getElem h]
        simp only [ltX, Option.getD_some, decide_eq_false_iff_not] at h1 hy ⊢
        omega
      have HSP : Hid (ltX p p = false) := swoX.irrefl p
      have HS0 : Aside0 (∀ y ∈ l, ltX p y = false) := ⟨fun y hy => HS.out y hy hlt⟩
      go_wp2_with fail
      have hpb := blk_new wr (.cells #[.int .i64 p.w, .bool p.lf, .slice (some ⟨p.g, 0, none⟩) p.n p.c] 53)
      have HO1 : Aside0 (kX.R 53 (wr.alloc (.cells #[.int .i64 p.w, .bool p.lf, .slice (some ⟨p.g, 0, none⟩) p.n p.c] 53)) w.heap.size (fun k => k ≠ wr.heap.size) u5 l) := ⟨Kd.R_mono (Kd.R_below (Kd.R_bound HO.out) (below_alloc (Below.refl _ _) _)) (fun k hk => by have := hk.2.2.1; omega)⟩
      have HB1 := Aside0.mk (below_alloc HB.out (.cells #[.int .i64 p.w, .bool p.lf, .slice (some ⟨p.g, 0, none⟩) p.n p.c] 53))
      have HPB := Aside0.mk hpb
      have hszp : wr.heap.size < (wr.alloc (.cells #[.int .i64 p.w, .bool p.lf, .slice (some ⟨p.g, 0, none⟩) p.n p.c] 53)).heap.size := by rw [World.size_alloc]; omega
      have hpw : w.heap.size ≤ wr.heap.size := HB.out.size
      clear hpb c0 c1 c2 HO HB HS
      generalize hW1 : wr.alloc (.cells #[.int .i64 p.w, .bool p.lf, .slice (some ⟨p.g, 0, none⟩) p.n p.c] 53) = W1 at HO1 HB1 HPB hszp ⊢
      clear hW1
      generalize hpbn : wr.heap.size = pb at *
      clear hpbn
      go_loopg [5, 6] a.length (fun kx s5 s6 w' => ∃ (j : Nat) (l' : List X3), s6 = .int .i64 j ∧ j ≤ a.length ∧ a.length - j ≤ kx ∧ l'.length = j + t ∧ pb < w'.heap.size ∧ Aside0 (mrg a b t = l' ++ a.drop j) ∧ Aside0 (∀ y ∈ l', ltX p y = false) ∧ Aside0 (kX.R 53 w' w.heap.size (fun k => k ≠ pb) s5 l') ∧ Aside0 (Below w.heap.size w w') ∧ Aside0 (w'.heap[pb]? = some (.cells #[.int .i64 p.w, .bool p.lf, .slice (some ⟨p.g, 0, none⟩) p.n p.c] 53 (0, 0))))
      case atStart => exact ⟨i, l, rfl, hi, by omega, hll, hszp, HM, HS0, HO1, HB1, HPB⟩
      case round =>
        clear HO1 HB1 HPB HM HS0
        obtain ⟨j, l', rfl, hj, hjx, hll', hszp', HM, HS, HO, HB, HPB⟩ := hrel
        have hp0 : wr.cell? ⟨pb, 0, none⟩ = some (.int .i64 p.w) := blk_cell HPB.out 0
        by_cases hja : j < a.length
        · have hjz : decide ((j : Int) < (a.length : Int)) = true := decide_eq_true (by omega)
          have hjz' : (j : Int) < (a.length : Int) := by omega
          obtain ⟨c0, c1, c2⟩ := HA.out j hja
          replace c0 := (HB.out.cell hgas).trans c0
          replace c1 := (HB.out.cell hgas).trans c1
          replace c2 := (HB.out.cell hgas).trans c2
          have hdrop : a.drop j = a.getD j default :: a.drop (j + 1) := by
            rw [List.drop_eq_getElem_cons hja, List.getD_eq_getElem?_getD, List.getElem?_eq_getElem hja]
            rfl
          generalize a.getD j default = q at *
          by_cases hqp : q.w ≤ p.w
          · have d2 : decide (q.w ≤ p.w) = true := decide_eq_true hqp
            have HM2 : Aside0 (mrg a b t = (l' ++ [q]) ++ a.drop (j + 1)) := ⟨by rw [HM.out, hdrop, List.append_assoc]; rfl⟩
            have HS2 : Aside0 (∀ y ∈ l' ++ [q], ltX p y = false) := ⟨fun y hy => by
              rcases List.mem_append.1 hy with h | h
              · exact HS.out y h
              · rw [List.mem_singleton] at h; subst h; unfold ltX; simp; omega⟩
            clear hdrop HM HS
            go_wp2_with fail
            go_quiet (fail)
            have HO2 := Aside0.mk (Kd.R_below HO.out (pw_below_drewN (Below.refl wr.heap.size wr) nq))
            have HB2 := Aside0.mk (pw_below_drewN HB.out nq)
            have HP2 := Aside0.mk (blk_below HPB.out (pw_below_drewN (Below.refl wr.heap.size wr) nq))
            have hszp2 : pb < (wr.drewN nq).heap.size := Nat.lt_of_lt_of_le hszp' (pw_below_drewN (Below.refl wr.heap.size wr) nq).size
            replace c0 := pw_cell_below (pw_below_drewN (Below.refl wr.heap.size wr) nq) c0
            replace c1 := pw_cell_below (pw_below_drewN (Below.refl wr.heap.size wr) nq) c1
            replace c2 := pw_cell_below (pw_below_drewN (Below.refl wr.heap.size wr) nq) c2
            clear HO HB HPB hp0 hszp'
            generalize wr.drewN nq = W2 at HO2 HB2 HP2 hszp2 c0 c1 c2 ⊢
            go_wp2_with (first | (at_builtin; refine Kd.R_append kX (w0 := w) (W := W2) w.heap.size ?aG (.tmp 29) (.tmp 34) 51 53 (.agg #[.int .i64 0, .bool false, .slice none 0 0]) 40 ?aOp Try.underlying51 info53 rfl (by decide) (by omega) u5 l' q (encX q) (fun k => k ≠ pb) (fun _ => False) ?aV ?aX ?aP (fun _ hk => hk.elim) ?aF ?aO ?aB ?aS ?aL ?_; (case aG => rfl); (case aOp => rfl); (case aV => rfl); (case aX => rfl); (case aP => exact rfl); (case aF => exact fun k hk => by omega); (case aO => exact HO2.out); (case aB => exact HB2.out); (case aS => exact HB2.out.size); (case aL => omega); intro v4 w4 ho hb hg hat; have HP4 := Aside0.mk (blk_grown HP2.out hg (fun e => HO2.out.1 pb e.symm rfl)); have hs4 := hg.size; clear hg hat))
            go_roundg (a.length - (j + 1))
            case measure => omega
            case rel => exact ⟨j + 1, l' ++ [q], by go_num, by omega, Nat.le_refl _, by rw [List.length_append, List.length_singleton]; omega, by omega, HM2, HS2, ⟨ho⟩, ⟨hb⟩, HP4⟩
          · have d2 : decide (q.w ≤ p.w) = false := decide_eq_false hqp
            have HHD : Aside0 (a.drop j = [] ∨ ∃ y r, a.drop j = y :: r ∧ ltX p y = true) := ⟨.inr ⟨q, _, hdrop, by unfold ltX; simp; omega⟩⟩
            clear hdrop
            have HMX : Aside0 (mrg a b (t + 1) = (l' ++ [p]) ++ a.drop j) := ⟨by rw [HMN.out, HM.out, ins1_mid ltX p l' (a.drop j) HS.out HHD.out, List.append_assoc]; rfl⟩
            have HSX : Aside0 (∀ y ∈ l' ++ [p], t + 1 < b.length → ltX (b.getD (t + 1) default) y = false) := ⟨fun y hy h => by
              rcases List.mem_append.1 hy with h' | h'
              · exact HSN.out y (HS.out y h') h
              · rw [List.mem_singleton] at h'; subst h'; exact HSN.out y HSP.out h⟩
            clear HM HS HHD
            go_wp2_with fail
            go_quiet (fail)
            have HO2 : Aside0 (kX.R 53 (wr.drewN nq) w.heap.size (fun _ => True) u5 l') := ⟨Kd.R_mono (Kd.R_below HO.out (pw_below_drewN (Below.refl wr.heap.size wr) nq)) (fun _ _ => trivial)⟩
            have HB2 := Aside0.mk (pw_below_drewN HB.out nq)
            have HP2 := blk_below HPB.out (pw_below_drewN (Below.refl wr.heap.size wr) nq)
            clear HO HB HPB hp0 hszp' c0 c1 c2
            generalize wr.drewN nq = W2 at HO2 HB2 HP2 ⊢
            have hp0 : W2.cell? ⟨pb, 0, none⟩ = some (.int .i64 p.w) := blk_cell HP2 0
            have hp1 : W2.cell? ⟨pb, 1, none⟩ = some (.bool p.lf) := blk_cell HP2 1
            have hp2 : W2.cell? ⟨pb, 2, none⟩ = some (.slice (some ⟨p.g, 0, none⟩) p.n p.c) := blk_cell HP2 2
            clear HP2
            go_wp2_with (first | (at_builtin; refine Kd.R_append kX (w0 := w) (W := W2) w.heap.size ?aG (.tmp 38) (.tmp 40) 51 53 (.agg #[.int .i64 0, .bool false, .slice none 0 0]) 40 ?aOp Try.underlying51 info53 rfl (by decide) (by omega) u5 l' p (encX p) (fun _ => True) (fun _ => False) ?aV ?aX ?aP (fun _ hk => hk.elim) ?aF ?aO ?aB ?aS ?aL ?_; (case aG => rfl); (case aOp => rfl); (case aV => rfl); (case aX => rfl); (case aP => exact rfl); (case aF => exact fun _ _ => trivial); (case aO => exact HO2.out); (case aB => exact HB2.out); (case aS => exact HB2.out.size); (case aL => omega); intro v4 w4 ho hb hg hat; clear hg hat))
            go_roundg (b.length - (t + 1))
            case measure => omega
            case rel => exact ⟨t + 1, j, l' ++ [p], by go_num, by go_num, by omega, Nat.le_refl _, hj, by rw [List.length_append, List.length_singleton]; omega, HMX, HSX, ⟨ho⟩, ⟨hb⟩⟩
        · have hjz : decide ((j : Int) < (a.length : Int)) = false := decide_eq_false (by omega)
          have HHD : Aside0 (a.drop j = [] ∨ ∃ y r, a.drop j = y :: r ∧ ltX p y = true) := ⟨.inl (List.drop_of_length_le (by omega))⟩
          have HMX : Aside0 (mrg a b (t + 1) = (l' ++ [p]) ++ a.drop j) := ⟨by rw [HMN.out, HM.out, ins1_mid ltX p l' (a.drop j) HS.out HHD.out, List.append_assoc]; rfl⟩
          have HSX : Aside0 (∀ y ∈ l' ++ [p], t + 1 < b.length → ltX (b.getD (t + 1) default) y = false) := ⟨fun y hy h => by
            rcases List.mem_append.1 hy with h' | h'
            · exact HSN.out y (HS.out y h') h
            · rw [List.mem_singleton] at h'; subst h'; exact HSN.out y HSP.out h⟩
          clear HM HS HHD
          go_wp2_with fail
          go_quiet (fail)
          have HO2 : Aside0 (kX.R 53 (wr.drewN nq) w.heap.size (fun _ => True) u5 l') := ⟨Kd.R_mono (Kd.R_below HO.out (pw_below_drewN (Below.refl wr.heap.size wr) nq)) (fun _ _ => trivial)⟩
          have HB2 := Aside0.mk (pw_below_drewN HB.out nq)
          have HP2 := blk_below HPB.out (pw_below_drewN (Below.refl wr.heap.size wr) nq)
          clear HO HB HPB hp0 hszp'
          generalize wr.drewN nq = W2 at HO2 HB2 HP2 ⊢
          have hp0 : W2.cell? ⟨pb, 0, none⟩ = some (.int .i64 p.w) := blk_cell HP2 0
          have hp1 : W2.cell? ⟨pb, 1, none⟩ = some (.bool p.lf) := blk_cell HP2 1
          have hp2 : W2.cell? ⟨pb, 2, none⟩ = some (.slice (some ⟨p.g, 0, none⟩) p.n p.c) := blk_cell HP2 2
          clear HP2
          go_wp2_with (first | (at_builtin; refine Kd.R_append kX (w0 := w) (W := W2) w.heap.size ?aG (.tmp 38) (.tmp 40) 51 53 (.agg #[.int .i64 0, .bool false, .slice none 0 0]) 40 ?aOp Try.underlying51 info53 rfl (by decide) (by omega) u5 l' p (encX p) (fun _ => True) (fun _ => False) ?aV ?aX ?aP (fun _ hk => hk.elim) ?aF ?aO ?aB ?aS ?aL ?_; (case aG => rfl); (case aOp => rfl); (case aV => rfl); (case aX => rfl); (case aP => exact rfl); (case aF => exact fun _ _ => trivial); (case aO => exact HO2.out); (case aB => exact HB2.out); (case aS => exact HB2.out.size); (case aL => omega); intro v4 w4 ho hb hg hat; clear hg hat))
          go_roundg (b.length - (t + 1))
          case measure => omega
          case rel => exact ⟨t + 1, j, l' ++ [p], by go_num, by go_num, by omega, Nat.le_refl _, hj, by rw [List.length_append, List.length_singleton]; omega, HMX, HSX, ⟨ho⟩, ⟨hb⟩⟩
    · have hltz : ¬ (t : Int) < (b.length : Int) := by omega
      obtain rfl : t = b.length := by omega
      have HCD := Aside0.mk (Kd.C_drop (m := i) (Kd.C_below (Kd.R_reads' H1.out).2.2 HB.out) hi hca)
      have p0 : (0 : Int) ≤ (i : Int) := by omega
      have p1 : (i : Int) ≤ (a.length : Int) := by omega
      have hdl : (a.drop i).length = a.length - i := List.length_drop
      rw [hdl] at HCD
      by_cases hci : ca = i
      · have HCD2 : Aside0 (kX.C wr (some ⟨ga, 0, none⟩) 0 (a.drop i)) := ⟨by have h := HCD.out; rw [if_pos hci, show a.length - i = 0 by omega] at h; exact h⟩
        clear HCD hdl
        subst hci
        go_wp2_with (first | (at_builtin; refine Kd.R_append_rows kX (Rr := fun x cs => cs = encX x) (w0 := w) w.heap.size ?aG (.tmp 43) (.tmp 46) 51 53 (.agg #[.int .i64 0, .bool false, .slice none 0 0]) 40 ?aOp Try.underlying51 info53 rfl (by decide) (by decide) u5 l (a.drop ca) (some ⟨ga, 0, none⟩) 0 0 (fun _ => True) (fun _ => False) ?aV ?aX ?aO ?aR ?aK (fun _ hk => hk.elim) ?aF ?aB ?aS ?aL ?_; (case aG => rfl); (case aOp => rfl); (case aV => rfl); (case aX => rfl); (case aF => exact fun _ _ => trivial); (case aK => exact fun _ _ h => h); (case aO => exact HO.out); (case aR => exact HCD2.out); (case aB => exact HB.out); (case aS => exact HB.out.size); (case aL => omega); intro v4 w4 ho hb hg hat; clear hg hat))
        go_ret
        exact ⟨_, rfl, by rw [HM.out]; exact ho, hb⟩
      · have hci2 : ¬ i = ca := fun h => hci h.symm
        have hci3 : ¬ ca - i = 0 := by omega
        have hci4 : (ca - i == 0) = false := by simp; omega
        have hci5 : i < ca := by omega
        have HCD2 : Aside0 (kX.C wr (some ⟨ga, i * 3, none⟩) (a.length - i) (a.drop i)) := ⟨by have h := HCD.out; rw [if_neg hci] at h; rw [← add_plain ga (i * 3)]; exact h⟩
        clear HCD hdl
        go_wp2_with (first | (at_builtin; refine Kd.R_append_rows kX (Rr := fun x cs => cs = encX x) (w0 := w) w.heap.size ?aG (.tmp 43) (.tmp 46) 51 53 (.agg #[.int .i64 0, .bool false, .slice none 0 0]) 40 ?aOp Try.underlying51 info53 rfl (by decide) (by decide) u5 l (a.drop i) (some ⟨ga, i * 3, none⟩) (a.length - i) (ca - i) (fun _ => True) (fun _ => False) ?aV ?aX ?aO ?aR ?aK (fun _ hk => hk.elim) ?aF ?aB ?aS ?aL ?_; (case aG => rfl); (case aOp => rfl); (case aV => rfl); (case aX => rfl); (case aF => exact fun _ _ => trivial); (case aK => exact fun _ _ h => h); (case aO => exact HO.out); (case aR => exact HCD2.out); (case aB => exact HB.out); (case aS => exact HB.out.size); (case aL => omega); intro v4 w4 ho hb hg hat; clear hg hat))
        go_ret
        exact ⟨_, rfl, by rw [HM.out]; exact ho, hb⟩
end Go.Proofs.Ytdmhhgkplcaejaa
