/- huffman.tableOf: the table built. -/
import Derived.Test.YtdmhhgkplcaejaaD4
import Derived.BigRegion
namespace Go.Proofs.Ytdmhhgkplcaejaa
open Go.RowKit Go.Sort Go.Proofs.YtdmhhgkplcaejaaW.PrintWords

/-- The table at block p: first codes, symbols, longest length. -/
structure TabC (p base : Nat) (F : Nat → Int) (S : Nat → List Int) (L : Int) (cs : Array Value) (T : Nat → Value) (w : World) : Prop where
  blk : w.heap[p]? = some (.cells cs 87 (0, 0))
  size : cs.size = 33
  first : ∀ n, n < 16 → cs[n]? = some (.int .u64 (F n))
  syms : ∀ n, n < 16 → cs[16 + n]? = some (T n)
  long : cs[32]? = some (.int .i64 L)
  rows : ∀ n, n < 16 → (Kd.int .i64).R 3 w base (fun _ => True) (T n) (S n)
  apart : ∀ n m, n < 16 → m < 16 → n ≠ m → (T n).ownBlock = (T m).ownBlock → (T n).ownBlock = none
def Tab (p base : Nat) (F : Nat → Int) (S : Nat → List Int) (L : Int) (w : World) : Prop := ∃ cs T, TabC p base F S L cs T w

theorem own_none_or {k : Nat} {v : Value} : some k ≠ v.ownBlock ∨ v.ownBlock = some k := by
  by_cases h : v.ownBlock = some k
  · exact .inr h
  · exact .inl (fun e => h e.symm)

/-- Other rows stay when one has grown. -/
theorem row_stays {w w1 : World} {base : Nat} {v u : Value} {xs : List Int} (h : (Kd.int .i64).R 3 w base (fun _ => True) v xs) (hg : w.grownBy w1 u.ownBlock) (hne : v.ownBlock = u.ownBlock → v.ownBlock = none) : (Kd.int .i64).R 3 w1 base (fun _ => True) v xs := by
  have h1 : (Kd.int .i64).R 3 w base (fun k => v.ownBlock = some k) v xs := Kd.R_of_own (Kd.own_of_R h) (fun k hk => hk)
  refine Kd.R_mono (Kd.R_grown h1 hg (fun k hk e => ?_)) (fun _ _ => trivial)
  have : v.ownBlock = u.ownBlock := by rw [hk, e]
  rw [hne this] at hk
  cases hk

/-- A first code laid. -/
theorem TabC.setF {p base : Nat} {F : Nat → Int} {S : Nat → List Int} {L : Int} {cs : Array Value} {T : Nat → Value} {w : World} (h : TabC p base F S L cs T w) {n : Nat} (hn : n < 16) (x : Int) :
    TabC p base (fun m => if m = n then x else F m) S L (cs.setIfInBounds n (.int .u64 x)) T (w.setCell ⟨p, n, none⟩ (.int .u64 x)) where
  blk := blk_set h.blk n _
  size := by rw [Array.size_setIfInBounds]; exact h.size
  first m hm := by
    rw [Array.getElem?_setIfInBounds]
    by_cases e : n = m
    · subst e; rw [if_pos rfl, if_pos (by rw [h.size]; omega), if_pos rfl]
    · rw [if_neg e, if_neg (fun h => e h.symm)]; exact h.first m hm
  syms m hm := by rw [Array.getElem?_setIfInBounds, if_neg (by omega)]; exact h.syms m hm
  long := by rw [Array.getElem?_setIfInBounds, if_neg (by omega)]; exact h.long
  rows m hm := Kd.R_set (h.rows m hm) h.blk (by decide) _ _
  apart := h.apart
theorem TabC.setL {p base : Nat} {F : Nat → Int} {S : Nat → List Int} {L : Int} {cs : Array Value} {T : Nat → Value} {w : World} (h : TabC p base F S L cs T w) (x : Int) :
    TabC p base F S x (cs.setIfInBounds 32 (.int .i64 x)) T (w.setCell ⟨p, 32, none⟩ (.int .i64 x)) where
  blk := blk_set h.blk 32 _
  size := by rw [Array.size_setIfInBounds]; exact h.size
  first m hm := by rw [Array.getElem?_setIfInBounds, if_neg (by omega)]; exact h.first m hm
  syms m hm := by rw [Array.getElem?_setIfInBounds, if_neg (by omega)]; exact h.syms m hm
  long := by rw [Array.getElem?_setIfInBounds, if_pos rfl, if_pos (by rw [h.size]; omega)]
  rows m hm := Kd.R_set (h.rows m hm) h.blk (by decide) _ _
  apart := h.apart
/-- A row grown, and laid in its place. -/
theorem TabC.setT {p base : Nat} {F : Nat → Int} {S : Nat → List Int} {L : Int} {cs : Array Value} {T : Nat → Value} {w w1 : World} (h : TabC p base F S L cs T w) {n : Nat} (hn : n < 16) {v : Value} {xs : List Int}
    (ho : (Kd.int .i64).R 3 w1 base (fun _ => True) v xs) (hg : w.grownBy w1 (T n).ownBlock) (hat : v.ownBlock = (T n).ownBlock ∨ ∃ b, v.ownBlock = some b ∧ w.heap.size ≤ b) :
    TabC p base F (fun m => if m = n then xs else S m) L (cs.setIfInBounds (16 + n) v) (fun m => if m = n then v else T m) (w1.setCell ⟨p, 16 + n, none⟩ v) := by
  have hb1 : w1.heap[p]? = some (.cells cs 87 (0, 0)) := blk_grown h.blk hg (own_ne (Kd.own_of_R (h.rows n hn)) h.blk (by decide))
  refine ⟨blk_set hb1 (16 + n) _, by rw [Array.size_setIfInBounds]; exact h.size, fun m hm => ?_, fun m hm => ?_, ?_, fun m hm => ?_, fun a b ha hb hab => ?_⟩
  · rw [Array.getElem?_setIfInBounds, if_neg (by omega)]; exact h.first m hm
  · rw [Array.getElem?_setIfInBounds]
    by_cases e : m = n
    · subst e; rw [if_pos rfl, if_pos (by rw [h.size]; omega), if_pos rfl]
    · rw [if_neg (by omega), if_neg e]; exact h.syms m hm
  · rw [Array.getElem?_setIfInBounds, if_neg (by omega)]; exact h.long
  · refine Kd.R_set ?_ hb1 (by decide) _ _
    by_cases e : m = n
    · subst e; simp only [if_true]; exact ho
    · simp only [if_neg e]
      exact row_stays (h.rows m hm) hg (h.apart m n hm hn e)
  · have key : ∀ m, m < 16 → m ≠ n → v.ownBlock = (T m).ownBlock → v.ownBlock = none ∧ (T m).ownBlock = none := fun m hm hmn e => by
      rcases hat with hat | ⟨b, hb, hsz⟩
      · have := h.apart m n hm hn hmn (by rw [← e, hat])
        rw [e, this]
        exact ⟨rfl, rfl⟩
      · have := own_lt (Kd.own_of_R (h.rows m hm)) b (by rw [← e, hb])
        omega
    by_cases ea : a = n
    · subst ea
      have eb : b ≠ a := fun e => hab e.symm
      simp only [if_true, if_neg eb]
      exact fun e => (key b hb eb e).1
    · by_cases eb : b = n
      · subst eb
        simp only [if_true, if_neg ea]
        exact fun e => (key a ha ea e.symm).2
      · simp only [if_neg ea, if_neg eb]
        exact h.apart a b ha hb hab
theorem TabC.below {p base : Nat} {F : Nat → Int} {S : Nat → List Int} {L : Int} {cs : Array Value} {T : Nat → Value} {w w1 : World} (h : TabC p base F S L cs T w) (hb : Below w.heap.size w w1) : TabC p base F S L cs T w1 where
  blk := blk_below h.blk hb
  size := h.size
  first := h.first
  syms := h.syms
  long := h.long
  rows n hn := Kd.R_below (h.rows n hn) hb
  apart := h.apart
theorem TabC.cellF {p base : Nat} {F : Nat → Int} {S : Nat → List Int} {L : Int} {cs : Array Value} {T : Nat → Value} {w : World} (h : TabC p base F S L cs T w) {n : Nat} (hn : n < 16) : w.cell? ⟨p, n, none⟩ = some (.int .u64 (F n)) := by
  rw [blk_cell h.blk]; exact h.first n hn
theorem TabC.cellT {p base : Nat} {F : Nat → Int} {S : Nat → List Int} {L : Int} {cs : Array Value} {T : Nat → Value} {w : World} (h : TabC p base F S L cs T w) {n : Nat} (hn : n < 16) : ∃ A c, T n = .slice A (S n).length c ∧ w.cell? ⟨p, 16 + n, none⟩ = some (.slice A (S n).length c) ∧ Kd.C (Kd.int .i64) w A (S n).length (S n) := by
  obtain ⟨A, c, e⟩ := own_slice (Kd.own_of_R (h.rows n hn))
  refine ⟨A, c, e, ?_, ?_⟩
  · rw [blk_cell h.blk, h.syms n hn, e]
  · have := h.rows n hn
    rw [e] at this
    exact (Kd.R_reads' this).2.2
theorem TabC.cellL {p base : Nat} {F : Nat → Int} {S : Nat → List Int} {L : Int} {cs : Array Value} {T : Nat → Value} {w : World} (h : TabC p base F S L cs T w) : w.cell? ⟨p, 32, none⟩ = some (.int .i64 L) := by
  rw [blk_cell h.blk]; exact h.long

/-- The table of the first j symbols in order. -/
def TabJ (ls : List Int) (p base j : Nat) (w : World) : Prop :=
  Tab p base (fst' ls (codesOf ls) ((orderOf ls).take j)) (cls ls ((orderOf ls).take j)) (lgst ls (orderOf ls) j) w

theorem tab_new (ls : List Int) (w : World) (base : Nat) {cs : Array Value} (hs : cs.size = 33) (h1 : ∀ n, n < 16 → cs[n]? = some (.int .u64 0)) (h2 : ∀ n, n < 16 → cs[16 + n]? = some (.slice none 0 0)) (h3 : cs[32]? = some (.int .i64 0)) :
    TabJ ls w.heap.size base 0 (w.alloc (.cells cs 87)) :=
  ⟨cs, fun _ => .slice none 0 0, blk_new w _, hs, fun n hn => by rw [h1 n hn]; simp [fst', cls], h2, h3, fun n _ => by
    rw [show cls ls ((orderOf ls).take 0) n = [] by simp [cls]]
    exact Kd.R_nil _ _ _ _ _, fun n m _ _ _ _ => by simp [Value.ownBlock]⟩

theorem TabC.congrF {p base : Nat} {F F' : Nat → Int} {S : Nat → List Int} {L : Int} {cs : Array Value} {T : Nat → Value} {w : World} (h : TabC p base F S L cs T w) (e : ∀ n, n < 16 → F' n = F n) : TabC p base F' S L cs T w :=
  ⟨h.blk, h.size, fun n hn => by rw [e n hn]; exact h.first n hn, h.syms, h.long, h.rows, h.apart⟩
theorem TabC.congrS {p base : Nat} {F : Nat → Int} {S S' : Nat → List Int} {L : Int} {cs : Array Value} {T : Nat → Value} {w : World} (h : TabC p base F S L cs T w) (e : ∀ n, n < 16 → S' n = S n) : TabC p base F S' L cs T w :=
  ⟨h.blk, h.size, h.first, h.syms, h.long, fun n hn => by rw [e n hn]; exact h.rows n hn, h.apart⟩

/-- An empty table's cells. -/
def tabZ : Array Value := #[.int .u64 0, .int .u64 0, .int .u64 0, .int .u64 0, .int .u64 0, .int .u64 0, .int .u64 0, .int .u64 0, .int .u64 0, .int .u64 0, .int .u64 0, .int .u64 0, .int .u64 0, .int .u64 0, .int .u64 0, .int .u64 0, .slice none 0 0, .slice none 0 0, .slice none 0 0, .slice none 0 0, .slice none 0 0, .slice none 0 0, .slice none 0 0, .slice none 0 0, .slice none 0 0, .slice none 0 0, .slice none 0 0, .slice none 0 0, .slice none 0 0, .slice none 0 0, .slice none 0 0, .slice none 0 0, .int .i64 0]
theorem lt16 {n : Nat} (h : n < 16) : n = 0 ∨ n = 1 ∨ n = 2 ∨ n = 3 ∨ n = 4 ∨ n = 5 ∨ n = 6 ∨ n = 7 ∨ n = 8 ∨ n = 9 ∨ n = 10 ∨ n = 11 ∨ n = 12 ∨ n = 13 ∨ n = 14 ∨ n = 15 := by omega
theorem tab_zero (ls : List Int) (w : World) (base : Nat) : TabJ ls w.heap.size base 0 (w.alloc (.cells tabZ 87)) := by
  refine tab_new ls w base rfl (fun n hn => ?_) (fun n hn => ?_) rfl
  · rcases lt16 hn with rfl | rfl | rfl | rfl | rfl | rfl | rfl | rfl | rfl | rfl | rfl | rfl | rfl | rfl | rfl | rfl <;> rfl
  · rcases lt16 hn with rfl | rfl | rfl | rfl | rfl | rfl | rfl | rfl | rfl | rfl | rfl | rfl | rfl | rfl | rfl | rfl <;> rfl
theorem TabJ.below {ls : List Int} {p base j : Nat} {w w1 : World} (h : TabJ ls p base j w) (hb : Below w.heap.size w w1) : TabJ ls p base j w1 := by
  obtain ⟨cs, T, h⟩ := h
  exact ⟨cs, T, h.below hb⟩
theorem keep_C {k : IntKind} {w w1 : World} {g : Nat} {A : Option Addr} {xs : List Int} (h : Kd.C (Kd.int k) w A xs.length xs) (hk : KeepBut w w1 g none) (i : Nat) (hi : i < xs.length) (hne : ∀ ad, A = some ad → ad.block ≠ g) : ∃ ad, A = some ad ∧ w1.cell? (ad.add i) = some (.int k (rd xs i)) := by
  obtain ⟨ad, rfl, hx⟩ := int_at h i hi
  exact ⟨ad, rfl, keep_cell hk hx (by rw [add_block]; exact hne ad rfl)⟩

set_option maxHeartbeats 4000000 in
set_option maxRecDepth 100000 in
theorem tableOf_calls (A : Option Addr) (c : Nat) (ls : List Int) (w : World) (hr : Kd.C (Kd.int .i64) w A ls.length ls) (hv : validOf ls = true) :
    Calls Try.prog 37 #[.slice A ls.length c] w fun e w' => ∃ p, e = .returned (.pointer (some ⟨p, 0, none⟩)) ∧ w.heap.size ≤ p ∧ TabJ ls p w.heap.size (orderOf ls).length w' ∧ Below w.heap.size w w' := by
  have hok := valid_ok hv
  have HCO := Aside0.mk (fun W (h : Below w.heap.size w W) => codesOf_calls A c ls W (Kd.C_below hr h) hv)
  have HOR := Aside0.mk (fun W (h : Below w.heap.size w W) => inOrder_calls A c ls W (Kd.C_below hr h) (by omega) hok.2.1)
  have HI := Aside0.mk (inOrd hv)
  have HC := Aside0.mk hr
  have HL15 := Aside0.mk hok.2.1
  have hll := hok.1
  have HCD := Aside0.mk (fun s hs => codesOf_lt hv s hs)
  have hol := orderOf_length ls
  clear hok hv hr
  have HT0 := Aside0.mk (fun base => tab_zero ls w base)
  have HB0 := Aside0.mk (below_alloc (Below.refl w.heap.size w) (.cells tabZ 87))
  go_enter Try.func37, Try.ntmps37
  go_wp2_with (first | (go_at_call 28; refine (HCO.out (w.alloc (.cells tabZ 87)) HB0.out).mono ?_; rintro e w2 ⟨v2, rfl, ho2, hb2⟩; have HB2 := Aside0.mk (below_then HB0.out HB0.out.size hb2); obtain ⟨A2, c2, rfl⟩ := own_slice (Kd.own_of_R ho2)) | (go_at_call 45; refine (HOR.out w2 HB2.out).mono ?_; rintro e w3 ⟨v3, rfl, ho3, hb3⟩; obtain ⟨A3, c3, rfl⟩ := own_slice (Kd.own_of_R ho3)))
  have HS0 : w.heap.size + 1 = (w.alloc (.cells tabZ 87)).heap.size := by rw [World.size_alloc]
  have HZ2 := hb2.size
  have HZ3 := hb3.size
  have HNE2 : ∀ ad, A2 = some ad → 0 < (codesOf ls).length → ad.block ≠ w.heap.size := fun ad e h0 => by
    obtain ⟨g, cap, e2, _, hg, _⟩ := ints_pos ho2 h0
    injection e2 with e2
    rw [e2] at e
    injection e with e
    rw [← e]
    show g ≠ _
    omega
  have HNE3 : ∀ ad, A3 = some ad → 0 < (orderOf ls).length → ad.block ≠ w.heap.size := fun ad e h0 => by
    obtain ⟨g, cap, e2, _, hg, _⟩ := ints_pos ho3 h0
    injection e2 with e2
    rw [e2] at e
    injection e with e
    rw [← e]
    show g ≠ _
    omega
  have HNE2 := Aside0.mk HNE2
  have HNE3 := Aside0.mk HNE3
  have HC2 := Aside0.mk (Kd.R_reads' (Kd.R_below ho2 hb3)).2.2
  have HC3 := Aside0.mk (Kd.R_reads' ho3).2.2
  have HT3 := Aside0.mk (((HT0.out w3.heap.size).below hb2).below hb3)
  have HB3 := Aside0.mk (below_then HB2.out HB2.out.size hb3)
  have hsz3 : w.heap.size + 1 ≤ w3.heap.size := by omega
  have hcl : Hid ((codesOf ls).length = ls.length) := codesOf_length ls
  clear ho2 ho3 hb2 hb3 HB2 HT0 HB0 HZ2 HZ3 HS0 HCO HOR
  generalize hpp : w.heap.size = p at *
  go_loopg [15] (orderOf ls).length (fun kx s15 w' => ∃ (j : Nat), s15 = .int .i64 j ∧ j ≤ (orderOf ls).length ∧ (orderOf ls).length - j ≤ kx ∧ Aside0 (TabJ ls p w3.heap.size j w') ∧ Aside0 (Below p w w') ∧ Aside0 (KeepBut w3 w' p none))
  case atStart => exact ⟨0, rfl, by omega, by omega, HT3, HB3, ⟨KeepBut.refl _ _ _⟩⟩
  case round =>
    obtain ⟨j, rfl, hj, hjx, HT, HB, HK⟩ := hrel
    by_cases hlt : j < (orderOf ls).length
    · have hltz : (j : Int) < ((orderOf ls).length : Int) := by omega
      obtain ⟨od, rfl, hx3⟩ := keep_C HC3.out HK.out j hlt (fun ad e => HNE3.out ad e (by omega))
      have hmem := HI.out.mem j hlt
      have hps := HI.out.pos j hlt
      have hsn := take_snoc_rd (orderOf ls) j hlt
      have hlg : Hid (lgst ls (orderOf ls) (j + 1) = rd ls (rd (orderOf ls) j)) := rfl
      generalize rd (orderOf ls) j = s at *
      obtain ⟨s, rfl⟩ := Int.eq_ofNat_of_zero_le hmem.1
      obtain ⟨ad, rfl, hx1⟩ := int_at HC.out s (by omega)
      replace hx1 := (HB.out.cell (by rw [← hpp]; exact World.block_lt_of_cell? w _ hx1)).trans hx1
      obtain ⟨bd, rfl, hx2⟩ := keep_C HC2.out HK.out s (by rw [hcl.out]; omega) (fun ad e => HNE2.out ad e (by rw [hcl.out]; omega))
      have hcb := HCD.out s (by omega)
      obtain ⟨n, hn⟩ := Int.eq_ofNat_of_zero_le (show 0 ≤ rd ls s by omega)
      have HN : Hid (rd ls s = n) := hn
      rw [hn] at hx1 hps
      have hn16 : n < 16 := by omega
      obtain ⟨cs, T, HTC⟩ := HT.out
      obtain ⟨At, ct, hTe, hcT, hCT⟩ := HTC.cellT hn16
      have HTC := Aside0.mk HTC
      have hs1 : (s : Int) < ((codesOf ls).length : Int) := by rw [hcl.out]; omega
      have hs2 : (s : Int) < (ls.length : Int) := by omega
      have hs0 : (0 : Int) ≤ (s : Int) := by omega
      have hn0 : (0 : Int) ≤ (n : Int) := by omega
      have hnz : (n : Int) < 16 := by omega
      have HSN : Hid ((orderOf ls).take (j + 1) = (orderOf ls).take j ++ [(s : Int)]) := hsn
      clear hsn hn
      have HFS : Hid (∀ m, fst' ls (codesOf ls) ((orderOf ls).take (j + 1)) m = if rd ls s = m ∧ (cls ls ((orderOf ls).take j) m).length = 0 then rd (codesOf ls) s else fst' ls (codesOf ls) ((orderOf ls).take j) m) := fun m => by rw [HSN.out, fst_snoc]
      have HCS : Hid (∀ m, cls ls ((orderOf ls).take (j + 1)) m = if rd ls s = m then cls ls ((orderOf ls).take j) m ++ [(s : Int)] else cls ls ((orderOf ls).take j) m) := fun m => by rw [HSN.out, cls_snoc]
      rw [HN.out] at HFS HCS
      have HLG : Hid (lgst ls (orderOf ls) (j + 1) = n) := by show _ = _; rw [hlg.out, HN.out]
      clear hlg hmem
      go_upto_if 30 with (fail)
      go_cut [] from 30 to 39 (fun wc => Aside0 (Tab p w3.heap.size (fst' ls (codesOf ls) ((orderOf ls).take (j + 1))) (cls ls ((orderOf ls).take j)) (lgst ls (orderOf ls) j) wc) ∧ Aside0 (Below p w wc) ∧ Aside0 (KeepBut w3 wc p none))
      case first =>
        by_cases h0 : (cls ls ((orderOf ls).take j) n).length = 0
        · have hd : (((cls ls ((orderOf ls).take j) n).length : Int) == 0) = true := by simp [h0]
          have hcF := HTC.out.cellF hn16
          have hfF := blk_frozen HTC.out.blk n
          have HT2 := Aside0.mk ((HTC.out.setF hn16 (rd (codesOf ls) s)).congrF (F' := fst' ls (codesOf ls) ((orderOf ls).take (j + 1))) (fun m _ => by
            rw [HFS.out m]
            by_cases hm : m = n
            · subst hm; rw [if_pos ⟨rfl, h0⟩, if_pos rfl]
            · rw [if_neg (fun h => hm (by have := h.1; omega)), if_neg hm]))
          clear h0
          generalize rd (codesOf ls) s = code at *
          go_wp2
          go_region
          all_goals go_wp2
          all_goals go_meet
          all_goals (case rel => exact ⟨⟨_, _, HT2.out.below (Below.refl _ _).drew⟩, ⟨(HB.out.setCell (Nat.le_refl _) _).drew⟩, ⟨keep_drew (HK.out.set_ n _)⟩⟩)
        · have hd : (((cls ls ((orderOf ls).take j) n).length : Int) == 0) = false := by simp only [beq_eq_false_iff_ne]; omega
          have HT2 := Aside0.mk (HTC.out.congrF (F' := fst' ls (codesOf ls) ((orderOf ls).take (j + 1))) (fun m _ => by
            rw [HFS.out m, if_neg (fun h => by
              have h1 : m = n := by have := h.1; omega
              rw [h1] at h
              exact h0 h.2)]))
          clear h0
          go_wp2
          go_meet
          case rel => exact ⟨⟨_, _, HT2.out⟩, HB, HK⟩
      case rest =>
        clear hcT hCT HTC HT HB HK hx1 hx2 hx3 hTe
        obtain ⟨HTW, HB, HK⟩ := hcut
        obtain ⟨cs2, T2, HTC⟩ := HTW.out
        obtain ⟨At2, ct2, hTe2, hcT2, hCT2⟩ := HTC.cellT hn16
        have hTL : (cls ls ((orderOf ls).take j) n).length ≤ 1024 := by
          have h1 : (cls ls ((orderOf ls).take j) n).length ≤ ((orderOf ls).take j).length := List.length_filter_le _ _
          rw [List.length_take] at h1
          omega
        have HTC := Aside0.mk HTC
        clear HTW hCT2
        go_upto_region 9 with (fail)
        have HTD := Aside0.mk (HTC.out.below (Below.refl wc.heap.size wc).drew)
        have HBD := Aside0.mk HB.out.drew
        have HKD := Aside0.mk (keep_drew HK.out)
        have hcTa : (wc.alloc (Obj.cells #[Value.int IntKind.i64 s] 3)).drew.cell? ⟨p, 16 + n, none⟩ = some (.slice At2 (cls ls ((orderOf ls).take j) n).length ct2) := pw_cell_below (below_alloc (Below.refl _ _) _).drew hcT2
        clear HTC HB HK
        go_region_law (refine Kd.R_append_step (Kd.int .i64) (w0 := wc.drew) (W := wc.drew) w3.heap.size ?aW (.tmp 47) (.tmp 49) 22 3 (.int .i64 0) 8 ?aOp Try.underlying22 info3 rfl (by decide) (by omega) (T2 n) (cls ls ((orderOf ls).take j) n) (s : Int) [.int .i64 s] (fun _ => True) (fun _ => False) ?aV ?aX ?aP (fun _ hk => hk.elim) ?aF ?aO ?aB ?aS ?aL ?_; (case aOp => rfl); (case aW => rfl); (case aV => rw [hTe2]; rfl); (case aX => rfl); (case aP => exact rfl); (case aF => exact fun _ _ => trivial); (case aO => exact HTD.out.rows n hn16); (case aB => exact Below.refl _ _); (case aS => exact HKD.out.1); (case aL => omega); intro v4 w4 ho4 hb4 hg4 hat4; obtain ⟨A4, k4, rfl⟩ := own_slice (Kd.own_of_R ho4); have HT4 := Aside0.mk (HTD.out.setT hn16 ho4 hg4 hat4); have hne4 := own_ne (Kd.own_of_R (HTD.out.rows n hn16)) HTD.out.blk (by decide); have hb4' := blk_grown HTD.out.blk hg4 hne4; have hc4 : w4.cell? ⟨p, 16 + n, none⟩ = some (.slice At2 (cls ls ((orderOf ls).take j) n).length ct2) := by {rw [blk_cell hb4', HTD.out.syms n hn16, hTe2]}; have hf4 := blk_frozen hb4' (16 + n); have HB4 := Aside0.mk (pw_below_grown HBD.out _ (by have := HKD.out.1; omega) hg4 (fun k hk => by have := own_base (Kd.own_of_R (HTD.out.rows n hn16)) k hk; omega)); have HK4 := Aside0.mk (HKD.out.trans (KeepBut.of_grown hg4 p) (by {rcases (Kd.own_of_R (HTD.out.rows n hn16)).2 with ⟨hz, _⟩ | ⟨g, cap, cur, hz, hgb, _⟩; · {left; rw [hz]; rfl}; · {right; exact ⟨g, by rw [hz]; rfl, hgb⟩}})); clear ho4 hb4 hg4 hat4 hne4 hb4')
        all_goals (rw [show (cls ls ((orderOf ls).take j) n ++ [(s : Int)]).length = (cls ls ((orderOf ls).take j) n).length + 1 by simp] at HT4)
        all_goals
          have hc5 := HT4.out.cellL
          have hf5 := blk_frozen HT4.out.blk 32
          have HT5 := Aside0.mk ((HT4.out.setL (n : Int)).congrS (S' := cls ls ((orderOf ls).take (j + 1))) (fun m _ => by
            rw [HCS.out m]
            by_cases hm : m = n
            · subst hm; rw [if_pos rfl, if_pos rfl]
            · rw [if_neg (fun h => hm (by omega)), if_neg hm]))
          go_wp2
          go_roundg ((orderOf ls).length - (j + 1))
          case measure => omega
          case rel => exact ⟨j + 1, by go_num, by omega, Nat.le_refl _, ⟨⟨_, _, by rw [HLG.out]; exact HT5.out⟩⟩, ⟨(HB4.out.setCell (Nat.le_refl _) _).setCell (Nat.le_refl _) _⟩, ⟨(HK4.out.set_ (16 + n) _).set_ 32 _⟩⟩
    · have hltz : ¬ (j : Int) < ((orderOf ls).length : Int) := by omega
      obtain rfl : j = (orderOf ls).length := by omega
      go_wp2
      go_ret
      obtain ⟨cs, T, h⟩ := HT.out
      exact ⟨p, rfl, Nat.le_refl _, ⟨cs, T, h.blk, h.size, h.first, h.syms, h.long, fun n hn => Kd.R_lower (h.rows n hn) (by omega), h.apart⟩, HB.out⟩
end Go.Proofs.Ytdmhhgkplcaejaa
