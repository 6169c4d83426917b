/- huffman.Decode. -/
import Derived.Test.YtdmhhgkplcaejaaD7
namespace Go.Proofs.Ytdmhhgkplcaejaa
open Go.RowKit Go.Sort Go.Proofs.YtdmhhgkplcaejaaW.PrintWords

theorem TabC.keep {p base q : Nat} {F : Nat → Int} {S : Nat → List Int} {L : Int} {cs : Array Value} {T : Nat → Value} {w w1 : World} {cells : Array Value} (h : TabC p base F S L cs T w) (hk : KeepBut w w1 q none) (hq : w.heap[q]? = some (.cells cells 83 (0, 0))) : TabC p base F S L cs T w1 where
  blk := hk.blk h.blk (blk_ne h.blk hq (by decide)) (by simp)
  size := h.size
  first := h.first
  syms := h.syms
  long := h.long
  rows n hn := Kd.R_mono (Kd.R_keep (Kd.R_types (h.rows n hn) hq (by decide)) hk (fun _ hk => hk.2)) (fun _ _ => trivial)
  apart := h.apart
/-- The table stays where a row that is none of its own has grown. -/
theorem TabC.grown {p base bo : Nat} {F : Nat → Int} {S : Nat → List Int} {L : Int} {cs : Array Value} {T : Nat → Value} {w w1 : World} (h : TabC p base F S L cs T w) {v : Value} {xs : List Int} (hv : (Kd.int .i64).R 3 w bo (fun _ => True) v xs) (hg : w.grownBy w1 v.ownBlock) (hne : ∀ n k, n < 16 → (T n).ownBlock = some k → k < bo) : TabC p base F S L cs T w1 where
  blk := blk_grown h.blk hg (own_ne (Kd.own_of_R hv) h.blk (by decide))
  size := h.size
  first := h.first
  syms := h.syms
  long := h.long
  rows n hn := row_stays (h.rows n hn) hg (fun e => by
    cases he : (T n).ownBlock with
    | none => rfl
    | some k =>
      have h1 := hne n k hn he
      have h2 := own_base (Kd.own_of_R hv) k (by rw [← e, he])
      omega)
  apart := h.apart
theorem R_row_other {w w1 : World} {base bo : Nat} {v u : Value} {xs ys : List Int} (h : (Kd.int .u8).R 5 w base (fun _ => True) v xs) (hu : (Kd.int .i64).R 3 w bo (fun _ => True) u ys) (hg : w.grownBy w1 u.ownBlock) : (Kd.int .u8).R 5 w1 base (fun _ => True) v xs := by
  cases he : u.ownBlock with
  | none => exact Kd.R_grown h hg (fun k _ => by rw [he]; simp)
  | some g =>
    obtain ⟨cells, hc⟩ := own_typed (Kd.own_of_R hu) g he
    refine Kd.R_mono (Kd.R_grown (Kd.R_types h hc (by decide)) hg (fun k hk => ?_)) (fun _ _ => trivial)
    rw [he]
    intro e
    injection e with e
    exact hk.2 e
theorem Rdr.grown {w0 : World} {q base bo n pos : Nat} {bs : List Int} {w w1 : World} (h : Rdr w0 q base n pos bs w) {v : Value} {xs : List Int} (hv : (Kd.int .i64).R 3 w bo (fun _ => True) v xs) (hg : w.grownBy w1 v.ownBlock) (hb : base ≤ w.heap.size) (hbo : base ≤ bo) : Rdr w0 q base n pos bs w1 := by
  obtain ⟨A, c, h1, h2, h3⟩ := h
  exact ⟨A, c, blk_grown h1 hg (own_ne (Kd.own_of_R hv) h1 (by decide)), R_row_other h2 hv hg, pw_below_grown h3 _ hb hg (fun k hk => by have := own_base (Kd.own_of_R hv) k hk; omega)⟩

theorem bitsB_buf (bs : List Int) (n : Nat) (h : n ≤ 8 * bs.length) : bitsB (bufOf bs n) n = bitsB bs n := by
  unfold bitsB
  apply List.map_congr_left
  intro k hk
  have hk := List.mem_range.1 hk
  congr 2
  unfold bitAt bufOf
  congr 2
  unfold rd
  rw [Int.toNat_natCast, List.getD_eq_getElem?_getD, List.getElem?_take, if_pos (by omega), List.getD_eq_getElem?_getD]
theorem buf_ok {bs : List Int} {n : Nat} (h : ∀ b ∈ bs, 0 ≤ b ∧ b ≤ 255) (hn : n ≤ 8 * bs.length) (hl : bs.length < 100000000) : BufOk (bufOf bs n) n := by
  refine ⟨fun b hb => h b (List.mem_of_mem_take hb), ?_, ?_⟩
  · unfold bufOf; rw [List.length_take]; omega
  · unfold bufOf; rw [List.length_take]; omega

theorem decode_bad (A B : Option Addr) (c d : Nat) (ls bs : List Int) (n cnt : Int) (w : World) (hr : Kd.C (Kd.int .i64) w A ls.length ls) (hs : Kd.C (Kd.int .u8) w B bs.length bs) (hd : bs.length ≤ d) (hl : bs.length < 100000000) (hb : ¬ decArgs ls bs n cnt) :
    Calls Try.prog 21 #[.slice A ls.length c, .slice B bs.length d, .int .i64 n, .int .i64 cnt] w fun e w' => e = .returned (.tuple #[.slice none 0 0, .int .i64 1]) ∧ w = w' := by
  have hv := valid_calls A c ls w hr
  have hnr := newReader_calls B d bs n w hs hd hl
  have hn := hr.2.1
  clear hr hs
  by_cases h1 : validOf ls = true
  · rw [h1] at hv
    by_cases h2 : cnt < 0
    · have hd0 : decide (cnt < 0) = true := decide_eq_true h2
      clear hnr
      go_enter Try.func21, Try.ntmps21
      go_wp2_with (first | (go_at_call 27; refine hv.mono ?_; rintro e w' ⟨rfl, rfl⟩))
      go_ret2
      exact ⟨rfl, rfl⟩
    · have hd0 : decide (cnt < 0) = false := decide_eq_false h2
      by_cases h3 : 4096 < cnt
      · have hd1 : decide (4096 < cnt) = true := decide_eq_true h3
        clear hnr
        go_enter Try.func21, Try.ntmps21
        go_wp2_with (first | (go_at_call 27; refine hv.mono ?_; rintro e w' ⟨rfl, rfl⟩))
        go_ret2
        exact ⟨rfl, rfl⟩
      · have hd1 : decide (4096 < cnt) = false := decide_eq_false h3
        have hno : ¬ (0 ≤ n ∧ n ≤ 8 * (bs.length : Int)) := fun h => hb ⟨h1, h.1, h.2, by omega, by omega⟩
        simp only [hno, if_false] at hnr
        clear hb hno
        go_enter Try.func21, Try.ntmps21
        go_wp2_with (first | (go_at_call 27; refine hv.mono ?_; rintro e w' ⟨rfl, rfl⟩) | (go_at_call 36; refine hnr.mono ?_; rintro e w' ⟨rfl, rfl⟩))
        go_ret2
        exact ⟨rfl, rfl⟩
  · have hf : validOf ls = false := by simpa using h1
    rw [hf] at hv
    clear hnr
    go_enter Try.func21, Try.ntmps21
    go_wp2_with (first | (go_at_call 27; refine hv.mono ?_; rintro e w' ⟨rfl, rfl⟩))
    go_ret2
    exact ⟨rfl, rfl⟩

set_option maxHeartbeats 4000000 in
set_option maxRecDepth 100000 in
theorem decode_good (A B : Option Addr) (c d : Nat) (ls bs : List Int) (n cnt : Nat) (w : World) (hr : Kd.C (Kd.int .i64) w A ls.length ls) (hs : Kd.C (Kd.int .u8) w B bs.length bs) (hd : bs.length ≤ d) (hl : bs.length < 100000000) (hby : ∀ b ∈ bs, 0 ≤ b ∧ b ≤ 255) (hb : decArgs ls bs n cnt) :
    Calls Try.prog 21 #[.slice A ls.length c, .slice B bs.length d, .int .i64 n, .int .i64 cnt] w fun e w' => ∃ v, e = .returned (.tuple #[v, .int .i64 (decOf ls (bitsB bs n) cnt).2]) ∧ (Kd.int .i64).R 3 w' w.heap.size (fun _ => True) v (decOf ls (bitsB bs n) cnt).1 ∧ Below w.heap.size w w' := by
  obtain ⟨h1, h2, h3, h4, h5⟩ := hb
  have hv := valid_calls A c ls w hr
  rw [h1] at hv
  have hnr := newReader_calls B d bs n w hs hd hl
  have hyes : 0 ≤ (n : Int) ∧ (n : Int) ≤ 8 * (bs.length : Int) := ⟨h2, h3⟩
  simp only [hyes, and_self, if_true, Int.toNat_natCast] at hnr
  have hbuf := buf_ok hby (show n ≤ 8 * bs.length by omega) hl
  have HTO := Aside0.mk (fun W (h : Below w.heap.size w W) => tableOf_calls A c ls W (Kd.C_below hr h) h1)
  have HSY := Aside0.mk (fun (p q P : Nat) (W : World) (hq : w.heap.size ≤ q) (hT : TabF ls p w.heap.size W) (hR : Rdr w q w.heap.size n P (bufOf bs n) W) (hP : P ≤ n) => symbol_calls p w.heap.size q n P ls (bufOf bs n) w W h1 hq (Nat.le_refl _) hT hR hbuf hP)
  rw [← bitsB_buf bs n (by omega)]
  have hLL := bitsB_length (bufOf bs n) n
  unfold decOf
  clear hbuf hr hs hyes h1 h2 h3
  generalize bufOf bs n = buf at *
  have hd0 : decide ((cnt : Int) < 0) = false := decide_eq_false (by omega)
  have hd1 : decide (4096 < (cnt : Int)) = false := decide_eq_false (by omega)
  generalize hRES : decL ls (codesOf ls) cnt (bitsB buf n) [] = RES
  generalize hVAL : (if RES.2.1 = 0 then (if RES.2.2 = [] then (RES.1, (0 : Int)) else ([], 9)) else ([], RES.2.1)) = VAL
  have HVAL := Aside0.mk hVAL
  clear hVAL
  go_enter Try.func21, Try.ntmps21
  go_wp2_with (first | (go_at_call 27; refine hv.mono ?_; rintro e w' ⟨rfl, rfl⟩) | (go_at_call 36; refine hnr.mono ?_; rintro e w1 ⟨q, rfl, hq, hrd⟩; have HRD1 := Aside0.mk hrd; have HB1 : Aside0 (Below w.heap.size w w1) := ⟨by obtain ⟨_, _, _, _, h⟩ := hrd; exact h⟩; clear hrd hnr) | (go_at_call 37; refine (HTO.out w1 HB1.out).mono ?_; rintro e w2 ⟨p, rfl, hp, htj, hb2⟩))
  have hs1 := HB1.out.size
  have hs2 := hb2.size
  obtain ⟨cs, T, htc⟩ := htj.full
  have htc : TabC p w.heap.size (fst' ls (codesOf ls) (orderOf ls)) (cls ls (orderOf ls)) (lgst ls (orderOf ls) (orderOf ls).length) cs T w2 := ⟨htc.blk, htc.size, htc.first, htc.syms, htc.long, fun n hn => Kd.R_lower (htc.rows n hn) hs1, htc.apart⟩
  have HNE : Aside0 (∀ n k, n < 16 → (T n).ownBlock = some k → k < w2.heap.size) := ⟨fun n k hn hk => own_lt (Kd.own_of_R (htc.rows n hn)) k hk⟩
  have HTC := Aside0.mk htc
  have HRD := Aside0.mk (HRD1.out.below hb2 hs1)
  clear htj htc hb2 HRD1 HB1 HTO hv
  go_loopg [13, 38] cnt (fun kx s13 s38 w' => ∃ (k P : Nat) (out : List Int), s38 = .int .i64 k ∧ k ≤ cnt ∧ cnt - k ≤ kx ∧ P ≤ n ∧ out.length = k ∧ w2.heap.size ≤ w'.heap.size ∧ Aside0 ((Kd.int .i64).R 3 w' w2.heap.size (fun _ => True) s13 out) ∧ Aside0 (TabC p w.heap.size (fst' ls (codesOf ls) (orderOf ls)) (cls ls (orderOf ls)) (lgst ls (orderOf ls) (orderOf ls).length) cs T w') ∧ Aside0 (Rdr w q w.heap.size n P buf w') ∧ Aside0 (decL ls (codesOf ls) (cnt - k) ((bitsB buf n).drop P) out = RES))
  case atStart => exact ⟨0, 0, [], rfl, by omega, by omega, by omega, rfl, Nat.le_refl _, ⟨Kd.R_nil _ _ _ _ _⟩, HTC, HRD, ⟨hRES⟩⟩
  case round =>
    clear HTC HRD
    obtain ⟨k, P, out, rfl, hk, hkx, hP, hol, hsz, HO, HTC, HRD, HD⟩ := hrel
    by_cases hlt : k < cnt
    · have hltz : (k : Int) < (cnt : Int) := by omega
      have hsy := HSY.out p q P wr hq ⟨cs, T, HTC.out⟩ HRD.out hP
      have hD := HD.out
      rw [show cnt - k = (cnt - (k + 1)) + 1 by omega, decL] at hD
      generalize symL ls (codesOf ls) ((bitsB buf n).drop P) 0 0 = SR at *
      by_cases he : SR.2.1 = 0
      · rw [if_pos he] at hD
        have HD2 := Aside0.mk hD
        have hE : (SR.2.1 != 0) = false := by simp [he]
        clear hD he HD
        generalize SR.2.1 = er at *
        generalize hs' : SR.1 = s at *
        go_wp2_with (first | (go_at_call 38; refine hsy.mono ?_; rintro e w3 ⟨rfl, _, P2, hP2, hdr, hrd3, hk3⟩; have HRD3 := Aside0.mk hrd3; have HBQ : Aside0 (∃ cells, wr.heap[q]? = some (.cells cells 83 (0, 0))) := ⟨by obtain ⟨_, _, h, _⟩ := HRD.out; exact ⟨_, h⟩⟩; have HTC3 : Aside0 (TabC p w.heap.size (fst' ls (codesOf ls) (orderOf ls)) (cls ls (orderOf ls)) (lgst ls (orderOf ls) (orderOf ls).length) cs T w3) := ⟨by obtain ⟨_, h⟩ := HBQ.out; exact HTC.out.keep hk3 h⟩; have HO3 : Aside0 ((Kd.int .i64).R 3 w3 w2.heap.size (fun _ => True) u13 out) := ⟨by obtain ⟨_, h⟩ := HBQ.out; exact Kd.R_mono (Kd.R_keep (Kd.R_types HO.out h (by decide)) hk3 (fun _ hk => hk.2)) (fun _ _ => trivial)⟩; have hs3 := hk3.1; clear hsy hrd3 hk3) | (at_builtin; refine Kd.R_append (Kd.int .i64) (w0 := w3) w2.heap.size ?aG (.tmp 49) (.tmp 51) 22 3 (.int .i64 0) 8 ?aOp Try.underlying22 info3 rfl (by decide) (by omega) u13 out s [.int .i64 s] (fun _ => True) (fun _ => False) ?aV ?aX ?aP (fun _ hk => hk.elim) ?aF ?aO ?aB ?aS ?aL ?_; (case aG => rfl); (case aOp => rfl); (case aV => rfl); (case aX => rfl); (case aF => exact fun _ _ => trivial); (case aO => exact HO3.out); (case aB => exact Below.refl _ _); (case aS => omega); (case aL => omega); (case aP => exact rfl); intro v4 w4 ho hb hg hat; have HTC4 := Aside0.mk (HTC3.out.grown HO3.out hg HNE.out); have HRD4 := Aside0.mk (HRD3.out.grown HO3.out hg (by omega) (by omega)); have hs4 := hg.size; clear hg hat hb))
        go_roundg (cnt - (k + 1))
        case measure => omega
        case rel => exact ⟨k + 1, P2, out ++ [s], by go_num, by omega, Nat.le_refl _, hP2, by simp [hol], by omega, ⟨ho⟩, HTC4, HRD4, ⟨by rw [hdr]; exact HD2.out⟩⟩
      · rw [if_neg he] at hD
        have HD2 := Aside0.mk hD
        have hE : (SR.2.1 != 0) = true := by simp [he]
        clear hD HD
        go_wp2_with (first | (go_at_call 38; refine hsy.mono ?_; rintro e w3 ⟨rfl, _, P2, hP2, hdr, hrd3, hk3⟩))
        go_ret2
        have hval : VAL = ([], SR.2.1) := by rw [← HVAL.out, ← HD2.out]; simp only [he, if_false]
        rw [hval]
        exact ⟨_, rfl, Kd.R_nil _ _ _ _ _, by obtain ⟨_, _, _, _, h⟩ := hrd3; exact h⟩
    · have hltz : ¬ (k : Int) < (cnt : Int) := by omega
      obtain rfl : k = cnt := by omega
      have hD := HD.out
      rw [Nat.sub_self, decL] at hD
      have HD2 := Aside0.mk hD
      clear hD HD
      have hps := pos_calls q w.heap.size n P buf w wr HRD.out
      by_cases hPn : P = n
      · have hE : ((P : Int) != (n : Int)) = false := by simp [hPn]
        have hnil : (bitsB buf n).drop P = [] := List.drop_of_length_le (by omega)
        have HNIL := Aside0.mk hnil
        clear hPn hnil
        go_wp2_with (first | (go_at_call 39; refine hps.mono ?_; rintro e w3 ⟨rfl, rfl⟩))
        go_ret2
        have hval : VAL = (out, 0) := by rw [← HVAL.out, ← HD2.out]; simp only [HNIL.out, if_true]
        rw [hval]
        exact ⟨_, rfl, Kd.R_lower HO.out (by omega), by obtain ⟨_, _, _, _, h⟩ := HRD.out; exact h⟩
      · have hE : ((P : Int) != (n : Int)) = true := by rw [bne_iff_ne]; omega
        have hnil : (bitsB buf n).drop P ≠ [] := fun h => by
          have := congrArg List.length h
          rw [List.length_drop, hLL] at this
          simp at this
          omega
        have HNIL := Aside0.mk hnil
        clear hPn hnil
        go_wp2_with (first | (go_at_call 39; refine hps.mono ?_; rintro e w3 ⟨rfl, rfl⟩))
        go_ret2
        have hval : VAL = ([], 9) := by rw [← HVAL.out, ← HD2.out]; simp [HNIL.out]
        rw [hval]
        exact ⟨_, rfl, Kd.R_nil _ _ _ _ _, by obtain ⟨_, _, _, _, h⟩ := HRD.out; exact h⟩

theorem decode_calls (A B : Option Addr) (c d : Nat) (ls bs : List Int) (n cnt : Int) (w : World) (hr : Kd.C (Kd.int .i64) w A ls.length ls) (hs : Kd.C (Kd.int .u8) w B bs.length bs) (hd : bs.length ≤ d) (hl : bs.length < 100000000) (hby : ∀ b ∈ bs, 0 ≤ b ∧ b ≤ 255) :
    Calls Try.prog 21 #[.slice A ls.length c, .slice B bs.length d, .int .i64 n, .int .i64 cnt] w fun e w' => ∃ v, e = .returned (.tuple #[v, .int .i64 (decV ls bs n cnt).2]) ∧ (Kd.int .i64).R 3 w' w.heap.size (fun _ => True) v (decV ls bs n cnt).1 ∧ Below w.heap.size w w' := by
  by_cases hb : decArgs ls bs n cnt
  · obtain ⟨n, rfl⟩ := Int.eq_ofNat_of_zero_le hb.2.1
    obtain ⟨cnt, rfl⟩ := Int.eq_ofNat_of_zero_le hb.2.2.2.1
    have h := decode_good A B c d ls bs n cnt w hr hs hd hl hby hb
    unfold decV
    rw [if_pos hb, Int.toNat_natCast, Int.toNat_natCast]
    exact h
  · refine (decode_bad A B c d ls bs n cnt w hr hs hd hl hb).mono ?_
    rintro e w' ⟨rfl, rfl⟩
    unfold decV
    rw [if_neg hb]
    exact ⟨_, rfl, Kd.R_nil _ _ _ _ _, Below.refl _ _⟩
end Go.Proofs.Ytdmhhgkplcaejaa
