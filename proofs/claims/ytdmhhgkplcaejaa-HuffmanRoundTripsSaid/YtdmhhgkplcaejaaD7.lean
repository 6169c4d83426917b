/- huffman's table: symbol. -/
import Derived.Test.YtdmhhgkplcaejaaD6
namespace Go.Proofs.Ytdmhhgkplcaejaa
open Go.RowKit Go.Sort Go.Proofs.YtdmhhgkplcaejaaW.PrintWords

theorem TabF.far {ls : List Int} {p base q : Nat} {w : World} {cells : Array Value} (h : TabF ls p base w) (hq : w.heap[q]? = some (.cells cells 83 (0, 0))) (j : Nat) (u : Value) : TabF ls p base (w.setCell ⟨q, j, none⟩ u) := by
  obtain ⟨cs, T, h⟩ := h
  exact ⟨cs, T, blk_far h.blk (blk_ne h.blk hq (by decide)) u, h.size, h.first, h.syms, h.long, fun n hn => Kd.R_set (h.rows n hn) hq (by decide) j u, h.apart⟩
theorem or_bit (v q : Int) (h0 : 0 ≤ v) (h1 : v ≤ 100000) (hq : q = 0 ∨ q = 1) : bits .or .u64 (v * 2) q = 2 * v + q := by
  obtain ⟨n, rfl⟩ := Int.eq_ofNat_of_zero_le h0
  rw [u64_or _ _ (by omega) (by omega) (by omega) (by omega), show ((n : Int) * 2).toNat = n * 2 by omega]
  rcases hq with rfl | rfl
  · simp; omega
  · have : n * 2 ||| 1 = 2 * n + 1 := by
      have := Nat.two_pow_add_eq_or_of_lt (i := 1) (b := 1) (by decide) n
      simp only [Nat.pow_one] at this
      rw [Nat.mul_comm n 2, ← this]
    rw [show (1 : Int).toNat = 1 from rfl, this]
    omega
theorem bit_cons (bs : List Int) (n pos : Nat) (h : pos < n) : (bitsB bs n).drop pos = decide (bitAt bs pos = 1) :: (bitsB bs n).drop (pos + 1) := by
  rw [List.drop_eq_getElem_cons (by rw [bitsB_length]; exact h)]
  congr 1
  unfold bitsB
  simp
theorem symL_step (ls cs : List Int) (b : Bool) (r : List Bool) (v q : Int) (n : Nat) (hq : q = if b then 1 else 0) :
    symL ls cs (b :: r) v n = if refAlive ls cs (2 * v + q) (n + 1) ls.length = true then (if 0 ≤ refFind ls cs (2 * v + q) (n + 1) ls.length then (refFind ls cs (2 * v + q) (n + 1) ls.length, 0, r) else symL ls cs r (2 * v + q) (n + 1)) else (0, 9, r) := by
  subst hq
  rfl

set_option maxHeartbeats 4000000 in
set_option maxRecDepth 100000 in
theorem symbol_calls (p base q nb pos : Nat) (ls bs : List Int) (w0 w : World) (hv : validOf ls = true) (hbq : base ≤ q) (hbz : base ≤ w0.heap.size) (hT : TabF ls p base w) (hR : Rdr w0 q base nb pos bs w) (hb : BufOk bs nb) (hpos : pos ≤ nb) :
    Calls Try.prog 38 #[.pointer (some ⟨p, 0, none⟩), .pointer (some ⟨q, 0, none⟩)] w fun e w' =>
      e = .returned (.tuple #[.int .i64 (symL ls (codesOf ls) ((bitsB bs nb).drop pos) 0 0).1, .int .i64 (symL ls (codesOf ls) ((bitsB bs nb).drop pos) 0 0).2.1]) ∧ TabF ls p base w' ∧
      ∃ pos', pos' ≤ nb ∧ (bitsB bs nb).drop pos' = (symL ls (codesOf ls) ((bitsB bs nb).drop pos) 0 0).2.2 ∧ Rdr w0 q base nb pos' bs w' ∧ KeepBut w w' q none := by
  have HBI := Aside0.mk (fun (P : Nat) (W : World) (h : Rdr w0 q base nb P bs W) (hp : P ≤ nb) => readerBits_calls q base nb P bs w0 W hbq h hb hp)
  have HBE := Aside0.mk (fun (v : Int) (n : Nat) (W : World) (h : TabF ls p base W) (h1 : 0 < n) (h2 : n ≤ 16) (h3 : 0 ≤ v) (h4 : v ≤ 100000) => begins_calls p base ls v n W hv h h1 h2 h3 h4)
  have HAB := Aside0.mk (fun (v : Int) (n : Nat) (h : refAlive ls (codesOf ls) v n ls.length = true) => alive_bound hv h)
  have HTF := Aside0.mk (fun (v : Int) (n : Nat) (h : 0 < n) => tab_find hv v n h)
  have HTN := Aside0.mk (fun (v : Int) (n : Nat) (h : 0 < n) => tab_none hv v n h)
  have HFB := Aside0.mk (fun k => fst_bound hv k)
  have hll := (valid_ok hv).1
  have hol := orderOf_length ls
  have HCB : Aside0 (∀ k, (cls ls (orderOf ls) k).length ≤ 1024) := ⟨fun k => by
    have h1 : (cls ls (orderOf ls) k).length ≤ (orderOf ls).length := List.length_filter_le _ _
    omega⟩
  have HT := Aside0.mk hT
  have HRD := Aside0.mk hR
  clear hv hT hR hb
  generalize hRES : symL ls (codesOf ls) ((bitsB bs nb).drop pos) 0 0 = RES
  go_enter Try.func38, Try.ntmps38
  go_wp2
  go_loopg [6, 7] 17 (fun kx s6 s7 w' => ∃ (n P : Nat) (v : Int), s7 = .int .i64 n ∧ s6 = .int .u64 v ∧ 0 ≤ v ∧ v ≤ 32768 ∧ 1 ≤ n ∧ n ≤ 16 ∧ 17 - n ≤ kx ∧ P ≤ nb ∧ Aside0 (TabF ls p base w') ∧ Aside0 (Rdr w0 q base nb P bs w') ∧ Aside0 (symL ls (codesOf ls) ((bitsB bs nb).drop P) v (n - 1) = RES) ∧ Aside0 (KeepBut w w' q none))
  case atStart => exact ⟨1, pos, 0, rfl, rfl, by omega, by omega, by omega, by omega, by omega, hpos, HT, HRD, ⟨hRES⟩, ⟨KeepBut.refl _ _ _⟩⟩
  case round =>
    clear HT HRD
    obtain ⟨n, P, v, rfl, rfl, hv0, hv1, hn1, hn2, hnx, hP, HT, HRD, HS, HK⟩ := hrel
    have hbits := HBI.out P wr HRD.out hP
    by_cases hlt : P < nb
    · simp only [hlt, if_true] at hbits
      obtain ⟨qb0, qb1⟩ := bitAt_01 bs P
      have hq01 : bitAt bs P = 0 ∨ bitAt bs P = 1 := by omega
      have hS := HS.out
      rw [bit_cons bs nb P hlt, symL_step ls (codesOf ls) _ _ v (bitAt bs P) (n - 1) (by rcases hq01 with h | h <;> simp [h]), Nat.sub_add_cancel hn1] at hS
      clear HS
      have hor := or_bit v (bitAt bs P) hv0 (by omega) hq01
      generalize bitAt bs P = x at *
      generalize hv' : 2 * v + x = v' at *
      have hv0' : 0 ≤ v' := by omega
      have hv1' : v' ≤ 65537 := by omega
      clear hq01 hv'
      by_cases ha : refAlive ls (codesOf ls) v' n ls.length = true
      · rw [if_pos ha] at hS
        obtain ⟨hn15, _, hv2'⟩ := HAB.out v' n ha
        have htf := HTF.out v' n hn1
        have htn := HTN.out v' n hn1
        have hfb := HFB.out n
        have hcb := HCB.out n
        generalize hFF : refFind ls (codesOf ls) v' n ls.length = ff at *
        clear hFF
        go_upto_region 10 with (first | (go_at_call 49; refine hbits.mono ?_; rintro e w1 ⟨rfl, hr1, u, rfl⟩; obtain ⟨Aq, cq, hbq1, _, _⟩ := HRD.out; have HT1 := Aside0.mk (HT.out.far hbq1 2 u); have HR1 := Aside0.mk hr1; have HK1 := Aside0.mk (HK.out.set_ 2 u); clear hr1 hbits hbq1) | (go_at_call 50; refine (HBE.out v' n _ HT1.out hn1 hn2 hv0' (by omega)).mono ?_; rintro e w2 ⟨rfl, rfl⟩))
        clear HT HRD HK
        generalize wr.setCell ⟨q, 2, none⟩ u = W1 at *
        obtain ⟨cs, T, hT2⟩ := HT1.out
        obtain ⟨A2, c2, hTe, hcT, hC2⟩ := hT2.cellT (n := n) (by omega)
        have hcF := hT2.cellF (n := n) (by omega)
        clear hT2 hTe
        generalize hFn : fst' ls (codesOf ls) (orderOf ls) n = f at *
        generalize hXs : cls ls (orderOf ls) n = xs at *
        by_cases g1 : f ≤ v'
        · have d1 : decide (f ≤ v') = true := decide_eq_true g1
          by_cases g2 : v' - f < ((xs.length : Nat) : Int)
          · have d2 : decide (v' - f < ((xs.length : Nat) : Int)) = true := decide_eq_true g2
            obtain ⟨h1, h2⟩ := htf ⟨g1, g2⟩
            rw [if_pos h2] at hS
            have HRS := Aside0.mk hS
            have HFF : Hid (ff = rd xs (v' - f)) := h1
            clear htf htn h1 h2 hS
            go_quiet (fail)
            have HT2 := Aside0.mk (HT1.out.below (pw_below_drewN (Below.refl W1.heap.size W1) nq))
            have HR2 := Aside0.mk (HR1.out.below (pw_below_drewN (Below.refl W1.heap.size W1) nq) (Nat.le_trans hbz HR1.out.size))
            have hC3 := Kd.C_drewN hC2 nq
            replace hcT := pw_cell_below (pw_below_drewN (Below.refl W1.heap.size W1) nq) hcT
            replace hcF := pw_cell_below (pw_below_drewN (Below.refl W1.heap.size W1) nq) hcF
            have HK2 := Aside0.mk (keep_drewN HK1.out nq)
            clear HT1 HR1 hC2 HK1
            generalize W1.drewN nq = W2 at HT2 HR2 HK2 hC3 hcT hcF ⊢
            obtain ⟨ad, rfl, hx⟩ := int_at hC3 (v' - f).toNat (by omega)
            rw [show (((v' - f).toNat : Nat) : Int) = v' - f by omega] at hx
            have p0 : 0 ≤ v' - f := by omega
            clear hC3
            go_wp2_with fail
            go_quiet (fail)
            have HT3 := Aside0.mk (HT2.out.below (pw_below_drewN (Below.refl W2.heap.size W2) nq))
            have HR3 := Aside0.mk (HR2.out.below (pw_below_drewN (Below.refl W2.heap.size W2) nq) (Nat.le_trans hbz HR2.out.size))
            have HK3 := Aside0.mk (keep_drewN HK2.out nq)
            clear hcT hcF hx HT2 HR2 HK2
            generalize W2.drewN nq = W3 at HT3 HR3 HK3 ⊢
            go_wp2
            go_ret2
            rw [← HRS.out]
            exact ⟨by rw [HFF.out]; rfl, HT3.out, P + 1, by omega, rfl, HR3.out, HK3.out⟩
          · have d2 : decide (v' - f < ((xs.length : Nat) : Int)) = false := decide_eq_false g2
            have h1 := htn (fun h => g2 h.2)
            rw [if_neg (by omega)] at hS
            have HRS : Aside0 (symL ls (codesOf ls) (List.drop (P + 1) (bitsB bs nb)) v' (n + 1 - 1) = RES) := ⟨hS⟩
            clear htf htn h1 hS
            go_quiet (fail)
            have HT2 := Aside0.mk (HT1.out.below (pw_below_drewN (Below.refl W1.heap.size W1) nq))
            have HR2 := Aside0.mk (HR1.out.below (pw_below_drewN (Below.refl W1.heap.size W1) nq) (Nat.le_trans hbz HR1.out.size))
            have HK2 := Aside0.mk (keep_drewN HK1.out nq)
            clear hcT hC2 hcF HT1 HR1 HK1
            generalize W1.drewN nq = W2 at HT2 HR2 HK2 ⊢
            go_wp2
            go_roundg (17 - (n + 1))
            case measure => omega
            case rel => exact ⟨n + 1, P + 1, v', by go_num, rfl, by omega, by omega, by omega, by omega, Nat.le_refl _, by omega, HT2, HR2, HRS, HK2⟩
        · have d1 : decide (f ≤ v') = false := decide_eq_false g1
          have h1 := htn (fun h => g1 h.1)
          rw [if_neg (by omega)] at hS
          have HRS : Aside0 (symL ls (codesOf ls) (List.drop (P + 1) (bitsB bs nb)) v' (n + 1 - 1) = RES) := ⟨hS⟩
          clear htf htn h1 hS
          go_quiet (fail)
          have HT2 := Aside0.mk (HT1.out.below (pw_below_drewN (Below.refl W1.heap.size W1) nq))
          have HR2 := Aside0.mk (HR1.out.below (pw_below_drewN (Below.refl W1.heap.size W1) nq) (Nat.le_trans hbz HR1.out.size))
          have HK2 := Aside0.mk (keep_drewN HK1.out nq)
          clear hcT hC2 hcF HT1 HR1 HK1
          generalize W1.drewN nq = W2 at HT2 HR2 HK2 ⊢
          go_wp2
          go_roundg (17 - (n + 1))
          case measure => omega
          case rel => exact ⟨n + 1, P + 1, v', by go_num, rfl, by omega, by omega, by omega, by omega, Nat.le_refl _, by omega, HT2, HR2, HRS, HK2⟩
      · have ha' : refAlive ls (codesOf ls) v' n ls.length = false := by simpa using ha
        rw [if_neg ha] at hS
        have HRS := Aside0.mk hS
        clear hS ha
        go_wp2_with (first | (go_at_call 49; refine hbits.mono ?_; rintro e w1 ⟨rfl, hr1, u, rfl⟩; obtain ⟨Aq, cq, hbq1, _, _⟩ := HRD.out; have HT1 := Aside0.mk (HT.out.far hbq1 2 u); have HR1 := Aside0.mk hr1; have HK1 := Aside0.mk (HK.out.set_ 2 u); clear hr1 hbits hbq1) | (go_at_call 50; refine (HBE.out v' n _ HT1.out hn1 hn2 hv0' (by omega)).mono ?_; rintro e w2 ⟨rfl, rfl⟩))
        go_ret2
        rw [← HRS.out]
        exact ⟨rfl, HT1.out, P + 1, by omega, rfl, HR1.out, HK1.out⟩
    · simp only [hlt, if_false] at hbits
      have hS := HS.out
      obtain rfl : P = nb := by omega
      rw [List.drop_of_length_le (by rw [bitsB_length]; exact Nat.le_refl _)] at hS
      have HRS := Aside0.mk hS
      clear hS HS
      go_wp2_with (first | (go_at_call 49; refine hbits.mono ?_; rintro e w1 ⟨rfl, rfl⟩))
      go_ret2
      rw [← HRS.out]
      exact ⟨rfl, HT.out, P, by omega, by rw [List.drop_of_length_le (by rw [bitsB_length]; exact Nat.le_refl _)]; rfl, HRD.out, HK.out⟩
end Go.Proofs.Ytdmhhgkplcaejaa
