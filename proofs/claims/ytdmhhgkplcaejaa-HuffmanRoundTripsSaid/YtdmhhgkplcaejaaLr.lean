/- The law HuffmanRoundTrips walked: it returns true. -/
import Derived.Test.YtdmhhgkplcaejaaR2
import Derived.Test.YtdmhhgkplcaejaaD8
import Derived.Test.YtdmhhgkplcaejaaH7
import Derived.Test.YtdmhhgkplcaejaaE11
namespace Go.Proofs.Ytdmhhgkplcaejaa
open Go.RowKit Go.Sort Go.Proofs.YtdmhhgkplcaejaaW.PrintWords

set_option maxHeartbeats 4000000 in
set_option maxRecDepth 100000 in
theorem trips_law (A : Option Addr) (c : Nat) (ss : List Int) (limit : Int) (w : World) (hs : Kd.C (Kd.int .i64) w A ss.length ss) :
    Calls Try.prog 11 #[.slice A ss.length c, .int .i64 limit] w fun e w' => e = .returned (.bool true) ∧ Below w.heap.size w w' := by
  by_cases h100 : 100 < ss.length
  · have hz : decide ((100 : Int) < (ss.length : Int)) = true := decide_eq_true (by omega)
    clear hs
    go_enter Try.func11, Try.ntmps11
    go_wp2
    go_ret
    exact ⟨rfl, Below.refl _ _⟩
  have hz : decide ((100 : Int) < (ss.length : Int)) = false := decide_eq_false (by omega)
  by_cases h5 : limit < 5
  · have hz2 : decide (limit < 5) = true := decide_eq_true h5
    clear hs
    go_enter Try.func11, Try.ntmps11
    go_wp2
    go_ret
    exact ⟨rfl, Below.refl _ _⟩
  have hz2 : decide (limit < 5) = false := decide_eq_false h5
  by_cases h15 : 15 < limit
  · have hz3 : decide (15 < limit) = true := decide_eq_true h15
    clear hs
    go_enter Try.func11, Try.ntmps11
    go_wp2
    go_ret
    exact ⟨rfl, Below.refl _ _⟩
  have hz3 : decide (15 < limit) = false := decide_eq_false h15
  have HS := Aside0.mk hs
  clear hs
  go_enter Try.func11, Try.ntmps11
  go_wp2_with (first | ((with_reducible refine gate_dst (N := 29) rfl ?_); refine Kd.R_make (Kd.int .i64) (w0 := w) w.heap.size 3 rfl (N := 29) rfl 22 _ _ rfl (32 : Int) rfl rfl Try.underlying22 (.int .i64 0) 8 info3 rfl (by decide) (by omega) (0 : Int) (ok := fun _ => True) (okp := fun _ => True) rfl (fun _ hk => hk) trivial (by omega) (by omega) (Below.refl _ _) (Nat.le_refl _) ?_; intro v1 w1 ho hbw hg hat; obtain ⟨g1, cap1, rfl, hcap1, hg1, hg1s⟩ := ints_form (n := 32) ho (by obtain ⟨b, hb, _⟩ := hat; exact ⟨b, hb⟩) (by simp); clear hg hat))
  have HO0 : Aside0 ((Kd.int .i64).R 3 w1 w.heap.size (fun _ => True) (.slice (some ⟨g1, 0, none⟩) 32 cap1) (cntOf ss 0)) := ⟨ho⟩
  have HB0 := Aside0.mk hbw
  clear ho hbw
  go_loopg [32] ss.length (fun kx s32 w' => ∃ (k : Nat), s32 = .int .i64 k ∧ k ≤ ss.length ∧ ss.length - k ≤ kx ∧ Aside0 ((Kd.int .i64).R 3 w' w.heap.size (fun _ => True) (.slice (some ⟨g1, 0, none⟩) 32 cap1) (cntOf ss k)) ∧ Aside0 (Below w.heap.size w w') ∧ Aside0 (∀ i : Nat, i < k → 0 ≤ rd ss i ∧ rd ss i < 32))
  case atStart => exact ⟨0, rfl, by omega, by omega, HO0, HB0, ⟨fun i h => by omega⟩⟩
  case round =>
    clear HO0 HB0
    obtain ⟨k, rfl, hk, hkx, HO, HB, HR⟩ := hrel
    by_cases hlt : k < ss.length
    · have hltz : (k : Int) < (ss.length : Int) := by omega
      obtain ⟨ad, rfl, hx⟩ := int_at HS.out k hlt
      replace hx := (HB.out.cell (World.block_lt_of_cell? w _ hx)).trans hx
      have hset : Hid (cntOf ss (k + 1) = (cntOf ss k).set (rd ss k).toNat (rd (cntOf ss k) (rd ss k) + 1)) := rfl
      have HR2 : Hid (0 ≤ rd ss k → rd ss k < 32 → ∀ i : Nat, i < k + 1 → 0 ≤ rd ss i ∧ rd ss i < 32) := fun h1 h2 i hi => by
        rcases Nat.lt_or_ge i k with h | h
        · exact HR.out i h
        · rw [show i = k by omega]; exact ⟨h1, h2⟩
      have hcb := cntOf_bound ss k (rd ss k)
      generalize rd ss (k : Int) = s at *
      by_cases g1' : s < 0
      · have d1 : decide (s < 0) = true := decide_eq_true g1'
        go_wp2
        go_ret
        exact ⟨rfl, HB.out⟩
      · have d1 : decide (s < 0) = false := decide_eq_false g1'
        by_cases g2 : 32 ≤ s
        · have d2 : decide (32 ≤ s) = true := decide_eq_true g2
          have d2' : decide (s ≥ 32) = true := decide_eq_true g2
          go_wp2
          go_ret
          exact ⟨rfl, HB.out⟩
        · have d2 : decide (32 ≤ s) = false := decide_eq_false g2
          have d2' : decide (s ≥ 32) = false := decide_eq_false g2
          have p0 : 0 ≤ s := by omega
          have p1 : s < 32 := by omega
          have HR3 := Aside0.mk (HR2.out p0 p1)
          obtain ⟨kc, kf⟩ := Kd.R_celln (0 : Int) HO.out s p0 p1
          change wr.cell? _ = some (Value.int .i64 (rd (cntOf ss k) s)) at kc
          have hcb := hcb p0
          generalize rd (cntOf ss k) s = y at *
          clear HR HR2
          go_wp2
          go_roundg (ss.length - (k + 1))
          case measure => omega
          case rel => exact ⟨k + 1, by go_num, by omega, Nat.le_refl _, ⟨by rw [hset.out]; exact Kd.R_putn HO.out s (y + 1)⟩, ⟨HB.out.setCell hg1 _⟩, HR3⟩
    · have hltz : ¬ (k : Int) < (ss.length : Int) := by omega
      obtain rfl : k = ss.length := by omega
      have hss : ∀ s ∈ ss, 0 ≤ s ∧ s < 32 := fun s hs => by
        obtain ⟨i, hi, he⟩ := List.getElem_of_mem hs
        have := HR.out i hi
        rw [rd_nat _ _ hi, he] at this
        exact this
      obtain ⟨t1, t2, t3, t4, t5, t6⟩ := trips (limit := limit) (by omega) (by omega) (by omega) hss
      have hcl := cntOf_length ss ss.length
      have hcb := cntOf_bound ss ss.length
      generalize cntOf ss ss.length = cs at *
      have hlen := lengths_calls (some ⟨g1, 0, none⟩) cap1 cs limit wr (Kd.R_reads' HO.out).2.2
      rw [if_pos t1, t1, hcl] at hlen
      generalize lengthsOf cs limit.toNat = ls at *
      have HEN := Aside0.mk (fun A2 c2 W (h2 : Kd.C (Kd.int .i64) W A2 ls.length ls) (h : Below w.heap.size w W) => encode_calls A2 A c2 c ls ss W h2 (Kd.C_below HS.out h))
      have hby := (packS_ok (encB ls ss)).1
      have hpl := packS_length (encB ls ss)
      rw [t3] at HEN
      generalize encB ls ss = bits at *
      have hbl : bits.length ≤ 2000000 := by
        have := psum_le (cw cs ls) 61440 32 (fun j hj => by
          have h1 := hcb j (by omega)
          have h2 := t6 j hj
          have e1 := Int.mul_nonneg h1.1 h2.1
          have e2 := Int.mul_le_mul (show rd cs j ≤ 4096 by omega) h2.2 h2.1 (by omega)
          exact ⟨e1, by unfold cw; omega⟩)
        omega
      generalize packS bits = bs at *
      have HDE := Aside0.mk (fun A2 c2 B d W (h2 : Kd.C (Kd.int .i64) W A2 ls.length ls) (h3 : Kd.C (Kd.int .u8) W B bs.length bs) (hd : bs.length ≤ d) => decode_calls A2 B c2 d ls bs bits.length ss.length W h2 h3 hd (by omega) hby)
      rw [t5] at HDE
      have hle : ((ls.length : Int) != 32) = false := by simp [t2]
      have HLL := Aside0.mk t2
      have HCOST := Aside0.mk t4
      have HT6 := Aside0.mk t6
      have HPL := Aside0.mk hpl
      have HCL := Aside0.mk hcl
      have HCB := Aside0.mk hcb
      have hsz := HB.out.size
      clear hltz hss t1 t2 t3 t4 t5 t6 hpl hby HR hcl hcb
      go_wp2_with (first | (go_at_call 12; refine hlen.mono ?_; rintro e w2 ⟨v2, rfl, ho2, hb2⟩; obtain ⟨A2, c2, rfl⟩ := own_slice (Kd.own_of_R ho2); have HB2 := Aside0.mk (below_then HB.out hsz hb2); have HO2 := Aside0.mk (Kd.R_below HO.out hb2); have HL2 := Aside0.mk (Kd.R_reads' ho2).2.2; clear hlen hb2 ho2) | (go_at_call 17; refine (HEN.out A2 c2 w2 HL2.out HB2.out).mono ?_; rintro e w3 ⟨v3, rfl, ho3, hb3⟩; obtain ⟨A3, c3, rfl, hc3, hC3⟩ := Kd.R_reads ho3; have HB3 := Aside0.mk (below_then HB2.out HB2.out.size hb3); have HO3 := Aside0.mk (Kd.R_below HO2.out hb3); have HL3 := Aside0.mk (Kd.C_below HL2.out hb3); clear hb3 ho3 HEN) | (go_at_call 21; refine (HDE.out A2 c2 A3 c3 w3 HL3.out hC3 hc3).mono ?_; rintro e w4 ⟨v4, rfl, ho4, hb4⟩; obtain ⟨A4, c4, rfl⟩ := own_slice (Kd.own_of_R ho4); have HB4 := Aside0.mk (below_then HB3.out HB3.out.size hb4); have HO4 := Aside0.mk (Kd.R_below HO3.out hb4); have HL4 := Aside0.mk (Kd.C_below HL3.out hb4); have hsame := sameInts_calls A4 A c4 c ss ss w4 (Kd.R_reads' ho4).2.2 (Kd.C_below HS.out HB4.out); rw [decide_eq_true rfl] at hsame; clear hb4 ho4 HDE))
      go_loopg [15, 88] 32 (fun kx s15 s88 w' => ∃ (i : Nat), s88 = .int .i64 i ∧ i ≤ 32 ∧ 32 - i ≤ kx ∧ s15 = .int .i64 (psum (cw cs ls) i) ∧ w4 = w')
      case atStart => exact ⟨0, rfl, by omega, by omega, rfl, rfl⟩
      case round =>
        obtain ⟨i, rfl, hi, hix, rfl, rfl⟩ := hrel
        have hbnd : ∀ j : Nat, j < 32 → 0 ≤ cw cs ls j ∧ cw cs ls j ≤ 61440 := fun j hj => by
          have h1 := HCB.out j (by omega)
          have h2 := HT6.out j hj
          have e1 := Int.mul_nonneg h1.1 h2.1
          have e2 := Int.mul_le_mul (show rd cs j ≤ 4096 by omega) h2.2 h2.1 (by omega)
          exact ⟨e1, by unfold cw; omega⟩
        have hps := psum_le (cw cs ls) 61440 i (fun j hj => hbnd j (by omega))
        by_cases hlt : i < 32
        · have hltz : (i : Int) < 32 := by omega
          have hltl : (i : Int) < (ls.length : Int) := by rw [HLL.out]; exact hltz
          have p0 : (0 : Int) ≤ (i : Int) := by omega
          obtain ⟨kc, _⟩ := Kd.R_celln (0 : Int) HO4.out (i : Int) p0 hltz
          rw [Int.toNat_natCast] at kc
          change w4.cell? _ = some (Value.int .i64 (rd cs i)) at kc
          obtain ⟨ad, rfl, hy⟩ := int_at HL4.out i (by rw [HLL.out]; exact hlt)
          have hb1 := hbnd i hlt
          have e15 : Hid (psum (cw cs ls) (i + 1) = psum (cw cs ls) i + cw cs ls i) := rfl
          have f1 : rd cs i * rd ls i = cw cs ls i := rfl
          generalize rd cs (i : Int) = cc at *
          generalize rd ls (i : Int) = ra at *
          generalize cw cs ls i = P1 at *
          generalize psum (cw cs ls) i = K at *
          clear hsame hbnd
          go_wp2
          go_roundg (32 - (i + 1))
          case measure => omega
          case rel => exact ⟨i + 1, by go_num, by omega, Nat.le_refl _, by rw [e15.out], rfl⟩
        · have hltz : ¬ (i : Int) < 32 := by omega
          obtain rfl : i = 32 := by omega
          have hcost := HCOST.out
          have hpl := HPL.out
          clear hbnd
          generalize psum (cw cs ls) 32 = K at *
          have d1 : ((bits.length : Int) == K) = true := by rw [hcost]; simp
          have d2 : ((bs.length : Int) == ((bits.length : Int) + 7) / 8) = true := by rw [beq_iff_eq]; omega
          clear hcost hpl
          go_wp2_with (first | (go_at_call 14; refine hsame.mono ?_; rintro e w5 ⟨rfl, hb5⟩; have HB5 := Aside0.mk (below_then HB4.out HB4.out.size hb5); clear hsame hb5) | (go_at_call 15; with_reducible refine (awake_calls _).mono ?_; rintro e w6 ⟨rfl, hb6⟩))
          go_ret
          exact ⟨rfl, below_then HB5.out HB5.out.size hb6⟩
end Go.Proofs.Ytdmhhgkplcaejaa
