/- slices.symMergeCmpFunc at elements of one cell: one element on one of the two sides. -/
import Derived.Test.YtdmhhgkplcaejaaSo1
namespace Go.Proofs.Ytdmhhgkplcaejaa
open Go.Shelf Go.RowKit Go.Lib Go.Sort
variable {P : Program} {ρ : Ren} {α : Type} [Inhabited α]

set_option maxHeartbeats 8000000 in
set_option maxRecDepth 1000000 in
theorem symMerge1_ahead1 (L : StLay P ρ) (aE : ∀ w, (isAgg (ρ.t 48)).run P w = .ok false w) (zE : ∀ w, (Go.sizeOf (ρ.t 48)).run P w = .ok 1 w) (enc : α → Value) (cf : α → α → Int) (g : Nat) (cb : Array Value) (blk off cap a m b : Nat) (d0 d : Array α) (w0 w : World)
    (eg : ∀ args w, (callFunc g args).run P w = .ok (.enter g args) w) (hcmp : CmpLays1 P g cb enc cf blk off d0.size w0) (R : Row1 enc w0 blk off d0) (hs : d0.size = d.size) (S : SW enc w0 blk off d w) (ha : a < m) (hm : m < b) (hb : b ≤ d.size) (hsz : d.size < 4611686018427387904) (h1 : m - a = 1) :
    Calls P (ρ.f 57) #[.slice (some ⟨blk, off, none⟩) d.size cap, .int .i64 a, .int .i64 m, .int .i64 b, .func (.func g) #[] cb] w fun e w' => e = .returned (.tuple #[]) ∧ SW enc w0 blk off (upBy d a (bsr (fun h => ltOf cf d[h]! d[a]!) m b - 1 - a)) w' := by
  have mixed := L.mixed; have t0 := L.t0; have a0 := L.a0; have z0 := L.z0; have v0 := L.v0; have t3 := L.t3; have a3 := L.a3; have z3 := L.z3; have v3 := L.v3; have t4 := L.t4; have a4 := L.a4; have z4 := L.z4; have v4 := L.v4; have t30 := L.t30; have a30 := L.a30; have z30 := L.z30; have v30 := L.v30; have t45 := L.t45; have a45 := L.a45; have z45 := L.z45; have v45 := L.v45; have t73 := L.t73; have a73 := L.a73; have z73 := L.z73; have v73 := L.v73
  have u45 := run_underlying L.t45
  have hcl0 := R.hO.cells
  simp only [Value.cells] at hcl0
  have hst := R.hO.store P
  obtain ⟨_, _, FG⟩ := L.f57
  have HC : Aside _ := hcmp
  have S0 : Aside (SW enc w0 blk off d w) := S
  clear S hcmp
  obtain rfl : m = a + 1 := by omega
  clear h1
  go_enter FG, StB.n57_ntmps ρ
  go_wp2
  go_loopg [10, 11] (b - a + 1) (fun kx si sj wr => ∃ (i j : Nat), si = .int .i64 i ∧ sj = .int .i64 j ∧ a + 1 ≤ i ∧ i ≤ j ∧ j ≤ b ∧ j - i ≤ kx ∧ Aside (SW enc w0 blk off d wr) ∧ Hid (bsr (fun h => ltOf cf d[h]! d[a]!) i j = bsr (fun h => ltOf cf d[h]! d[a]!) (a + 1) (b)))
  case atStart => exact ⟨a + 1, b, by go_num, by go_num, by omega, by omega, by omega, by omega, S0, rfl⟩
  case round =>
    clear S0
    obtain ⟨i, j, rfl, rfl, hai, hij, hjb, hkx, S1, HQ⟩ := hrel
    by_cases hlt : i < j
    · have hltz : (i : Int) < (j : Int) := by omega
      obtain ⟨h, hh⟩ : ∃ h, h = (i + j) / 2 := ⟨_, rfl⟩
      have hih : i ≤ h := by omega
      have hhj : h < j := by omega
      have eh : ((i : Int) + (j : Int)) / 2 = (h : Int) := by omega
      have HH : Hid (h = (i + j) / 2) := hh
      clear hh
      cases hlv : ltOf cf d[h]! d[a]! with
      | true =>
        obtain ⟨iN1, hiN1⟩ : ∃ q, q = h := ⟨_, rfl⟩
        obtain ⟨jN1, hjN1⟩ : ∃ q, q = a := ⟨_, rfl⟩
        have ea1 : ((h : Int)).toNat = iN1 := by omega
        have pa1 : (0 : Int) ≤ (h : Int) := by omega
        have ba1 : (h : Int) < (d.size : Int) := by omega
        have ra1 : IntKind.i64.wrap ((h : Int)) = (h : Int) := by rw [IntKind.wrap_i64]; omega
        have ec1 : ((a : Int)).toNat = jN1 := by omega
        have pc1 : (0 : Int) ≤ (a : Int) := by omega
        have bc1 : (a : Int) < (d.size : Int) := by omega
        have rc1 : IntKind.i64.wrap ((a : Int)) = (a : Int) := by rw [IntKind.wrap_i64]; omega
        obtain ⟨x1, hx1⟩ : ∃ x, x = d[h]! := ⟨_, rfl⟩
        obtain ⟨y1, hy1⟩ : ∃ x, x = d[a]! := ⟨_, rfl⟩
        have la1 := S1.out.cl R (by omega) (h) (by omega)
        have lb1 := S1.out.cl R (by omega) (a) (by omega)
        rw [← hx1, ← hiN1] at la1
        rw [← hy1, ← hjN1] at lb1
        have hc1 := S1.out.cmp HC.out (by omega) x1 y1
        have hv1 : cf x1 y1 < 0 := by rw [hx1, hy1]; exact of_decide_eq_true hlv
        have hd1 : decide (cf x1 y1 < 0) = true := decide_eq_true hv1
        clear hx1 hy1 hiN1 hjN1
        go_wp2_with fail
        go_quiet_grown (first | (go_at_fn g; refine Calls.grown_of (hc1 _ _)))
        have S2 : Aside (SW enc w0 blk off d (grow (wr.drewN nq) osq)) := S1.out.grown nq osq
        clear la1 lb1 hc1 S1
        generalize grow (wr.drewN nq) osq = wq at S2 ⊢
        clear nq osq
        clear ea1 ec1
        go_wp2
        go_roundg (j - (h + 1))
        case measure => omega
        case rel =>
          refine ⟨h + 1, j, by go_num, by go_num, by omega, by omega, by omega, Nat.le_refl _, S2, (show _ = _ from ?_)⟩
          rw [← HQ.out, bsr.eq_def _ i j, if_pos hlt, ← HH.out]
          rw [if_pos (by simp [hlv])]
      | false =>
        obtain ⟨iN1, hiN1⟩ : ∃ q, q = h := ⟨_, rfl⟩
        obtain ⟨jN1, hjN1⟩ : ∃ q, q = a := ⟨_, rfl⟩
        have ea1 : ((h : Int)).toNat = iN1 := by omega
        have pa1 : (0 : Int) ≤ (h : Int) := by omega
        have ba1 : (h : Int) < (d.size : Int) := by omega
        have ra1 : IntKind.i64.wrap ((h : Int)) = (h : Int) := by rw [IntKind.wrap_i64]; omega
        have ec1 : ((a : Int)).toNat = jN1 := by omega
        have pc1 : (0 : Int) ≤ (a : Int) := by omega
        have bc1 : (a : Int) < (d.size : Int) := by omega
        have rc1 : IntKind.i64.wrap ((a : Int)) = (a : Int) := by rw [IntKind.wrap_i64]; omega
        obtain ⟨x1, hx1⟩ : ∃ x, x = d[h]! := ⟨_, rfl⟩
        obtain ⟨y1, hy1⟩ : ∃ x, x = d[a]! := ⟨_, rfl⟩
        have la1 := S1.out.cl R (by omega) (h) (by omega)
        have lb1 := S1.out.cl R (by omega) (a) (by omega)
        rw [← hx1, ← hiN1] at la1
        rw [← hy1, ← hjN1] at lb1
        have hc1 := S1.out.cmp HC.out (by omega) x1 y1
        have hv1 : ¬ cf x1 y1 < 0 := by rw [hx1, hy1]; exact of_decide_eq_false hlv
        have hd1 : decide (cf x1 y1 < 0) = false := decide_eq_false hv1
        clear hx1 hy1 hiN1 hjN1
        go_wp2_with fail
        go_quiet_grown (first | (go_at_fn g; refine Calls.grown_of (hc1 _ _)))
        have S2 : Aside (SW enc w0 blk off d (grow (wr.drewN nq) osq)) := S1.out.grown nq osq
        clear la1 lb1 hc1 S1
        generalize grow (wr.drewN nq) osq = wq at S2 ⊢
        clear nq osq
        clear ea1 ec1
        go_wp2
        go_roundg (h - i)
        case measure => omega
        case rel =>
          refine ⟨i, h, by go_num, by go_num, by omega, by omega, by omega, Nat.le_refl _, S2, (show _ = _ from ?_)⟩
          rw [← HQ.out, bsr.eq_def _ i j, if_pos hlt, ← HH.out]
          rw [if_neg (by simp [hlv])]
    · obtain rfl : i = j := by omega
      have HI : Hid (i = bsr (fun h => ltOf cf d[h]! d[a]!) (a + 1) (b)) := by show _ = _; rw [← HQ.out, bsr, if_neg (by omega)]
      have hltz : ¬ (i : Int) < (i : Int) := by omega
      clear HQ
      go_wp2_with fail
      go_loopg [13] (i - 1 - a) (fun kx sk wr => ∃ (t : Nat), sk = .int .i64 ((a + t : Nat) : Int) ∧ a + t ≤ i - 1 ∧ i - 1 - a - t ≤ kx ∧ Aside (SW enc w0 blk off (upBy d a t) wr))
      case atStart => exact ⟨0, by go_num, by omega, by omega, S1⟩
      case round =>
        clear S1
        obtain ⟨t, rfl, hti, hkx, S1⟩ := hrel
        have hds : (upBy d a t).size = d.size := size_upBy d a t
        have ect : ((a + t : Nat) : Int) = (a : Int) + (t : Int) := by omega
        by_cases hlt : a + t < i - 1
        · have hltz : (a : Int) + (t : Int) < (i : Int) - 1 := by omega
          generalize hD : upBy d a t = D at S1 hds
          have HD : Hid (upBy d a t = D) := hD
          clear hD
          obtain ⟨iN2, hiN2⟩ : ∃ q, q = a + t := ⟨_, rfl⟩
          obtain ⟨jN2, hjN2⟩ : ∃ q, q = a + t + 1 := ⟨_, rfl⟩
          have ea2 : ((a : Int) + (t : Int)).toNat = iN2 := by omega
          have pa2 : (0 : Int) ≤ (a : Int) + (t : Int) := by omega
          have ba2 : (a : Int) + (t : Int) < (d.size : Int) := by omega
          have ra2 : IntKind.i64.wrap ((a : Int) + (t : Int)) = (a : Int) + (t : Int) := by rw [IntKind.wrap_i64]; omega
          have ec2 : ((a : Int) + (t : Int) + 1).toNat = jN2 := by omega
          have pc2 : (0 : Int) ≤ (a : Int) + (t : Int) + 1 := by omega
          have bc2 : (a : Int) + (t : Int) + 1 < (d.size : Int) := by omega
          have rc2 : IntKind.i64.wrap ((a : Int) + (t : Int) + 1) = (a : Int) + (t : Int) + 1 := by rw [IntKind.wrap_i64]; omega
          obtain ⟨x2, hx2⟩ : ∃ x, x = D[a + t]! := ⟨_, rfl⟩
          obtain ⟨y2, hy2⟩ : ∃ x, x = D[a + t + 1]! := ⟨_, rfl⟩
          have S2 : Aside (SW enc w0 blk off (swp D (a + t) (a + t + 1)) ((wr.setCell ⟨blk, off + iN2, none⟩ (enc y2)).setCell ⟨blk, off + jN2, none⟩ (enc x2)).drew) := by rw [hiN2, hjN2, hx2, hy2]; exact S1.out.swapped R (a + t) (a + t + 1) (by omega) (by omega)
          have c2a := S1.out.c1 R (by omega) (a + t) (by omega)
          have c2b := S1.out.c1 R (by omega) (a + t + 1) (by omega)
          have f2a := S1.out.f1 R (by omega) (a + t) (by omega)
          have f2b := S1.out.f1 R (by omega) (a + t + 1) (by omega)
          obtain ⟨u2, c2c⟩ := S1.out.c2 R (by omega) (a + t) (a + t + 1) (by omega) (by omega) (enc y2)
          rw [← hjN2, ← hiN2] at c2c
          rw [← hx2, ← hiN2] at c2a
          rw [← hy2, ← hjN2] at c2b
          rw [← hiN2] at f2a
          rw [← hjN2] at f2b
          clear S1 hx2 hy2 hiN2 hjN2
          go_wp2_with fail
          go_big_region_o
          clear c2a c2b c2c f2a f2b
          generalize ((wr.setCell ⟨blk, off + iN2, none⟩ (enc y2)).setCell ⟨blk, off + jN2, none⟩ (enc x2)).drew = wq at S2 ⊢
          clear ea2 ec2
          go_wp2
          go_roundg (i - 1 - a - (t + 1))
          case measure => omega
          case rel => exact ⟨t + 1, by go_num, by omega, Nat.le_refl _, by rw [upBy, HD.out]; exact S2⟩
        · have hltz : ¬ (a : Int) + (t : Int) < (i : Int) - 1 := by omega
          go_wp2
          first | go_end0 | ((try simp only [Exit.inBlock, Exit.then]); refine bodyPost_ret (results_none rfl _ _ _) rfl ?_)
          refine ⟨rfl, ?_⟩
          rw [← HI.out, show i - 1 - a = t from by omega]
          exact S1.out

set_option maxHeartbeats 8000000 in
set_option maxRecDepth 1000000 in
theorem symMerge1_behind1 (L : StLay P ρ) (aE : ∀ w, (isAgg (ρ.t 48)).run P w = .ok false w) (zE : ∀ w, (Go.sizeOf (ρ.t 48)).run P w = .ok 1 w) (enc : α → Value) (cf : α → α → Int) (g : Nat) (cb : Array Value) (blk off cap a m b : Nat) (d0 d : Array α) (w0 w : World)
    (eg : ∀ args w, (callFunc g args).run P w = .ok (.enter g args) w) (hcmp : CmpLays1 P g cb enc cf blk off d0.size w0) (R : Row1 enc w0 blk off d0) (hs : d0.size = d.size) (S : SW enc w0 blk off d w) (ha : a < m) (hm : m < b) (hb : b ≤ d.size) (hsz : d.size < 4611686018427387904) (h1 : ¬ m - a = 1) (h2 : b - m = 1) :
    Calls P (ρ.f 57) #[.slice (some ⟨blk, off, none⟩) d.size cap, .int .i64 a, .int .i64 m, .int .i64 b, .func (.func g) #[] cb] w fun e w' => e = .returned (.tuple #[]) ∧ SW enc w0 blk off (downBy d m (m - bsr (fun h => !ltOf cf d[m]! d[h]!) a m)) w' := by
  have mixed := L.mixed; have t0 := L.t0; have a0 := L.a0; have z0 := L.z0; have v0 := L.v0; have t3 := L.t3; have a3 := L.a3; have z3 := L.z3; have v3 := L.v3; have t4 := L.t4; have a4 := L.a4; have z4 := L.z4; have v4 := L.v4; have t30 := L.t30; have a30 := L.a30; have z30 := L.z30; have v30 := L.v30; have t45 := L.t45; have a45 := L.a45; have z45 := L.z45; have v45 := L.v45; have t73 := L.t73; have a73 := L.a73; have z73 := L.z73; have v73 := L.v73
  have u45 := run_underlying L.t45
  have hcl0 := R.hO.cells
  simp only [Value.cells] at hcl0
  have hst := R.hO.store P
  obtain ⟨_, _, FG⟩ := L.f57
  have HC : Aside _ := hcmp
  have S0 : Aside (SW enc w0 blk off d w) := S
  clear S hcmp
  obtain rfl : b = m + 1 := by omega
  have h1z : ((m : Int) - (a : Int) == 1) = false := beq_eq_false_iff_ne.2 (by omega)
  clear h1 h2
  go_enter FG, StB.n57_ntmps ρ
  go_wp2
  go_loopg [14, 15] (m - a) (fun kx si sj wr => ∃ (i j : Nat), si = .int .i64 i ∧ sj = .int .i64 j ∧ a ≤ i ∧ i ≤ j ∧ j ≤ m ∧ j - i ≤ kx ∧ Aside (SW enc w0 blk off d wr) ∧ Hid (bsr (fun h => !ltOf cf d[m]! d[h]!) i j = bsr (fun h => !ltOf cf d[m]! d[h]!) (a) (m)))
  case atStart => exact ⟨a, m, by go_num, by go_num, by omega, by omega, by omega, by omega, S0, rfl⟩
  case round =>
    clear S0
    obtain ⟨i, j, rfl, rfl, hai, hij, hjb, hkx, S1, HQ⟩ := hrel
    by_cases hlt : i < j
    · have hltz : (i : Int) < (j : Int) := by omega
      obtain ⟨h, hh⟩ : ∃ h, h = (i + j) / 2 := ⟨_, rfl⟩
      have hih : i ≤ h := by omega
      have hhj : h < j := by omega
      have eh : ((i : Int) + (j : Int)) / 2 = (h : Int) := by omega
      have HH : Hid (h = (i + j) / 2) := hh
      clear hh
      cases hlv : ltOf cf d[m]! d[h]! with
      | true =>
        obtain ⟨iN3, hiN3⟩ : ∃ q, q = m := ⟨_, rfl⟩
        obtain ⟨jN3, hjN3⟩ : ∃ q, q = h := ⟨_, rfl⟩
        have ea3 : ((m : Int)).toNat = iN3 := by omega
        have pa3 : (0 : Int) ≤ (m : Int) := by omega
        have ba3 : (m : Int) < (d.size : Int) := by omega
        have ra3 : IntKind.i64.wrap ((m : Int)) = (m : Int) := by rw [IntKind.wrap_i64]; omega
        have ec3 : ((h : Int)).toNat = jN3 := by omega
        have pc3 : (0 : Int) ≤ (h : Int) := by omega
        have bc3 : (h : Int) < (d.size : Int) := by omega
        have rc3 : IntKind.i64.wrap ((h : Int)) = (h : Int) := by rw [IntKind.wrap_i64]; omega
        obtain ⟨x3, hx3⟩ : ∃ x, x = d[m]! := ⟨_, rfl⟩
        obtain ⟨y3, hy3⟩ : ∃ x, x = d[h]! := ⟨_, rfl⟩
        have la3 := S1.out.cl R (by omega) (m) (by omega)
        have lb3 := S1.out.cl R (by omega) (h) (by omega)
        rw [← hx3, ← hiN3] at la3
        rw [← hy3, ← hjN3] at lb3
        have hc3 := S1.out.cmp HC.out (by omega) x3 y3
        have hv3 : cf x3 y3 < 0 := by rw [hx3, hy3]; exact of_decide_eq_true hlv
        have hd3 : decide (cf x3 y3 < 0) = true := decide_eq_true hv3
        clear hx3 hy3 hiN3 hjN3
        go_wp2_with fail
        go_quiet_grown (first | (go_at_fn g; refine Calls.grown_of (hc3 _ _)))
        have S2 : Aside (SW enc w0 blk off d (grow (wr.drewN nq) osq)) := S1.out.grown nq osq
        clear la3 lb3 hc3 S1
        generalize grow (wr.drewN nq) osq = wq at S2 ⊢
        clear nq osq
        clear ea3 ec3
        go_wp2
        go_roundg (h - i)
        case measure => omega
        case rel =>
          refine ⟨i, h, by go_num, by go_num, by omega, by omega, by omega, Nat.le_refl _, S2, (show _ = _ from ?_)⟩
          rw [← HQ.out, bsr.eq_def _ i j, if_pos hlt, ← HH.out]
          rw [if_neg (by simp [hlv])]
      | false =>
        obtain ⟨iN3, hiN3⟩ : ∃ q, q = m := ⟨_, rfl⟩
        obtain ⟨jN3, hjN3⟩ : ∃ q, q = h := ⟨_, rfl⟩
        have ea3 : ((m : Int)).toNat = iN3 := by omega
        have pa3 : (0 : Int) ≤ (m : Int) := by omega
        have ba3 : (m : Int) < (d.size : Int) := by omega
        have ra3 : IntKind.i64.wrap ((m : Int)) = (m : Int) := by rw [IntKind.wrap_i64]; omega
        have ec3 : ((h : Int)).toNat = jN3 := by omega
        have pc3 : (0 : Int) ≤ (h : Int) := by omega
        have bc3 : (h : Int) < (d.size : Int) := by omega
        have rc3 : IntKind.i64.wrap ((h : Int)) = (h : Int) := by rw [IntKind.wrap_i64]; omega
        obtain ⟨x3, hx3⟩ : ∃ x, x = d[m]! := ⟨_, rfl⟩
        obtain ⟨y3, hy3⟩ : ∃ x, x = d[h]! := ⟨_, rfl⟩
        have la3 := S1.out.cl R (by omega) (m) (by omega)
        have lb3 := S1.out.cl R (by omega) (h) (by omega)
        rw [← hx3, ← hiN3] at la3
        rw [← hy3, ← hjN3] at lb3
        have hc3 := S1.out.cmp HC.out (by omega) x3 y3
        have hv3 : ¬ cf x3 y3 < 0 := by rw [hx3, hy3]; exact of_decide_eq_false hlv
        have hd3 : decide (cf x3 y3 < 0) = false := decide_eq_false hv3
        clear hx3 hy3 hiN3 hjN3
        go_wp2_with fail
        go_quiet_grown (first | (go_at_fn g; refine Calls.grown_of (hc3 _ _)))
        have S2 : Aside (SW enc w0 blk off d (grow (wr.drewN nq) osq)) := S1.out.grown nq osq
        clear la3 lb3 hc3 S1
        generalize grow (wr.drewN nq) osq = wq at S2 ⊢
        clear nq osq
        clear ea3 ec3
        go_wp2
        go_roundg (j - (h + 1))
        case measure => omega
        case rel =>
          refine ⟨h + 1, j, by go_num, by go_num, by omega, by omega, by omega, Nat.le_refl _, S2, (show _ = _ from ?_)⟩
          rw [← HQ.out, bsr.eq_def _ i j, if_pos hlt, ← HH.out]
          rw [if_pos (by simp [hlv])]
    · obtain rfl : i = j := by omega
      have HI : Hid (i = bsr (fun h => !ltOf cf d[m]! d[h]!) (a) (m)) := by show _ = _; rw [← HQ.out, bsr, if_neg (by omega)]
      have hltz : ¬ (i : Int) < (i : Int) := by omega
      clear HQ
      go_wp2_with fail
      go_loopg [17] (m - i) (fun kx sk wr => ∃ (t : Nat), sk = .int .i64 ((m : Int) - (t : Int)) ∧ i + t ≤ m ∧ m - i - t ≤ kx ∧ Aside (SW enc w0 blk off (downBy d m t) wr))
      case atStart => exact ⟨0, by simp, by omega, by omega, S1⟩
      case round =>
        clear S1
        obtain ⟨t, rfl, hti, hkx, S1⟩ := hrel
        have hds : (downBy d m t).size = d.size := size_downBy d m t
        by_cases hlt : i + t < m
        · have hltz : (i : Int) < (m : Int) - (t : Int) := by omega
          generalize hD : downBy d m t = D at S1 hds
          have HD : Hid (downBy d m t = D) := hD
          clear hD
          obtain ⟨iN4, hiN4⟩ : ∃ q, q = m - t := ⟨_, rfl⟩
          obtain ⟨jN4, hjN4⟩ : ∃ q, q = m - t - 1 := ⟨_, rfl⟩
          have ea4 : ((m : Int) - (t : Int)).toNat = iN4 := by omega
          have pa4 : (0 : Int) ≤ (m : Int) - (t : Int) := by omega
          have ba4 : (m : Int) - (t : Int) < (d.size : Int) := by omega
          have ra4 : IntKind.i64.wrap ((m : Int) - (t : Int)) = (m : Int) - (t : Int) := by rw [IntKind.wrap_i64]; omega
          have ec4 : ((m : Int) - (t : Int) - 1).toNat = jN4 := by omega
          have pc4 : (0 : Int) ≤ (m : Int) - (t : Int) - 1 := by omega
          have bc4 : (m : Int) - (t : Int) - 1 < (d.size : Int) := by omega
          have rc4 : IntKind.i64.wrap ((m : Int) - (t : Int) - 1) = (m : Int) - (t : Int) - 1 := by rw [IntKind.wrap_i64]; omega
          obtain ⟨x4, hx4⟩ : ∃ x, x = D[m - t]! := ⟨_, rfl⟩
          obtain ⟨y4, hy4⟩ : ∃ x, x = D[m - t - 1]! := ⟨_, rfl⟩
          have S2 : Aside (SW enc w0 blk off (swp D (m - t) (m - t - 1)) ((wr.setCell ⟨blk, off + iN4, none⟩ (enc y4)).setCell ⟨blk, off + jN4, none⟩ (enc x4)).drew) := by rw [hiN4, hjN4, hx4, hy4]; exact S1.out.swapped R (m - t) (m - t - 1) (by omega) (by omega)
          have c4a := S1.out.c1 R (by omega) (m - t) (by omega)
          have c4b := S1.out.c1 R (by omega) (m - t - 1) (by omega)
          have f4a := S1.out.f1 R (by omega) (m - t) (by omega)
          have f4b := S1.out.f1 R (by omega) (m - t - 1) (by omega)
          obtain ⟨u4, c4c⟩ := S1.out.c2 R (by omega) (m - t) (m - t - 1) (by omega) (by omega) (enc y4)
          rw [← hjN4, ← hiN4] at c4c
          rw [← hx4, ← hiN4] at c4a
          rw [← hy4, ← hjN4] at c4b
          rw [← hiN4] at f4a
          rw [← hjN4] at f4b
          clear S1 hx4 hy4 hiN4 hjN4
          go_wp2_with fail
          go_big_region_o
          clear c4a c4b c4c f4a f4b
          generalize ((wr.setCell ⟨blk, off + iN4, none⟩ (enc y4)).setCell ⟨blk, off + jN4, none⟩ (enc x4)).drew = wq at S2 ⊢
          clear ea4 ec4
          go_wp2
          go_roundg (m - i - (t + 1))
          case measure => omega
          case rel => exact ⟨t + 1, by congr 1; omega, by omega, Nat.le_refl _, by rw [downBy, HD.out]; exact S2⟩
        · have hltz : ¬ (i : Int) < (m : Int) - (t : Int) := by omega
          go_wp2
          first | go_end0 | ((try simp only [Exit.inBlock, Exit.then]); refine bodyPost_ret (results_none rfl _ _ _) rfl ?_)
          refine ⟨rfl, ?_⟩
          rw [← HI.out, show m - i = t from by omega]
          exact S1.out

end Go.Proofs.Ytdmhhgkplcaejaa
