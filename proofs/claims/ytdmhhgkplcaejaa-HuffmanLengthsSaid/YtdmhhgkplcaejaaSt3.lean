/- slices.symMergeCmpFunc at elements of k cells: whatever ranges. -/
import Derived.Test.YtdmhhgkplcaejaaSt2
import Derived.Deep.CutRange
import Derived.Deep.CutBlock
namespace Go.Proofs.Ytdmhhgkplcaejaa
open Go.Shelf Go.RowKit Go.Lib Go.Sort
variable {P : Program} {ρ : Ren} {α : Type} [Inhabited α]

/-- What the search for the start knows of its places. -/
theorem sym_places {a m b mid s c : Nat} (hmid : mid = (a + b) / 2) (ha : a < m) (hm : m < b) (h1 : (if mid < m then mid + m - b else a) ≤ c) (h2 : c < (if mid < m then mid else m)) :
    c < m ∧ a ≤ c ∧ m ≤ mid + m - 1 - c ∧ mid + m - 1 - c < b ∧ c ≤ mid + m - 1 := by
  split at h1 <;> split at h2 <;> omega

set_option maxHeartbeats 8000000 in
set_option maxRecDepth 1000000 in
theorem symMerge_both (L : StLay P ρ) (k : Nat) (aE : ∀ w, (isAgg (ρ.t 48)).run P w = .ok true w) (zE : ∀ w, (Go.sizeOf (ρ.t 48)).run P w = .ok k w) (enc : α → List Value) (cf : α → α → Int) (g : Nat) (cb : Array Value) (blk off cap a m b : Nat) (d0 d : Array α) (w0 w : World)
    (eg : ∀ args w, (callFunc g args).run P w = .ok (.enter g args) w) (hcmp : CmpLays P g cb enc k cf blk off d0.size w0) (R : RowK enc k w0 blk off d0) (hs : d0.size = d.size) (S : SWK enc k w0 blk off d w) (ha : a < m) (hm : m < b) (hb : b ≤ d.size) (hsz : d.size < 4611686018427387904) (h1 : ¬ m - a = 1) (h2 : ¬ b - m = 1)
    (ih : ∀ (a' m' b' : Nat) (d' : Array α) (w' : World), b' - a' < b - a → d'.size = d.size → SWK enc k w0 blk off d' w' → a' < m' → m' < b' → b' ≤ d.size → Calls P (ρ.f 57) #[.slice (some ⟨blk, off, none⟩) d.size cap, .int .i64 a', .int .i64 m', .int .i64 b', .func (.func g) #[] cb] w' fun e w'' => e = .returned (.tuple #[]) ∧ SWK enc k w0 blk off (symM (ltOf cf) d' a' m' b') w'') :
    Calls P (ρ.f 57) #[.slice (some ⟨blk, off, none⟩) d.size cap, .int .i64 a, .int .i64 m, .int .i64 b, .func (.func g) #[] cb] w fun e w' => e = .returned (.tuple #[]) ∧ SWK enc k w0 blk off (symM (ltOf cf) d a m b) w' := by
  have mixed := L.mixed; have t0 := L.t0; have a0 := L.a0; have z0 := L.z0; have v0 := L.v0; have t3 := L.t3; have a3 := L.a3; have z3 := L.z3; have v3 := L.v3; have t4 := L.t4; have a4 := L.a4; have z4 := L.z4; have v4 := L.v4; have t30 := L.t30; have a30 := L.a30; have z30 := L.z30; have v30 := L.v30; have t45 := L.t45; have a45 := L.a45; have z45 := L.z45; have v45 := L.v45; have t73 := L.t73; have a73 := L.a73; have z73 := L.z73; have v73 := L.v73
  have e57 : ∀ args w, (callFunc (ρ.f 57) args).run P w = .ok (.enter (ρ.f 57) args) w := L.f57.enters rfl
  have e60 : ∀ args w, (callFunc (ρ.f 60) args).run P w = .ok (.enter (ρ.f 60) args) w := L.f60.enters rfl
  have hrot := fun (m' a' b' : Nat) (d' : Array α) (w' : World) => rotate_K L k aE zE enc g cb blk off cap a' m' b' d0 d' w0 w' R
  obtain ⟨_, _, FG⟩ := L.f57
  have HC : Aside _ := hcmp
  have S0 : Aside (SWK enc k w0 blk off d w) := S
  have IH : Aside _ := ih
  have ROT : Aside _ := hrot
  clear S hcmp ih hrot
  have h1z : ((m : Int) - (a : Int) == 1) = false := beq_eq_false_iff_ne.2 (by omega)
  have h2z : ((b : Int) - (m : Int) == 1) = false := beq_eq_false_iff_ne.2 (by omega)
  obtain ⟨mid, hmid⟩ : ∃ mid, mid = (a + b) / 2 := ⟨_, rfl⟩
  have emid : ((a : Int) + (b : Int)) / 2 = (mid : Int) := by omega
  have am : a < mid := by omega
  have mb : mid < b := by omega
  have HM : Hid (mid = (a + b) / 2) := hmid
  have hfin : Hid (symM (ltOf cf) d a m b = if h : mid < mid + m - symStart (ltOf cf) d a m b ∧ mid + m - symStart (ltOf cf) d a m b < b then symM (ltOf cf) (if h : a < symStart (ltOf cf) d a m b ∧ symStart (ltOf cf) d a m b < mid then symM (ltOf cf) (symRot d (symStart (ltOf cf) d a m b) m (mid + m - symStart (ltOf cf) d a m b)) a (symStart (ltOf cf) d a m b) mid else symRot d (symStart (ltOf cf) d a m b) m (mid + m - symStart (ltOf cf) d a m b)) mid (mid + m - symStart (ltOf cf) d a m b) b else (if h : a < symStart (ltOf cf) d a m b ∧ symStart (ltOf cf) d a m b < mid then symM (ltOf cf) (symRot d (symStart (ltOf cf) d a m b) m (mid + m - symStart (ltOf cf) d a m b)) a (symStart (ltOf cf) d a m b) mid else symRot d (symStart (ltOf cf) d a m b) m (mid + m - symStart (ltOf cf) d a m b))) := by
    show _ = _
    rw [symM, if_neg h1, if_neg h2, hmid]
  have hst : Hid (symStart (ltOf cf) d a m b = bsr (fun c => !ltOf cf d[mid + m - 1 - c]! d[c]!) (if mid < m then mid + m - b else a) (if mid < m then mid else m)) := by
    show _ = _
    rw [symStart, hmid]
  obtain ⟨st, hste⟩ : ∃ st, st = symStart (ltOf cf) d a m b := ⟨_, rfl⟩
  rw [← hste] at hfin hst
  obtain ⟨s0, hs0⟩ : ∃ s0, s0 = if mid < m then mid + m - b else a := ⟨_, rfl⟩
  obtain ⟨r0, hr0⟩ : ∃ r0, r0 = if mid < m then mid else m := ⟨_, rfl⟩
  rw [← hs0, ← hr0] at hst
  have hpl : ∀ c, s0 ≤ c → c < r0 → c < m ∧ a ≤ c ∧ m ≤ mid + m - 1 - c ∧ mid + m - 1 - c < b ∧ c ≤ mid + m - 1 := fun c h1 h2 => sym_places (s := c) hmid ha hm (by rw [← hs0]; exact h1) (by rw [← hr0]; exact h2)
  have hsr : a ≤ s0 ∧ s0 ≤ r0 ∧ r0 ≤ m ∧ r0 ≤ mid ∧ mid + m ≤ s0 + b := by rw [hs0, hr0]; split <;> omega
  obtain ⟨hs1, hs2, hs3, hs4, hs5⟩ := hsr
  have PL : Aside _ := hpl
  have HS0 : Hid (s0 = if mid < m then mid + m - b else a) := hs0
  have HR0 : Hid (r0 = if mid < m then mid else m) := hr0
  clear hs0 hr0 hmid hpl hste h1 h2
  go_enter FG, StB.n57_ntmps ρ
  go_upto_if 140 with (fail)
  go_cut [20, 21, 140] from 141 to 146 (fun s20 s21 _ wc => s20 = .int .i64 s0 ∧ s21 = .int .i64 r0 ∧ wc = w)
  case first =>
    by_cases hmm : mid < m
    · have hz : (mid : Int) < (m : Int) := by omega
      have e1 : (mid : Int) + (m : Int) - (b : Int) = (s0 : Int) := by have := HS0.out; rw [if_pos hmm] at this; omega
      have e2 : (mid : Int) = (r0 : Int) := by have := HR0.out; rw [if_pos hmm] at this; omega
      have E2 : Hid _ := e2
      clear e2
      go_wp2_with fail
      go_meet
      exact ⟨rfl, by rw [E2.out], rfl⟩
    · have hz : ¬ (mid : Int) < (m : Int) := by omega
      have e1 : a = s0 := by have := HS0.out; rw [if_neg hmm] at this; omega
      have e2 : m = r0 := by have := HR0.out; rw [if_neg hmm] at this; omega
      have E1 : Hid _ := e1
      have E2 : Hid _ := e2
      clear e1 e2
      go_wp2_with fail
      go_meet
      exact ⟨by rw [← E1.out], by rw [← E2.out], rfl⟩
  case rest =>
    obtain ⟨rfl, rfl, rfl⟩ := hcut
    go_wp2_with fail
    go_loopg [20, 21] (r0 - s0) (fun kx si sj wr => ∃ (i j : Nat), si = .int .i64 i ∧ sj = .int .i64 j ∧ s0 ≤ i ∧ i ≤ j ∧ j ≤ r0 ∧ j - i ≤ kx ∧ Aside (SWK enc k w0 blk off d wr) ∧ Hid (bsr (fun c => !ltOf cf d[mid + m - 1 - c]! d[c]!) i j = bsr (fun c => !ltOf cf d[mid + m - 1 - c]! d[c]!) (s0) (r0)))
    case atStart => exact ⟨s0, r0, by go_num, by go_num, by omega, by omega, by omega, by omega, S0, rfl⟩
    case round =>
      clear S0
      obtain ⟨i, j, rfl, rfl, hai, hij, hjb, hkx, S1, HQ⟩ := hrel
      by_cases hlt : i < j
      · have hltz : (i : Int) < (j : Int) := by omega
        obtain ⟨h, hh⟩ : ∃ h, h = (i + j) / 2 := ⟨_, rfl⟩
        have hih : i ≤ h := by omega
        have hhj : h < j := by omega
        have eh : ((i : Int) + (j : Int)) / 2 = (h : Int) := by omega
        have HH : Hid (h = (i + j) / 2) := hh
        clear hh
        obtain ⟨p1, p2, p3, p4, p5⟩ := PL.out h (by omega) (by omega)
        have pz : (h : Int) ≤ (mid : Int) + (m : Int) - 1 := by omega
        cases hlv : ltOf cf d[mid + m - 1 - h]! d[h]! with
        | true =>
          have ea5 : ((mid : Int) + (m : Int) - 1 - (h : Int)).toNat = mid + m - 1 - h := by omega
          have pa5 : (0 : Int) ≤ (mid : Int) + (m : Int) - 1 - (h : Int) := by omega
          have ba5 : (mid : Int) + (m : Int) - 1 - (h : Int) < (d.size : Int) := by omega
          have ra5 : IntKind.i64.wrap ((mid : Int) + (m : Int) - 1 - (h : Int)) = (mid : Int) + (m : Int) - 1 - (h : Int) := by rw [IntKind.wrap_i64]; omega
          have ec5 : ((h : Int)).toNat = h := by omega
          have pc5 : (0 : Int) ≤ (h : Int) := by omega
          have bc5 : (h : Int) < (d.size : Int) := by omega
          have rc5 : IntKind.i64.wrap ((h : Int)) = (h : Int) := by rw [IntKind.wrap_i64]; omega
          obtain ⟨x5, hx5⟩ : ∃ x, x = d[mid + m - 1 - h]! := ⟨_, rfl⟩
          obtain ⟨y5, hy5⟩ : ∃ x, x = d[h]! := ⟨_, rfl⟩
          have la5 := S1.out.ld R (by omega) P (mid + m - 1 - h) (by omega)
          have lb5 := S1.out.ld R (by omega) P (h) (by omega)
          rw [← hx5] at la5
          rw [← hy5] at lb5
          have hc5 := S1.out.cmp HC.out (by omega) x5 y5
          have hv5 : cf x5 y5 < 0 := by rw [hx5, hy5]; exact of_decide_eq_true hlv
          have hd5 : decide (cf x5 y5 < 0) = true := decide_eq_true hv5
          clear hx5 hy5
          go_wp2_with fail
          go_quiet_grown (first | (go_at_fn g; refine Calls.grown_of (hc5 _ _)))
          have S2 : Aside (SWK enc k w0 blk off d (grow (wr.drewN nq) osq)) := S1.out.grown nq osq
          clear la5 lb5 hc5 S1
          generalize grow (wr.drewN nq) osq = wq at S2 ⊢
          clear nq osq
          go_wp2
          go_roundg (h - i)
          case measure => omega
          case rel =>
            refine ⟨i, h, by go_num, by go_num, by omega, by omega, by omega, Nat.le_refl _, S2, (show _ = _ from ?_)⟩
            rw [← HQ.out, bsr.eq_def _ i j, if_pos hlt, ← HH.out]
            rw [if_neg (by simp [hlv])]
        | false =>
          have ea5 : ((mid : Int) + (m : Int) - 1 - (h : Int)).toNat = mid + m - 1 - h := by omega
          have pa5 : (0 : Int) ≤ (mid : Int) + (m : Int) - 1 - (h : Int) := by omega
          have ba5 : (mid : Int) + (m : Int) - 1 - (h : Int) < (d.size : Int) := by omega
          have ra5 : IntKind.i64.wrap ((mid : Int) + (m : Int) - 1 - (h : Int)) = (mid : Int) + (m : Int) - 1 - (h : Int) := by rw [IntKind.wrap_i64]; omega
          have ec5 : ((h : Int)).toNat = h := by omega
          have pc5 : (0 : Int) ≤ (h : Int) := by omega
          have bc5 : (h : Int) < (d.size : Int) := by omega
          have rc5 : IntKind.i64.wrap ((h : Int)) = (h : Int) := by rw [IntKind.wrap_i64]; omega
          obtain ⟨x5, hx5⟩ : ∃ x, x = d[mid + m - 1 - h]! := ⟨_, rfl⟩
          obtain ⟨y5, hy5⟩ : ∃ x, x = d[h]! := ⟨_, rfl⟩
          have la5 := S1.out.ld R (by omega) P (mid + m - 1 - h) (by omega)
          have lb5 := S1.out.ld R (by omega) P (h) (by omega)
          rw [← hx5] at la5
          rw [← hy5] at lb5
          have hc5 := S1.out.cmp HC.out (by omega) x5 y5
          have hv5 : ¬ cf x5 y5 < 0 := by rw [hx5, hy5]; exact of_decide_eq_false hlv
          have hd5 : decide (cf x5 y5 < 0) = false := decide_eq_false hv5
          clear hx5 hy5
          go_wp2_with fail
          go_quiet_grown (first | (go_at_fn g; refine Calls.grown_of (hc5 _ _)))
          have S2 : Aside (SWK enc k w0 blk off d (grow (wr.drewN nq) osq)) := S1.out.grown nq osq
          clear la5 lb5 hc5 S1
          generalize grow (wr.drewN nq) osq = wq at S2 ⊢
          clear nq osq
          go_wp2
          go_roundg (j - (h + 1))
          case measure => omega
          case rel =>
            refine ⟨h + 1, j, by go_num, by go_num, by omega, by omega, by omega, Nat.le_refl _, S2, (show _ = _ from ?_)⟩
            rw [← HQ.out, bsr.eq_def _ i j, if_pos hlt, ← HH.out]
            rw [if_pos (by simp [hlv])]
      · obtain rfl : i = j := by omega
        have HI : Hid (i = bsr (fun c => !ltOf cf d[mid + m - 1 - c]! d[c]!) (s0) (r0)) := by show _ = _; rw [← HQ.out, bsr, if_neg (by omega)]
        have hltz : ¬ (i : Int) < (i : Int) := by omega
        clear HQ
        have hist : i = st := HI.out.trans hst.out.symm
        subst hist
        clear HI hst
        obtain ⟨fin, hf⟩ : ∃ fin, fin = mid + m - i := ⟨_, rfl⟩
        rw [← hf] at hfin
        have ef : (mid : Int) + (m : Int) - (i : Int) = (fin : Int) := by omega
        have f1 : m ≤ fin := by omega
        have f2 : fin ≤ b := by omega
        have f3 : fin < mid + m + 1 := by omega
        clear hf
        go_upto_region 39 with (fail)
        go_cut [185] from 178 to 184 (fun s185 wc => s185 = .bool (decide (i < m ∧ m < fin)) ∧ Aside (SWK enc k w0 blk off d wc))
        case first =>
          by_cases g1 : i < m
          · have g1z : decide ((i : Int) < (m : Int)) = true := decide_eq_true (by omega)
            by_cases g2 : m < fin
            · have g2z : decide ((m : Int) < (fin : Int)) = true := decide_eq_true (by omega)
              have gb : decide (i < m ∧ m < fin) = true := decide_eq_true ⟨g1, g2⟩
              have GB : Hid _ := gb
              clear gb
              go_wp2_with fail
              go_meet
              exact ⟨by rw [GB.out], S1⟩
            · have g2z : decide ((m : Int) < (fin : Int)) = false := decide_eq_false (by omega)
              have gb : decide (i < m ∧ m < fin) = false := decide_eq_false (fun h => g2 h.2)
              have GB : Hid _ := gb
              clear gb
              go_wp2_with fail
              go_meet
              exact ⟨by rw [GB.out], S1⟩
          · have g1z : decide ((i : Int) < (m : Int)) = false := decide_eq_false (by omega)
            have gb : decide (i < m ∧ m < fin) = false := decide_eq_false (fun h => g1 h.1)
            have GB : Hid _ := gb
            clear gb
            go_wp2_with fail
            go_meet
            exact ⟨by rw [GB.out], S1⟩
        case rest =>
          clear S1
          obtain ⟨rfl, S1⟩ := hcut
          go_upto_if 185 with (fail)
          go_cut [185] from 186 to 191 (fun _ wc => Aside (SWK enc k w0 blk off (symRot d i m fin) wc))
          case first =>
            by_cases g1 : i < m ∧ m < fin
            · have gd : decide (i < m ∧ m < fin) = true := decide_eq_true g1
              have hcall := ROT.out m i fin d wc (by omega) S1.out (by omega) (by omega) (by omega) (by omega)
              clear S1
              go_wp2_with (go_at_fn (ρ.f 60); refine hcall.mono ?_; rintro e w1 ⟨rfl, S3⟩)
              go_meet
              rw [symRot, if_pos g1]
              exact S3
            · have gd : decide (i < m ∧ m < fin) = false := decide_eq_false g1
              go_wp2_with fail
              go_meet
              rw [symRot, if_neg g1]
              exact S1
          case rest =>
            clear S1
            have S2 := hcut
            clear hcut
            have hd1 : (symRot d i m fin).size = d.size := size_symRot d i m fin
            generalize symRot d i m fin = d1 at S2 hfin hd1
            go_upto_region 41 with (fail)
            go_cut [199] from 192 to 198 (fun s199 wc => s199 = .bool (decide (a < i ∧ i < mid)) ∧ Aside (SWK enc k w0 blk off d1 wc))
            case first =>
              by_cases g1 : a < i
              · have g1z : decide ((a : Int) < (i : Int)) = true := decide_eq_true (by omega)
                by_cases g2 : i < mid
                · have g2z : decide ((i : Int) < (mid : Int)) = true := decide_eq_true (by omega)
                  have gb : decide (a < i ∧ i < mid) = true := decide_eq_true ⟨g1, g2⟩
                  have GB : Hid _ := gb
                  clear gb
                  go_wp2_with fail
                  go_meet
                  exact ⟨by rw [GB.out], S2⟩
                · have g2z : decide ((i : Int) < (mid : Int)) = false := decide_eq_false (by omega)
                  have gb : decide (a < i ∧ i < mid) = false := decide_eq_false (fun h => g2 h.2)
                  have GB : Hid _ := gb
                  clear gb
                  go_wp2_with fail
                  go_meet
                  exact ⟨by rw [GB.out], S2⟩
              · have g1z : decide ((a : Int) < (i : Int)) = false := decide_eq_false (by omega)
                have gb : decide (a < i ∧ i < mid) = false := decide_eq_false (fun h => g1 h.1)
                have GB : Hid _ := gb
                clear gb
                go_wp2_with fail
                go_meet
                exact ⟨by rw [GB.out], S2⟩
            case rest =>
              clear S2
              obtain ⟨rfl, S2⟩ := hcut
              go_upto_if 199 with (fail)
              go_cut [199] from 200 to 205 (fun _ wc => Aside (SWK enc k w0 blk off (if h : a < i ∧ i < mid then symM (ltOf cf) d1 a i mid else d1) wc))
              case first =>
                by_cases g1 : a < i ∧ i < mid
                · have gd : decide (a < i ∧ i < mid) = true := decide_eq_true g1
                  have hcall := IH.out a i mid d1 wc (by omega) (by omega) S2.out (by omega) (by omega) (by omega)
                  clear S2
                  go_wp2_with (go_at_fn (ρ.f 57); refine hcall.mono ?_; rintro e w1 ⟨rfl, S3⟩)
                  go_meet
                  rw [dif_pos g1]
                  exact S3
                · have gd : decide (a < i ∧ i < mid) = false := decide_eq_false g1
                  go_wp2_with fail
                  go_meet
                  rw [dif_neg g1]
                  exact S2
              case rest =>
                clear S2
                have S4 := hcut
                clear hcut
                have hd2 : (if h : a < i ∧ i < mid then symM (ltOf cf) d1 a i mid else d1).size = d.size := by
                  split
                  · rw [size_symM _ _ _ _ _ _ (Nat.le_refl _)]; exact hd1
                  · exact hd1
                generalize (if h : a < i ∧ i < mid then symM (ltOf cf) d1 a i mid else d1) = d2 at S4 hfin hd2
                go_upto_region 43 with (fail)
                go_cut [213] from 206 to 212 (fun s213 wc => s213 = .bool (decide (mid < fin ∧ fin < b)) ∧ Aside (SWK enc k w0 blk off d2 wc))
                case first =>
                  by_cases g1 : mid < fin
                  · have g1z : decide ((mid : Int) < (fin : Int)) = true := decide_eq_true (by omega)
                    by_cases g2 : fin < b
                    · have g2z : decide ((fin : Int) < (b : Int)) = true := decide_eq_true (by omega)
                      have gb : decide (mid < fin ∧ fin < b) = true := decide_eq_true ⟨g1, g2⟩
                      have GB : Hid _ := gb
                      clear gb
                      go_wp2_with fail
                      go_meet
                      exact ⟨by rw [GB.out], S4⟩
                    · have g2z : decide ((fin : Int) < (b : Int)) = false := decide_eq_false (by omega)
                      have gb : decide (mid < fin ∧ fin < b) = false := decide_eq_false (fun h => g2 h.2)
                      have GB : Hid _ := gb
                      clear gb
                      go_wp2_with fail
                      go_meet
                      exact ⟨by rw [GB.out], S4⟩
                  · have g1z : decide ((mid : Int) < (fin : Int)) = false := decide_eq_false (by omega)
                    have gb : decide (mid < fin ∧ fin < b) = false := decide_eq_false (fun h => g1 h.1)
                    have GB : Hid _ := gb
                    clear gb
                    go_wp2_with fail
                    go_meet
                    exact ⟨by rw [GB.out], S4⟩
                case rest =>
                  clear S4
                  obtain ⟨rfl, S4⟩ := hcut
                  by_cases g1 : mid < fin ∧ fin < b
                  · have gd : decide (mid < fin ∧ fin < b) = true := decide_eq_true g1
                    have hcall := IH.out mid fin b d2 wc (by omega) (by omega) S4.out (by omega) (by omega) (by omega)
                    clear S4
                    go_wp2_with (go_at_fn (ρ.f 57); refine hcall.mono ?_; rintro e w1 ⟨rfl, S3⟩)
                    first | go_end0 | ((try simp only [Exit.inBlock, Exit.then]); refine bodyPost_ret (results_none rfl _ _ _) rfl ?_)
                    refine ⟨rfl, ?_⟩
                    rw [hfin.out, dif_pos g1]
                    exact S3
                  · have gd : decide (mid < fin ∧ fin < b) = false := decide_eq_false g1
                    go_wp2_with fail
                    first | go_end0 | ((try simp only [Exit.inBlock, Exit.then]); refine bodyPost_ret (results_none rfl _ _ _) rfl ?_)
                    refine ⟨rfl, ?_⟩
                    rw [hfin.out, dif_neg g1]
                    exact S4.out

set_option maxHeartbeats 1000000 in
/-- slices.symMergeCmpFunc at elements of k cells. -/
theorem symMerge_K (L : StLay P ρ) (k : Nat) (aE : ∀ w, (isAgg (ρ.t 48)).run P w = .ok true w) (zE : ∀ w, (Go.sizeOf (ρ.t 48)).run P w = .ok k w) (enc : α → List Value) (cf : α → α → Int) (g : Nat) (cb : Array Value) (blk off cap : Nat) (d0 : Array α) (w0 : World)
    (eg : ∀ args w, (callFunc g args).run P w = .ok (.enter g args) w) (hcmp : CmpLays P g cb enc k cf blk off d0.size w0) (R : RowK enc k w0 blk off d0) (hsz : d0.size < 4611686018427387904) :
    ∀ (n a m b : Nat) (d : Array α) (w : World), b - a ≤ n → d.size = d0.size → SWK enc k w0 blk off d w → a < m → m < b → b ≤ d0.size →
      Calls P (ρ.f 57) #[.slice (some ⟨blk, off, none⟩) d0.size cap, .int .i64 a, .int .i64 m, .int .i64 b, .func (.func g) #[] cb] w fun e w' => e = .returned (.tuple #[]) ∧ SWK enc k w0 blk off (symM (ltOf cf) d a m b) w' := by
  intro n
  induction n with
  | zero => intro a m b d w h; omega
  | succ n ih =>
    intro a m b d w h hd S ha hm hb
    rw [← hd]
    by_cases h1 : m - a = 1
    · rw [symM, if_pos h1]
      exact symMerge_ahead1 L k aE zE enc cf g cb blk off cap a m b d0 d w0 w eg hcmp R hd.symm S ha hm (by omega) (by omega) h1
    · by_cases h2 : b - m = 1
      · rw [symM, if_neg h1, if_pos h2]
        exact symMerge_behind1 L k aE zE enc cf g cb blk off cap a m b d0 d w0 w eg hcmp R hd.symm S ha hm (by omega) (by omega) h1 h2
      · refine symMerge_both L k aE zE enc cf g cb blk off cap a m b d0 d w0 w eg hcmp R hd.symm S ha hm (by omega) (by omega) h1 h2 ?_
        intro a' m' b' d' w' hlt hd' S' ha' hm' hb'
        rw [hd]
        exact ih a' m' b' d' w' (by omega) (by omega) S' ha' hm' (by omega)

end Go.Proofs.Ytdmhhgkplcaejaa
