/- slices.SortStableFunc at elements of one cell. -/
import Derived.Test.YtdmhhgkplcaejaaSo3
namespace Go.Proofs.Ytdmhhgkplcaejaa
open Go.Shelf Go.RowKit Go.Lib Go.Sort
variable {P : Program} {ρ : Ren} {α : Type} [Inhabited α]

/-- slices.insertionSortCmpFunc's contract, from a world of the sort's to a world of the sort's. -/
def Ins1 (P : Program) (f : FuncId) (enc : α → Value) (cf : α → α → Int) (g : Nat) (cb : Array Value) (blk off cap : Nat) (d0 : Array α) (w0 : World) : Prop :=
  ∀ (a b : Nat) (d : Array α) (w : World), d.size = d0.size → SW enc w0 blk off d w → a ≤ b → b ≤ d0.size →
    Calls P f #[.slice (some ⟨blk, off, none⟩) d0.size cap, .int .i64 a, .int .i64 b, .func (.func g) #[] cb] w fun e w' => e = .returned (.tuple #[]) ∧ SW enc w0 blk off (insertionSort (ltOf cf) d a b) w'

set_option maxHeartbeats 8000000 in
set_option maxRecDepth 1000000 in
theorem stable_1 (L : StLay P ρ) (aE : ∀ w, (isAgg (ρ.t 48)).run P w = .ok false w) (zE : ∀ w, (Go.sizeOf (ρ.t 48)).run P w = .ok 1 w) (enc : α → Value) (cf : α → α → Int) (hO : SWO (ltOf cf)) (g : Nat) (cb : Array Value) (blk off cap : Nat) (d0 : Array α) (w0 : World)
    (eg : ∀ args w, (callFunc g args).run P w = .ok (.enter g args) w) (hcmp : CmpLays1 P g cb enc cf blk off d0.size w0) (R : Row1 enc w0 blk off d0) (hsz : d0.size < 4611686018427387904 / 4) (hins : Ins1 P (ρ.f 56) enc cf g cb blk off cap d0 w0) :
    Calls P (ρ.f 51) #[.slice (some ⟨blk, off, none⟩) d0.size cap, .int .i64 d0.size, .func (.func g) #[] cb] w0 fun e w' => e = .returned (.tuple #[]) ∧ SW enc w0 blk off (stab (ltOf cf) d0) w' := by
  have mixed := L.mixed; have t0 := L.t0; have a0 := L.a0; have z0 := L.z0; have v0 := L.v0; have t3 := L.t3; have a3 := L.a3; have z3 := L.z3; have v3 := L.v3; have t4 := L.t4; have a4 := L.a4; have z4 := L.z4; have v4 := L.v4; have t45 := L.t45; have a45 := L.a45; have z45 := L.z45; have v45 := L.v45; have t73 := L.t73; have a73 := L.a73; have z73 := L.z73; have v73 := L.v73
  have e56 : ∀ args w, (callFunc (ρ.f 56) args).run P w = .ok (.enter (ρ.f 56) args) w := L.e56
  have e57 : ∀ args w, (callFunc (ρ.f 57) args).run P w = .ok (.enter (ρ.f 57) args) w := L.f57.enters rfl
  have hsym := symMerge_1 L aE zE enc cf g cb blk off cap d0 w0 eg hcmp R (by omega)
  have S0 : Aside (SW enc w0 blk off d0 w0) := SW.start R.hH
  have INS : Aside _ := hins
  have SYM : Aside _ := hsym
  have SZI : Aside (∀ (d : Array α) (a b : Nat), a ≤ b → b ≤ d.size → (insertionSort (ltOf cf) d a b).size = d.size) := fun d a b h1 h2 => size_ins hO d a b h1 h2
  clear hcmp hins hsym
  have u45 := run_underlying L.t45
  have hcl0 := R.hO.cells
  simp only [Value.cells] at hcl0
  have hst := R.hO.store P
  obtain ⟨_, _, FG⟩ := L.f51
  obtain ⟨n, hn⟩ : ∃ n, n = d0.size := ⟨_, rfl⟩
  have HN : Hid (n = d0.size) := hn
  rw [← hn]
  rw [← hn] at hsz INS SYM
  clear hn
  have ST : Hid (stab (ltOf cf) d0 = rounds (ltOf cf) n n 20 (insB (ltOf cf) n (n / 20) 0 d0)) := by show _ = _; rw [stab, HN.out]
  go_enter FG, StB.n51_ntmps ρ
  go_wp2
  go_loopg [7, 8] (n / 20) (fun kx s7 s8 wr => ∃ (a : Nat) (dk : Array α), s7 = .int .i64 a ∧ s8 = .int .i64 ((a + 20 : Nat) : Int) ∧ a + 20 * kx ≤ n ∧ n < a + 20 * kx + 20 ∧ a ≤ n ∧ dk.size = d0.size ∧ Aside (SW enc w0 blk off dk wr) ∧ Hid (insB (ltOf cf) n kx a dk = insB (ltOf cf) n (n / 20) 0 d0))
  case atStart => exact ⟨0, d0, by go_num, by go_num, by omega, by omega, by omega, rfl, S0, rfl⟩
  case round =>
    clear S0
    obtain ⟨a, dk, rfl, rfl, hk1, hk2, han, hds, S1, HI⟩ := hrel
    have e20 : ((a + 20 : Nat) : Int) = (a : Int) + 20 := by omega
    have hnd : n ≤ dk.size := by rw [hds]; exact Nat.le_of_eq HN.out
    cases gk with
    | succ kx =>
      have hltz : (a : Int) + 20 ≤ (n : Int) := by omega
      have hcall := INS.out a (a + 20) dk wr (hds.trans HN.out.symm) S1.out (by omega) (by omega)
      rw [e20] at hcall
      clear S1
      go_wp2_with (go_at_fn (ρ.f 56); refine hcall.mono ?_; rintro e w1 ⟨rfl, S3⟩)
      go_roundg kx
      case measure => omega
      case rel =>
        exact ⟨a + 20, insertionSort (ltOf cf) dk a (a + 20), by go_num, by go_num, by omega, by omega, by omega, by rw [SZI.out dk a (a + 20) (by omega) (by omega)]; exact hds, S3, HI.out⟩
    | zero =>
      have hltz : ¬ (a : Int) + 20 ≤ (n : Int) := by omega
      have hcall := INS.out a n dk wr (hds.trans HN.out.symm) S1.out (by omega) (by omega)
      clear S1
      go_wp2_with (go_at_fn (ρ.f 56); refine hcall.mono ?_; rintro e w1 ⟨rfl, S3⟩)
      have hB : Hid (insertionSort (ltOf cf) dk a n = insB (ltOf cf) n (n / 20) 0 d0) := HI.out
      have hsb : (insertionSort (ltOf cf) dk a n).size = d0.size := by rw [SZI.out dk a n (by omega) (by omega)]; exact hds
      clear HI
      generalize insertionSort (ltOf cf) dk a n = db at S3 hB hsb
      clear hds hnd hk1 hk2 han hltz e20 hcall
      clear dk
      go_loopg [6, 7, 8, 9] n (fun kx s6 s7 s8 s9 wr => ∃ (s : Nat) (dk : Array α), s6 = .int .i64 s ∧ 20 ≤ s ∧ n ≤ s + kx ∧ s ≤ 2 * n + 20 ∧ dk.size = d0.size ∧ Aside (SW enc w0 blk off dk wr) ∧ Hid (rounds (ltOf cf) n kx s dk = rounds (ltOf cf) n n 20 db))
      case atStart => exact ⟨20, db, by go_num, by omega, by omega, by omega, hsb, S3, rfl⟩
      case round =>
        clear S3
        obtain ⟨s, dk, rfl, hs20, hsk, hsn, hds, S1, HR⟩ := hrel
        by_cases hlt : s < n
        · obtain ⟨kx, rfl⟩ : ∃ kx, gk = kx + 1 := ⟨gk - 1, by omega⟩
          have hltz : (s : Int) < (n : Int) := by omega
          have HR2 : Hid (rounds (ltOf cf) n kx (s * 2) (pairs (ltOf cf) n s (n / (2 * s)) 0 dk) = rounds (ltOf cf) n n 20 db) := by show _ = _; rw [← HR.out, rounds, if_pos hlt]
          clear HR
          have hdm : 2 * s * (n / (2 * s)) ≤ n := Nat.mul_div_le n (2 * s)
          have hdm2 : n < 2 * s * (n / (2 * s)) + 2 * s := Nat.lt_mul_div_succ n (by omega)
          go_wp2
          go_loopg [7, 8] (n / (2 * s)) (fun ky s7 s8 wr2 => ∃ (a : Nat) (dj : Array α), s7 = .int .i64 a ∧ s8 = .int .i64 ((a + 2 * s : Nat) : Int) ∧ a + 2 * s * ky ≤ n ∧ n < a + 2 * s * ky + 2 * s ∧ a ≤ n ∧ dj.size = d0.size ∧ Aside (SW enc w0 blk off dj wr2) ∧ Hid (pairs (ltOf cf) n s ky a dj = pairs (ltOf cf) n s (n / (2 * s)) 0 dk))
          case atStart => exact ⟨0, dk, by go_num, by go_num, by omega, by omega, by omega, hds, S1, rfl⟩
          case round =>
            clear S1
            obtain ⟨a, dj, rfl, rfl, hk1, hk2, han, hdj, S1, HP⟩ := hrel
            have e2s : ((a + 2 * s : Nat) : Int) = (a : Int) + 2 * (s : Int) := by omega
            have eas : ((a + s : Nat) : Int) = (a : Int) + (s : Int) := by omega
            cases gk with
            | succ ky =>
              have hmul : 2 * s * (ky + 1) = 2 * s * ky + 2 * s := Nat.mul_succ _ _
              have hlz : (a : Int) + 2 * (s : Int) ≤ (n : Int) := by omega
              have hcall := SYM.out (2 * s) a (a + s) (a + 2 * s) dj wr (by omega) (hdj.trans HN.out.symm) S1.out (by omega) (by omega) (by omega)
              rw [e2s, eas] at hcall
              have k1 : a + 2 * s + 2 * s * ky ≤ n := by omega
              have k2 : n < a + 2 * s + 2 * s * ky + 2 * s := by omega
              clear S1 hk1 hk2 hmul
              go_wp2_with (go_at_fn (ρ.f 57); refine hcall.mono ?_; rintro e w1 ⟨rfl, S3⟩)
              go_roundg ky
              case measure => omega
              case rel =>
                exact ⟨a + 2 * s, symM (ltOf cf) dj a (a + s) (a + 2 * s), by go_num, by first | go_num | (congr 1; omega), k1, k2, by omega, by rw [size_symM _ _ _ _ _ _ (Nat.le_refl _)]; exact hdj, S3, HP.out⟩
            | zero =>
              have hlz : ¬ (a : Int) + 2 * (s : Int) ≤ (n : Int) := by omega
              clear hdm hdm2
              by_cases hm : a + s < n
              · have hmz : (a : Int) + (s : Int) < (n : Int) := by omega
                have hcall := SYM.out (2 * s) a (a + s) n dj wr (by omega) (hdj.trans HN.out.symm) S1.out (by omega) (by omega) (by omega)
                rw [eas] at hcall
                clear S1
                go_wp2_with (go_at_fn (ρ.f 57); refine hcall.mono ?_; rintro e w1 ⟨rfl, S3⟩)
                go_roundg kx
                case measure => omega
                case rel =>
                  refine ⟨s * 2, symM (ltOf cf) dj a (a + s) n, by go_num, by omega, by omega, by omega, by rw [size_symM _ _ _ _ _ _ (Nat.le_refl _)]; exact hdj, S3, ?_⟩
                  show _ = _
                  rw [← HR2.out, ← HP.out, pairs, if_pos hm]
              · have hmz : ¬ (a : Int) + (s : Int) < (n : Int) := by omega
                go_wp2
                go_roundg kx
                case measure => omega
                case rel =>
                  refine ⟨s * 2, dj, by go_num, by omega, by omega, by omega, hdj, S1, ?_⟩
                  show _ = _
                  rw [← HR2.out, ← HP.out, pairs, if_neg hm]
        · have hltz : ¬ (s : Int) < (n : Int) := by omega
          have hd : dk = rounds (ltOf cf) n n 20 db := by rw [← HR.out, rounds_done _ _ _ _ _ hlt]
          have HD : Hid (dk = stab (ltOf cf) d0) := by show _ = _; rw [hd, ST.out, ← hB.out]
          clear hd HR
          go_wp2
          go_end0
          refine ⟨rfl, ?_⟩
          rw [← HD.out]
          exact S1.out

end Go.Proofs.Ytdmhhgkplcaejaa
