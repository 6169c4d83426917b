/- slices.swapRangeCmpFunc and rotateCmpFunc at elements of one cell: ranges exchanged, rotated. -/
import Derived.Test.YtdmhhgkplcaejaaSt1
import Derived.Shelf.SlSortCmp.Kit1
namespace Go.Proofs.Ytdmhhgkplcaejaa
open Go.Shelf Go.RowKit Go.Lib Go.Sort
variable {P : Program} {ρ : Ren} {α : Type} [Inhabited α]

set_option maxHeartbeats 4000000 in
set_option maxRecDepth 1000000 in
theorem swapRange_1 (L : StLay P ρ) (aE : ∀ w, (isAgg (ρ.t 48)).run P w = .ok false w) (zE : ∀ w, (Go.sizeOf (ρ.t 48)).run P w = .ok 1 w) (enc : α → Value) (g : Nat) (cb : Array Value) (blk off cap a b n : Nat) (d0 d : Array α) (w0 w : World)
    (R : Row1 enc w0 blk off d0) (hs : d0.size = d.size) (S : SW enc w0 blk off d w) (ha : a + n ≤ d.size) (hb : b + n ≤ d.size) (hsz : d.size < 4611686018427387904) :
    Calls P (ρ.f 63) #[.slice (some ⟨blk, off, none⟩) d.size cap, .int .i64 a, .int .i64 b, .int .i64 n, .func (.func g) #[] cb] w fun e w' => e = .returned (.tuple #[]) ∧ SW enc w0 blk off (swapRange d a b n) w' := by
  have mixed := L.mixed; have t0 := L.t0; have a0 := L.a0; have z0 := L.z0; have v0 := L.v0; have t3 := L.t3; have a3 := L.a3; have z3 := L.z3; have v3 := L.v3; have t4 := L.t4; have a4 := L.a4; have z4 := L.z4; have v4 := L.v4; have t45 := L.t45; have a45 := L.a45; have z45 := L.z45; have v45 := L.v45; have t73 := L.t73; have a73 := L.a73; have z73 := L.z73; have v73 := L.v73
  have u45 := run_underlying L.t45
  have hcl0 := R.hO.cells
  simp only [Value.cells] at hcl0
  have hst := R.hO.store P
  obtain ⟨_, _, FG⟩ := L.f63
  have S0 : Aside (SW enc w0 blk off d w) := S
  clear S
  go_enter FG, StB.n63_ntmps ρ
  go_wp2
  go_loopg [10] n (fun kx s10 wr => ∃ (i : Nat), s10 = .int .i64 i ∧ i ≤ n ∧ n - i ≤ kx ∧ Aside (SW enc w0 blk off (swapRange d a b i) wr))
  case atStart => exact ⟨0, rfl, by omega, by omega, S0⟩
  case round =>
    clear S0
    obtain ⟨i, rfl, hi, hkx, S1⟩ := hrel
    have hds : (swapRange d a b i).size = d.size := size_swapRange d a b i
    by_cases hlt : i < n
    · have hltz : (i : Int) < (n : Int) := by omega
      go_wp2_with fail
      generalize hD : swapRange d a b i = D at S1 hds
      have HD : Hid (swapRange d a b i = D) := hD
      clear hD
      obtain ⟨iN44, hiN44⟩ : ∃ q, q = a + i := ⟨_, rfl⟩
      obtain ⟨jN44, hjN44⟩ : ∃ q, q = b + i := ⟨_, rfl⟩
      have ea44 : ((a : Int) + (i : Int)).toNat = iN44 := by omega
      have pa44 : (0 : Int) ≤ (a : Int) + (i : Int) := by omega
      have ba44 : (a : Int) + (i : Int) < (d.size : Int) := by omega
      have ra44 : IntKind.i64.wrap ((a : Int) + (i : Int)) = (a : Int) + (i : Int) := by rw [IntKind.wrap_i64]; omega
      have ec44 : ((b : Int) + (i : Int)).toNat = jN44 := by omega
      have pc44 : (0 : Int) ≤ (b : Int) + (i : Int) := by omega
      have bc44 : (b : Int) + (i : Int) < (d.size : Int) := by omega
      have rc44 : IntKind.i64.wrap ((b : Int) + (i : Int)) = (b : Int) + (i : Int) := by rw [IntKind.wrap_i64]; omega
      obtain ⟨x44, hx44⟩ : ∃ x, x = D[a + i]! := ⟨_, rfl⟩
      obtain ⟨y44, hy44⟩ : ∃ x, x = D[b + i]! := ⟨_, rfl⟩
      have S2 : Aside (SW enc w0 blk off (swp D (a + i) (b + i)) ((wr.setCell ⟨blk, off + iN44, none⟩ (enc y44)).setCell ⟨blk, off + jN44, none⟩ (enc x44)).drew) := by rw [hiN44, hjN44, hx44, hy44]; exact S1.out.swapped R (a + i) (b + i) (by omega) (by omega)
      have c44a := S1.out.c1 R (by omega) (a + i) (by omega)
      have c44b := S1.out.c1 R (by omega) (b + i) (by omega)
      have f44a := S1.out.f1 R (by omega) (a + i) (by omega)
      have f44b := S1.out.f1 R (by omega) (b + i) (by omega)
      obtain ⟨u44, c44c⟩ := S1.out.c2 R (by omega) (a + i) (b + i) (by omega) (by omega) (enc y44)
      rw [← hjN44, ← hiN44] at c44c
      rw [← hx44, ← hiN44] at c44a
      rw [← hy44, ← hjN44] at c44b
      rw [← hiN44] at f44a
      rw [← hjN44] at f44b
      clear S1 hx44 hy44 hiN44 hjN44
      go_wp2_with fail
      go_big_region_o
      clear c44a c44b c44c f44a f44b
      generalize ((wr.setCell ⟨blk, off + iN44, none⟩ (enc y44)).setCell ⟨blk, off + jN44, none⟩ (enc x44)).drew = wq at S2 ⊢
      clear ea44 ec44
      go_wp2
      go_roundg (n - (i + 1))
      case measure => omega
      case rel => exact ⟨i + 1, by go_num, by omega, Nat.le_refl _, by rw [swapRange, HD.out]; exact S2⟩
    · have : i = n := by omega
      subst this
      go_wp2
      go_end0
      exact ⟨rfl, S1.out⟩

set_option maxHeartbeats 4000000 in
set_option maxRecDepth 1000000 in
theorem rotate_1 (L : StLay P ρ) (aE : ∀ w, (isAgg (ρ.t 48)).run P w = .ok false w) (zE : ∀ w, (Go.sizeOf (ρ.t 48)).run P w = .ok 1 w) (enc : α → Value) (g : Nat) (cb : Array Value) (blk off cap a m b : Nat) (d0 d : Array α) (w0 w : World)
    (R : Row1 enc w0 blk off d0) (hs : d0.size = d.size) (S : SW enc w0 blk off d w) (ha : a < m) (hm : m < b) (hb : b ≤ d.size) (hsz : d.size < 4611686018427387904) :
    Calls P (ρ.f 60) #[.slice (some ⟨blk, off, none⟩) d.size cap, .int .i64 a, .int .i64 m, .int .i64 b, .func (.func g) #[] cb] w fun e w' => e = .returned (.tuple #[]) ∧ SW enc w0 blk off (rot d m (m - a) (b - m)) w' := by
  have mixed := L.mixed; have t0 := L.t0; have a0 := L.a0; have z0 := L.z0; have v0 := L.v0; have t3 := L.t3; have a3 := L.a3; have z3 := L.z3; have v3 := L.v3; have t4 := L.t4; have a4 := L.a4; have z4 := L.z4; have v4 := L.v4; have t45 := L.t45; have a45 := L.a45; have z45 := L.z45; have v45 := L.v45; have t73 := L.t73; have a73 := L.a73; have z73 := L.z73; have v73 := L.v73
  have e63 : ∀ args w, (callFunc (ρ.f 63) args).run P w = .ok (.enter (ρ.f 63) args) w := L.f63.enters rfl
  have u45 := run_underlying L.t45
  have hcl0 := R.hO.cells
  simp only [Value.cells] at hcl0
  have hst := R.hO.store P
  obtain ⟨_, _, FG⟩ := L.f60
  have S0 : Aside (SW enc w0 blk off d w) := S
  clear S
  go_enter FG, StB.n60_ntmps ρ
  go_wp2
  go_loopg [10, 11] (b - a) (fun kx s10 s11 wr => ∃ (i j : Nat) (dk : Array α), s10 = .int .i64 i ∧ s11 = .int .i64 j ∧ 0 < i ∧ 0 < j ∧ a + i ≤ m ∧ m + j ≤ b ∧ i + j ≤ kx ∧ dk.size = d.size ∧ Aside (SW enc w0 blk off dk wr) ∧ Hid (rot dk m i j = rot d m (m - a) (b - m)))
  case atStart => exact ⟨m - a, b - m, d, by go_num, by go_num, by omega, by omega, by omega, by omega, by omega, rfl, S0, rfl⟩
  case round =>
    clear S0
    obtain ⟨i, j, dk, rfl, rfl, hi, hj, hai, hjb, hkx, hds, S1, HR⟩ := hrel
    have emi : ((m - i : Nat) : Int) = (m : Int) - (i : Int) := by omega
    by_cases hij : i = j
    · subst hij
      have hcall := swapRange_1 L aE zE enc g cb blk off cap (m - i) m i d0 dk w0 wr R (by omega) S1.out (by omega) (by omega) (by omega)
      rw [emi, hds] at hcall
      have hne : ((i : Int) != (i : Int)) = false := by simp
      clear S1
      go_wp2_with (go_at_fn (ρ.f 63); refine hcall.mono ?_; rintro e w1 ⟨rfl, S3⟩)
      go_end0
      refine ⟨rfl, ?_⟩
      rw [← HR.out, rot, if_pos rfl]
      exact S3
    · by_cases hlt : j < i
      · have hcall := swapRange_1 L aE zE enc g cb blk off cap (m - i) m j d0 dk w0 wr R (by omega) S1.out (by omega) (by omega) (by omega)
        rw [emi, hds] at hcall
        have hne : ((i : Int) != (j : Int)) = true := by rw [bne_iff_ne]; omega
        have hgt : (j : Int) < (i : Int) := by omega
        clear S1
        go_wp2_with (go_at_fn (ρ.f 63); refine hcall.mono ?_; rintro e w1 ⟨rfl, S3⟩)
        go_roundg (i - j + j)
        case measure => omega
        case rel =>
          refine ⟨i - j, j, swapRange dk (m - i) m j, by go_num, by go_num, by omega, by omega, by omega, by omega, by omega, by rw [size_swapRange]; exact hds, S3, ?_⟩
          show _ = _
          rw [← HR.out, rot.eq_def dk, if_neg hij, if_pos ⟨hlt, hj⟩]
      · have emj : ((m + j - i : Nat) : Int) = (m : Int) + (j : Int) - (i : Int) := by omega
        have hcall := swapRange_1 L aE zE enc g cb blk off cap (m - i) (m + j - i) i d0 dk w0 wr R (by omega) S1.out (by omega) (by omega) (by omega)
        rw [emi, emj, hds] at hcall
        have hne : ((i : Int) != (j : Int)) = true := by rw [bne_iff_ne]; omega
        have hgt : ¬ (j : Int) < (i : Int) := by omega
        clear S1
        go_wp2_with (go_at_fn (ρ.f 63); refine hcall.mono ?_; rintro e w1 ⟨rfl, S3⟩)
        go_roundg (i + (j - i))
        case measure => omega
        case rel =>
          refine ⟨i, j - i, swapRange dk (m - i) (m + j - i) i, by go_num, by go_num, by omega, by omega, by omega, by omega, by omega, by rw [size_swapRange]; exact hds, S3, ?_⟩
          show _ = _
          rw [← HR.out, rot.eq_def dk, if_neg hij, if_neg (by omega), if_pos (by omega)]

end Go.Proofs.Ytdmhhgkplcaejaa

