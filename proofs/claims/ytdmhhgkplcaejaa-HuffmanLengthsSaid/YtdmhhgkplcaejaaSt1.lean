/- What a program bears where slices.SortStableFunc lies in it at some element type; and slices.swapRangeCmpFunc there, at elements of k cells: it exchanges two ranges. -/
import Derived.Test.YtdmhhgkplcaejaaStB
import Derived.Test.YtdmhhgkplcaejaaStP
import Derived.WalkSpells
import Derived.Sort.WalkB2
import Derived.Sort.WalkB12
import Derived.Deep.LoopGhost
namespace Go.Proofs.Ytdmhhgkplcaejaa
open Go.Shelf Go.RowKit Go.Lib Go.Sort

/-- The program P bears the stable sort's functions, numbered by ρ. -/
structure StLay (P : Program) (ρ : Ren) : Prop where
  mixed : P.follows .mixedOrders = true
  f41 : Bears P (ρ.f 41) (StB.n41 ρ)
  f51 : Bears P (ρ.f 51) (StB.n51 ρ)
  f57 : Bears P (ρ.f 57) (StB.n57 ρ)
  f60 : Bears P (ρ.f 60) (StB.n60 ρ)
  f63 : Bears P (ρ.f 63) (StB.n63 ρ)
  e56 : Enters P (ρ.f 56)
  t0 : P.underlying (ρ.t 0) = some (TypeDesc.tuple #[])
  a0 : ∀ w, (isAgg (ρ.t 0)).run P w = .ok false w
  z0 : ∀ w, (Go.sizeOf (ρ.t 0)).run P w = .ok 1 w
  v0 : ∀ w, (zeroValue (ρ.t 0)).run P w = .ok (Value.tuple #[]) w
  t3 : P.underlying (ρ.t 3) = some (TypeDesc.int IntKind.i64)
  a3 : ∀ w, (isAgg (ρ.t 3)).run P w = .ok false w
  z3 : ∀ w, (Go.sizeOf (ρ.t 3)).run P w = .ok 1 w
  v3 : ∀ w, (zeroValue (ρ.t 3)).run P w = .ok (Value.int IntKind.i64 0) w
  t4 : P.underlying (ρ.t 4) = some (TypeDesc.bool)
  a4 : ∀ w, (isAgg (ρ.t 4)).run P w = .ok false w
  z4 : ∀ w, (Go.sizeOf (ρ.t 4)).run P w = .ok 1 w
  v4 : ∀ w, (zeroValue (ρ.t 4)).run P w = .ok (Value.bool false) w
  t30 : P.underlying (ρ.t 30) = some (TypeDesc.int IntKind.u64)
  a30 : ∀ w, (isAgg (ρ.t 30)).run P w = .ok false w
  z30 : ∀ w, (Go.sizeOf (ρ.t 30)).run P w = .ok 1 w
  v30 : ∀ w, (zeroValue (ρ.t 30)).run P w = .ok (Value.int IntKind.u64 0) w
  t45 : P.underlying (ρ.t 45) = some (TypeDesc.slice (ρ.t 48))
  a45 : ∀ w, (isAgg (ρ.t 45)).run P w = .ok false w
  z45 : ∀ w, (Go.sizeOf (ρ.t 45)).run P w = .ok 1 w
  v45 : ∀ w, (zeroValue (ρ.t 45)).run P w = .ok (Value.slice none 0 0) w
  t73 : P.underlying (ρ.t 73) = some (TypeDesc.func #[ρ.t 48, ρ.t 48] #[ρ.t 3] false)
  a73 : ∀ w, (isAgg (ρ.t 73)).run P w = .ok false w
  z73 : ∀ w, (Go.sizeOf (ρ.t 73)).run P w = .ok 1 w
  v73 : ∀ w, (zeroValue (ρ.t 73)).run P w = .ok (Value.nilFunc) w

variable {P : Program} {ρ : Ren} {α : Type} [Inhabited α]

set_option maxHeartbeats 4000000 in
set_option maxRecDepth 1000000 in
theorem swapRange_K (L : StLay P ρ) (k : Nat) (aE : ∀ w, (isAgg (ρ.t 48)).run P w = .ok true w) (zE : ∀ w, (Go.sizeOf (ρ.t 48)).run P w = .ok k w) (enc : α → List Value) (g : Nat) (cb : Array Value) (blk off cap a b n : Nat) (d0 d : Array α) (w0 w : World)
    (R : RowK enc k w0 blk off d0) (hs : d0.size = d.size) (S : SWK enc k w0 blk off d w) (ha : a + n ≤ d.size) (hb : b + n ≤ d.size) (hsz : d.size < 4611686018427387904) :
    Calls P (ρ.f 63) #[.slice (some ⟨blk, off, none⟩) d.size cap, .int .i64 a, .int .i64 b, .int .i64 n, .func (.func g) #[] cb] w fun e w' => e = .returned (.tuple #[]) ∧ SWK enc k w0 blk off (swapRange d a b n) w' := by
  have mixed := L.mixed; have t0 := L.t0; have a0 := L.a0; have z0 := L.z0; have v0 := L.v0; have t3 := L.t3; have a3 := L.a3; have z3 := L.z3; have v3 := L.v3; have t4 := L.t4; have a4 := L.a4; have z4 := L.z4; have v4 := L.v4; have t45 := L.t45; have a45 := L.a45; have z45 := L.z45; have v45 := L.v45; have t73 := L.t73; have a73 := L.a73; have z73 := L.z73; have v73 := L.v73
  obtain ⟨_, _, FG⟩ := L.f63
  have S0 : Aside (SWK enc k w0 blk off d w) := S
  clear S
  go_enter FG, StB.n63_ntmps ρ
  go_wp2
  go_loopg [10] n (fun kx s10 wr => ∃ (i : Nat), s10 = .int .i64 i ∧ i ≤ n ∧ n - i ≤ kx ∧ Aside (SWK enc k w0 blk off (swapRange d a b i) wr))
  case atStart => exact ⟨0, rfl, by omega, by omega, S0⟩
  case round =>
    clear S0
    obtain ⟨i, rfl, hi, hkx, S1⟩ := hrel
    have hds : (swapRange d a b i).size = d.size := size_swapRange d a b i
    by_cases hlt : i < n
    · have hltz : (i : Int) < (n : Int) := by omega
      go_wp2_with fail
      have ea44 : ((a : Int) + (i : Int)).toNat = a + i := by omega
      have pa44 : (0 : Int) ≤ (a : Int) + (i : Int) := by omega
      have ba44 : (a : Int) + (i : Int) < (d.size : Int) := by omega
      have ra44 : IntKind.i64.wrap ((a : Int) + (i : Int)) = (a : Int) + (i : Int) := by rw [IntKind.wrap_i64]; omega
      have ec44 : ((b : Int) + (i : Int)).toNat = b + i := by omega
      have pc44 : (0 : Int) ≤ (b : Int) + (i : Int) := by omega
      have bc44 : (b : Int) + (i : Int) < (d.size : Int) := by omega
      have rc44 : IntKind.i64.wrap ((b : Int) + (i : Int)) = (b : Int) + (i : Int) := by rw [IntKind.wrap_i64]; omega
      generalize hD : swapRange d a b i = D at S1 hds
      have S2 : Aside (SWK enc k w0 blk off (swp D (a + i) (b + i)) ((wr.drew.setCells blk (off + (a + i) * k) (enc D[b + i]!)).setCells blk (off + (b + i) * k) (enc D[a + i]!))) := S1.out.swapped R (a + i) (b + i) (by omega) (by omega)
      have l44a := S1.out.ld1 R (by omega) P (a + i) (by omega)
      have l44b := S1.out.ld1 R (by omega) P (b + i) (by omega)
      have s44a := S1.out.st1 R (by omega) P (a + i) (by omega) D[b + i]!
      have s44b := S1.out.st2 R (by omega) P (a + i) (b + i) (by omega) (by omega) D[b + i]! D[a + i]!
      have n44a : (enc D[a + i]!).length = k := R.hk _
      have n44b : (enc D[b + i]!).length = k := R.hk _
      generalize enc D[a + i]! = cI44 at S2 l44a s44b n44a
      generalize enc D[b + i]! = cJ44 at S2 l44b s44a s44b n44b
      have HD : Hid (swapRange d a b i = D) := hD
      clear S1 hD
      go_wp2_with fail
      go_big_region_o
      clear l44a l44b s44a s44b
      generalize (wr.drew.setCells blk (off + (a + i) * k) cJ44).setCells blk (off + (b + i) * k) cI44 = w2 at S2 ⊢
      go_wp2
      go_roundg (n - (i + 1))
      case measure => omega
      case rel => exact ⟨i + 1, by go_num, by omega, Nat.le_refl _, by rw [swapRange, HD.out]; exact S2⟩
    · have : i = n := by omega
      subst this
      go_wp2
      go_end0
      exact ⟨rfl, S1.out⟩

set_option maxHeartbeats 4000000 in
set_option maxRecDepth 1000000 in
theorem rotate_K (L : StLay P ρ) (k : Nat) (aE : ∀ w, (isAgg (ρ.t 48)).run P w = .ok true w) (zE : ∀ w, (Go.sizeOf (ρ.t 48)).run P w = .ok k w) (enc : α → List Value) (g : Nat) (cb : Array Value) (blk off cap a m b : Nat) (d0 d : Array α) (w0 w : World)
    (R : RowK enc k w0 blk off d0) (hs : d0.size = d.size) (S : SWK enc k w0 blk off d w) (ha : a < m) (hm : m < b) (hb : b ≤ d.size) (hsz : d.size < 4611686018427387904) :
    Calls P (ρ.f 60) #[.slice (some ⟨blk, off, none⟩) d.size cap, .int .i64 a, .int .i64 m, .int .i64 b, .func (.func g) #[] cb] w fun e w' => e = .returned (.tuple #[]) ∧ SWK enc k w0 blk off (rot d m (m - a) (b - m)) w' := by
  have mixed := L.mixed; have t0 := L.t0; have a0 := L.a0; have z0 := L.z0; have v0 := L.v0; have t3 := L.t3; have a3 := L.a3; have z3 := L.z3; have v3 := L.v3; have t4 := L.t4; have a4 := L.a4; have z4 := L.z4; have v4 := L.v4; have t45 := L.t45; have a45 := L.a45; have z45 := L.z45; have v45 := L.v45; have t73 := L.t73; have a73 := L.a73; have z73 := L.z73; have v73 := L.v73
  have e63 : ∀ args w, (callFunc (ρ.f 63) args).run P w = .ok (.enter (ρ.f 63) args) w := L.f63.enters rfl
  obtain ⟨_, _, FG⟩ := L.f60
  have S0 : Aside (SWK enc k w0 blk off d w) := S
  clear S
  go_enter FG, StB.n60_ntmps ρ
  go_wp2
  go_loopg [10, 11] (b - a) (fun kx s10 s11 wr => ∃ (i j : Nat) (dk : Array α), s10 = .int .i64 i ∧ s11 = .int .i64 j ∧ 0 < i ∧ 0 < j ∧ a + i ≤ m ∧ m + j ≤ b ∧ i + j ≤ kx ∧ dk.size = d.size ∧ Aside (SWK enc k w0 blk off dk wr) ∧ Hid (rot dk m i j = rot d m (m - a) (b - m)))
  case atStart => exact ⟨m - a, b - m, d, by go_num, by go_num, by omega, by omega, by omega, by omega, by omega, rfl, S0, rfl⟩
  case round =>
    clear S0
    obtain ⟨i, j, dk, rfl, rfl, hi, hj, hai, hjb, hkx, hds, S1, HR⟩ := hrel
    have emi : ((m - i : Nat) : Int) = (m : Int) - (i : Int) := by omega
    by_cases hij : i = j
    · subst hij
      have hcall := swapRange_K L k aE zE enc g cb blk off cap (m - i) m i d0 dk w0 wr R (by omega) S1.out (by omega) (by omega) (by omega)
      rw [emi, hds] at hcall
      have hne : ((i : Int) != (i : Int)) = false := by simp
      clear S1
      go_wp2_with (go_at_fn (ρ.f 63); refine hcall.mono ?_; rintro e w1 ⟨rfl, S3⟩)
      go_end0
      refine ⟨rfl, ?_⟩
      rw [← HR.out, rot, if_pos rfl]
      exact S3
    · by_cases hlt : j < i
      · have hcall := swapRange_K L k aE zE enc g cb blk off cap (m - i) m j d0 dk w0 wr R (by omega) S1.out (by omega) (by omega) (by omega)
        rw [emi, hds] at hcall
        have hne : ((i : Int) != (j : Int)) = true := by rw [bne_iff_ne]; omega
        have hgt : (j : Int) < (i : Int) := by omega
        clear S1
        go_wp2_with (go_at_fn (ρ.f 63); refine hcall.mono ?_; rintro e w1 ⟨rfl, S3⟩)
        go_roundg (i - j + j)
        case measure => omega
        case rel =>
          refine ⟨i - j, j, swapRange dk (m - i) m j, by go_num, by go_num, by omega, by omega, by omega, by omega, by omega, by rw [size_swapRange]; exact hds, S3, ?_⟩
          show _ = _
          rw [← HR.out, rot.eq_def dk, if_neg hij, if_pos ⟨hlt, hj⟩]
      · have emj : ((m + j - i : Nat) : Int) = (m : Int) + (j : Int) - (i : Int) := by omega
        have hcall := swapRange_K L k aE zE enc g cb blk off cap (m - i) (m + j - i) i d0 dk w0 wr R (by omega) S1.out (by omega) (by omega) (by omega)
        rw [emi, emj, hds] at hcall
        have hne : ((i : Int) != (j : Int)) = true := by rw [bne_iff_ne]; omega
        have hgt : ¬ (j : Int) < (i : Int) := by omega
        clear S1
        go_wp2_with (go_at_fn (ρ.f 63); refine hcall.mono ?_; rintro e w1 ⟨rfl, S3⟩)
        go_roundg (i + (j - i))
        case measure => omega
        case rel =>
          refine ⟨i, j - i, swapRange dk (m - i) (m + j - i) i, by go_num, by go_num, by omega, by omega, by omega, by omega, by omega, by rw [size_swapRange]; exact hds, S3, ?_⟩
          show _ = _
          rw [← HR.out, rot.eq_def dk, if_neg hij, if_neg (by omega), if_pos (by omega)]

end Go.Proofs.Ytdmhhgkplcaejaa
