/- slices.SortStableFunc itself, over any program that bears it: at elements of k cells, of one cell, and at no element. -/
import Derived.Test.YtdmhhgkplcaejaaSt4
import Derived.Test.YtdmhhgkplcaejaaSo4
namespace Go.Proofs.Ytdmhhgkplcaejaa
open Go.Shelf Go.RowKit Go.Lib Go.Sort
variable {P : Program} {ρ : Ren} {α : Type} [Inhabited α]

set_option maxHeartbeats 1000000 in
theorem sortStable_K (L : StLay P ρ) (k : Nat) (aE : ∀ w, (isAgg (ρ.t 48)).run P w = .ok true w) (zE : ∀ w, (Go.sizeOf (ρ.t 48)).run P w = .ok k w) (enc : α → List Value) (cf : α → α → Int) (hO : SWO (ltOf cf)) (g : Nat) (cb : Array Value) (blk off cap : Nat) (d0 : Array α) (w0 : World)
    (eg : ∀ args w, (callFunc g args).run P w = .ok (.enter g args) w) (hcmp : CmpLays P g cb enc k cf blk off d0.size w0) (R : RowK enc k w0 blk off d0) (hsz : d0.size < 4611686018427387904 / 4) (hins : InsK P (ρ.f 56) enc k cf g cb blk off cap d0 w0) :
    Calls P (ρ.f 41) #[.slice (some ⟨blk, off, none⟩) d0.size cap, .func (.func g) #[] cb] w0 fun e w' => e = .returned (.tuple #[]) ∧ SWK enc k w0 blk off (stab (ltOf cf) d0) w' := by
  have mixed := L.mixed; have t0 := L.t0; have a0 := L.a0; have z0 := L.z0; have v0 := L.v0; have t3 := L.t3; have a3 := L.a3; have z3 := L.z3; have v3 := L.v3; have t45 := L.t45; have a45 := L.a45; have z45 := L.z45; have v45 := L.v45; have t73 := L.t73; have a73 := L.a73; have z73 := L.z73; have v73 := L.v73
  have e51 : ∀ args w, (callFunc (ρ.f 51) args).run P w = .ok (.enter (ρ.f 51) args) w := L.f51.enters rfl
  have hst := stable_K L k aE zE enc cf hO g cb blk off cap d0 w0 eg hcmp R hsz hins
  obtain ⟨_, _, FG⟩ := L.f41
  clear hcmp hins
  go_enter FG, StB.n41_ntmps ρ
  go_wp2_with (go_at_fn (ρ.f 51); refine hst.mono ?_; rintro e w1 ⟨rfl, S3⟩)
  go_end0
  exact ⟨rfl, S3⟩

set_option maxHeartbeats 1000000 in
theorem sortStable_1 (L : StLay P ρ) (aE : ∀ w, (isAgg (ρ.t 48)).run P w = .ok false w) (zE : ∀ w, (Go.sizeOf (ρ.t 48)).run P w = .ok 1 w) (enc : α → Value) (cf : α → α → Int) (hO : SWO (ltOf cf)) (g : Nat) (cb : Array Value) (blk off cap : Nat) (d0 : Array α) (w0 : World)
    (eg : ∀ args w, (callFunc g args).run P w = .ok (.enter g args) w) (hcmp : CmpLays1 P g cb enc cf blk off d0.size w0) (R : Row1 enc w0 blk off d0) (hsz : d0.size < 4611686018427387904 / 4) (hins : Ins1 P (ρ.f 56) enc cf g cb blk off cap d0 w0) :
    Calls P (ρ.f 41) #[.slice (some ⟨blk, off, none⟩) d0.size cap, .func (.func g) #[] cb] w0 fun e w' => e = .returned (.tuple #[]) ∧ SW enc w0 blk off (stab (ltOf cf) d0) w' := by
  have mixed := L.mixed; have t0 := L.t0; have a0 := L.a0; have z0 := L.z0; have v0 := L.v0; have t3 := L.t3; have a3 := L.a3; have z3 := L.z3; have v3 := L.v3; have t45 := L.t45; have a45 := L.a45; have z45 := L.z45; have v45 := L.v45; have t73 := L.t73; have a73 := L.a73; have z73 := L.z73; have v73 := L.v73
  have e51 : ∀ args w, (callFunc (ρ.f 51) args).run P w = .ok (.enter (ρ.f 51) args) w := L.f51.enters rfl
  have hst := stable_1 L aE zE enc cf hO g cb blk off cap d0 w0 eg hcmp R hsz hins
  obtain ⟨_, _, FG⟩ := L.f41
  clear hcmp hins
  go_enter FG, StB.n41_ntmps ρ
  go_wp2_with (go_at_fn (ρ.f 51); refine hst.mono ?_; rintro e w1 ⟨rfl, S3⟩)
  go_end0
  exact ⟨rfl, S3⟩

set_option maxHeartbeats 1000000 in
/-- At no element nothing is done. -/
theorem sortStable_none (L : StLay P ρ) (p : Option Addr) (cap : Nat) (fv : Value) (w0 : World)
    (hins : Calls P (ρ.f 56) #[.slice p 0 cap, .int .i64 0, .int .i64 0, fv] w0 fun e w' => e = .returned (.tuple #[]) ∧ w0 = w') :
    Calls P (ρ.f 41) #[.slice p 0 cap, fv] w0 fun e w' => e = .returned (.tuple #[]) ∧ w0 = w' := by
  have mixed := L.mixed; have t0 := L.t0; have a0 := L.a0; have z0 := L.z0; have v0 := L.v0; have t3 := L.t3; have a3 := L.a3; have z3 := L.z3; have v3 := L.v3; have t4 := L.t4; have a4 := L.a4; have z4 := L.z4; have v4 := L.v4; have t45 := L.t45; have a45 := L.a45; have z45 := L.z45; have v45 := L.v45; have t73 := L.t73; have a73 := L.a73; have z73 := L.z73; have v73 := L.v73
  have e51 : ∀ args w, (callFunc (ρ.f 51) args).run P w = .ok (.enter (ρ.f 51) args) w := L.f51.enters rfl
  have e56 : ∀ args w, (callFunc (ρ.f 56) args).run P w = .ok (.enter (ρ.f 56) args) w := L.e56
  have hst : Calls P (ρ.f 51) #[.slice p 0 cap, .int .i64 0, fv] w0 fun e w' => e = .returned (.tuple #[]) ∧ w0 = w' := by
    obtain ⟨_, _, FG⟩ := L.f51
    go_enter FG, StB.n51_ntmps ρ
    go_wp2
    refine wp_loop_rounds 1 ?_
    rw [rounds_succ]
    go_wp2_with (go_at_fn (ρ.f 56); refine hins.mono ?_; rintro e w1 ⟨rfl, rfl⟩)
    refine wp_loop_rounds 1 ?_
    rw [rounds_succ]
    go_wp2
    go_end0
    exact ⟨rfl, rfl⟩
  obtain ⟨_, _, FG⟩ := L.f41
  go_enter FG, StB.n41_ntmps ρ
  go_wp2_with (go_at_fn (ρ.f 51); refine hst.mono ?_; rintro e w1 ⟨rfl, rfl⟩)
  go_end0
  exact ⟨rfl, rfl⟩

end Go.Proofs.Ytdmhhgkplcaejaa
