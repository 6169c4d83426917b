/- The reference's Lengths, for any counts and any limit. -/
import Derived.Test.YtdmhhgkplcaejaaQ4
namespace Go.Proofs.Ytdmhhgkplcaejaa
open Go.Shelf Go.RowKit Go.Lib Go.Sort Go.Proofs.YtdmhhgkplcaejaaW.PrintWords

set_option maxHeartbeats 2000000 in
set_option maxRecDepth 100000 in
theorem refLengths_empty (A : Option Addr) (c : Nat) (m : Int) (w : World) (hr : Kd.C (Kd.int .i64) w A ([] : List Int).length []) (hE : checkOf [] m = 0) :
    Calls Try.prog 13 #[.slice A ([] : List Int).length c, .int .i64 m] w fun e w' => ∃ v, e = .returned (.tuple #[v, .int .i64 0]) ∧ (Kd.int .i64).R 3 w' w.heap.size (fun _ => True) v [] ∧ Below w.heap.size w w' := by
  have hck := refCheck_calls A c [] m w hr hr.2.1
  rw [hE] at hck
  clear hr hE
  go_enter Try.func13, Try.ntmps13
  go_wp2_with (first | (go_at_call 16; refine hck.mono ?_; rintro e w' ⟨rfl, rfl⟩) | ((with_reducible refine gate_dst (N := 30) rfl ?_); refine Kd.R_make (Kd.int .i64) (w0 := w) w.heap.size 3 rfl (N := 30) rfl 22 _ _ rfl (0 : Int) rfl rfl Try.underlying22 (.int .i64 0) 8 info3 rfl (by decide) (by omega) (0 : Int) (ok := fun _ => True) (okp := fun _ => True) rfl (fun _ hk => hk) trivial (by omega) (by omega) (Below.refl _ _) (Nat.le_refl _) ?_; intro v1 w1 ho hbw hg hat; obtain ⟨A1, c1, rfl⟩ := own_slice (Kd.own_of_R ho); clear hg hat))
  go_loopg [8, 33] 1 (fun kx s8 s33 w' => s8 = .slice none 0 0 ∧ s33 = .int .i64 0 ∧ w1 = w')
  case atStart => exact ⟨rfl, rfl, rfl⟩
  case round =>
    obtain ⟨rfl, rfl, rfl⟩ := hrel
    go_wp2
    go_ret2
    exact ⟨_, rfl, ho, hbw⟩

theorem refLengths_calls (A : Option Addr) (c : Nat) (cs : List Int) (limit : Int) (w : World) (hr : Kd.C (Kd.int .i64) w A cs.length cs) :
    Calls Try.prog 13 #[.slice A cs.length c, .int .i64 limit] w fun e w' => ∃ v, e = .returned (.tuple #[v, .int .i64 (checkOf cs limit)]) ∧ (Kd.int .i64).R 3 w' w.heap.size (fun _ => True) v (if checkOf cs limit = 0 then lengthsOf cs limit.toNat else []) ∧ Below w.heap.size w w' := by
  by_cases hE : checkOf cs limit = 0
  · rw [if_pos hE, hE]
    cases cs with
    | nil =>
      have h := refLengths_empty A c limit w hr hE
      exact h
    | cons a cs =>
      obtain ⟨h1, _⟩ := check_ok hE
      obtain ⟨m, rfl⟩ := Int.eq_ofNat_of_zero_le (show 0 ≤ limit by omega)
      have h := refLengths_good A c (a :: cs) m w hr hE (by simp)
      rw [Int.toNat_natCast]
      exact h
  · rw [if_neg hE]
    refine (refLengths_bad A c cs limit w hr hE).mono ?_
    rintro e w' ⟨rfl, rfl⟩
    exact ⟨_, rfl, Kd.R_nil _ _ _ _ _, Below.refl _ _⟩
end Go.Proofs.Ytdmhhgkplcaejaa
