/- bits.Len64 laid; huffman.Codes; bitio's writer. -/
import Derived.Test.YtdmhhgkplcaejaaE4
import Derived.Shelf.Strconv.Itoa0
namespace Go.Proofs.Ytdmhhgkplcaejaa
open Go.RowKit Go.Sort Go.Proofs.YtdmhhgkplcaejaaW.PrintWords Go.Shelf

def renLen : Ren := ⟨fun | 129 => 46 | n => n, fun | 46 => 30 | 53 => 39 | n => n, fun n => n⟩
theorem layLen : Lays.n129 Try.prog renLen where
  mixed := by kernel_rfl
  f129 := Try.func46.trans (by kernel_rfl)
  t3 := Try.underlying3
  a3 := Try.isAgg3
  z3 := Try.sizeOf3
  v3 := Try.zeroValue3
  t4 := Try.underlying4
  a4 := Try.isAgg4
  z4 := Try.sizeOf4
  v4 := Try.zeroValue4
  t5 := Try.underlying5
  a5 := Try.isAgg5
  z5 := Try.sizeOf5
  v5 := Try.zeroValue5
  t9 := Try.underlying9
  a9 := Try.isAgg9
  z9 := Try.sizeOf9
  v9 := Try.zeroValue9
  t46 := Try.underlying30
  a46 := Try.isAgg30
  z46 := Try.sizeOf30
  v46 := Try.zeroValue30
  t53 := Try.underlying39
  a53 := Try.isAgg39
  z53 := Try.sizeOf39
  v53 := Try.zeroValue39
theorem len64_calls (x : Int) (w : World) (h0 : 0 ≤ x) (h1 : x ≤ 18446744073709551615) :
    Calls Try.prog 46 #[.int .u64 x] w fun e w' => e = .returned (.int .i64 (Lib.bitLen x.toNat)) ∧ w' = w := Any.bits_Len64 layLen x w h0 h1

theorem bitLen_le {n : Nat} (x : Nat) (h : x < 2 ^ n) : Lib.bitLen x ≤ n := by
  have : ∀ f n x, x < 2 ^ n → Lib.bitLenAux f x ≤ n := by
    intro f
    induction f with
    | zero => intro n x _; exact Nat.zero_le _
    | succ f ih =>
      intro n x h
      unfold Lib.bitLenAux
      split
      · omega
      · cases n with
        | zero => simp at h; omega
        | succ n =>
          have := ih n (x / 2) (by rw [Nat.pow_succ] at h; omega)
          omega
  exact this 64 n x h

/-- huffman.Codes. -/
theorem codes_calls (A : Option Addr) (c : Nat) (ls : List Int) (w : World) (hr : Kd.C (Kd.int .i64) w A ls.length ls) :
    Calls Try.prog 19 #[.slice A ls.length c] w fun e w' => ∃ v, e = .returned (.tuple #[v, .int .i64 (if validOf ls then 0 else 1)]) ∧ (Kd.int .u64).R 39 w' w.heap.size (fun _ => True) v (if validOf ls then codesOf ls else []) ∧ Below w.heap.size w w' := by
  have hv := valid_calls A c ls w hr
  by_cases h : validOf ls = true
  · have hc := codesOf_calls A c ls w hr h
    rw [if_pos h, if_pos h]
    rw [h] at hv
    clear hr h
    go_enter Try.func19, Try.ntmps19
    go_wp2_with (first | (go_at_call 27; refine hv.mono ?_; rintro e w' ⟨rfl, rfl⟩) | (go_at_call 28; refine hc.mono ?_; rintro e w' ⟨v, rfl, ho, hb⟩))
    go_ret2
    exact ⟨_, rfl, ho, hb⟩
  · rw [if_neg h, if_neg h]
    rw [Bool.eq_false_iff.2 h] at hv
    clear hr h
    go_enter Try.func19, Try.ntmps19
    go_wp2_with (first | (go_at_call 27; refine hv.mono ?_; rintro e w' ⟨rfl, rfl⟩))
    go_ret2
    exact ⟨_, rfl, Kd.R_nil _ _ _ _ _, Below.refl _ _⟩

theorem info5 : (Try.prog.info? 5).map (fun i => (i.zero, i.size, i.bytes)) = some (some (.int .u8 0), 1, 1) := by kernel_rfl

end Go.Proofs.Ytdmhhgkplcaejaa
