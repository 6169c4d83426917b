/- The law HuffmanCodes walked: it returns true. -/
import Derived.Test.YtdmhhgkplcaejaaE14
import Derived.Test.YtdmhhgkplcaejaaE11
namespace Go.Proofs.Ytdmhhgkplcaejaa
open Go.RowKit Go.Sort Go.Proofs.YtdmhhgkplcaejaaW.PrintWords

set_option maxHeartbeats 2000000 in
set_option maxRecDepth 100000 in
theorem codes_law (A : Option Addr) (c : Nat) (ls : List Int) (w : World) (hr : Kd.C (Kd.int .i64) w A ls.length ls) :
    Calls Try.prog 8 #[.slice A ls.length c] w fun e w' => e = .returned (.bool true) ∧ Below w.heap.size w w' := by
  have hc := codes_calls A c ls w hr
  have HF : Aside0 (∀ W, Below w.heap.size w W → Calls Try.prog 20 #[.slice A ls.length c] W fun e w' => ∃ v, e = .returned (.tuple #[v, .int .i64 (if validOf ls then 0 else 1)]) ∧ (Kd.int .u64).R 39 w' W.heap.size (fun _ => True) v (if validOf ls then codesOf ls else []) ∧ Below W.heap.size W w') := ⟨fun W hW => refCodes_calls A c ls W (Kd.C_below hr hW)⟩
  have HLX : (if validOf ls then codesOf ls else []).length ≤ ls.length := by
    split
    · rw [codesOf_length]; omega
    · simp
  clear hr
  generalize (if validOf ls then codesOf ls else []) = xs at *
  generalize (if validOf ls then (0 : Int) else 1) = er at *
  by_cases h60 : 60 < ls.length
  · have hz : (60 : Int) < (ls.length : Int) := by omega
    clear hc HF
    go_enter Try.func8, Try.ntmps8
    go_wp2
    go_ret
    exact ⟨rfl, Below.refl _ _⟩
  · have hz : ¬ (60 : Int) < (ls.length : Int) := by omega
    have hne : (er != er) = false := by simp
    have hnl : ((xs.length : Int) != (xs.length : Int)) = false := by simp
    go_enter Try.func8, Try.ntmps8
    go_wp2_with (first | (go_at_call 19; refine hc.mono ?_; rintro e w1 ⟨v1, rfl, ho1, hb1⟩; obtain ⟨A1, c1, rfl⟩ := own_slice (Kd.own_of_R ho1)) | (go_at_call 20; refine (HF.out _ hb1).mono ?_; rintro e w2 ⟨v2, rfl, ho2, hb2⟩; obtain ⟨A2, c2, rfl⟩ := own_slice (Kd.own_of_R ho2)))
    have HO1 := Aside0.mk (Kd.R_reads' (Kd.R_below ho1 hb2)).2.2
    have HO2 := Aside0.mk (Kd.R_reads' ho2).2.2
    have HB := Aside0.mk (below_then hb1 hb1.size hb2)
    clear hc HF ho1 ho2 hb1 hb2
    go_loopg [33] xs.length (fun kx s33 w' => ∃ (k : Nat), s33 = .int .i64 k ∧ k ≤ xs.length ∧ xs.length - k ≤ kx ∧ Aside0 (Below w2.heap.size w2 w'))
    case atStart => exact ⟨0, rfl, by omega, by omega, ⟨Below.refl _ _⟩⟩
    case round =>
      obtain ⟨k, rfl, hk, hkx, HB2⟩ := hrel
      by_cases hlt : k < xs.length
      · have hltz : (k : Int) < (xs.length : Int) := by omega
        obtain ⟨ad, rfl, hx⟩ := int_at (Kd.C_below HO1.out HB2.out) k hlt
        obtain ⟨bd, rfl, hy⟩ := int_at (Kd.C_below HO2.out HB2.out) k hlt
        have p0 : (0 : Int) ≤ (k : Int) := by omega
        generalize rd xs (k : Int) = x at hx hy
        have hxx : (x != x) = false := by simp
        go_wp2_with fail
        go_quiet (fail)
        have HB3 : Aside0 (Below w2.heap.size w2 (wr.drewN nq)) := ⟨pw_below_drewN HB2.out nq⟩
        clear HB2 hx hy
        generalize wr.drewN nq = w3 at HB3 ⊢
        go_wp2
        go_roundg (xs.length - (k + 1))
        case measure => omega
        case rel => exact ⟨k + 1, by go_num, by omega, Nat.le_refl _, HB3⟩
      · have hltz : ¬ (k : Int) < (xs.length : Int) := by omega
        go_wp2_with (first | (go_at_call 15; with_reducible refine (awake_calls wr).mono ?_; rintro e w4 ⟨rfl, hb4⟩))
        go_ret
        exact ⟨rfl, below_then (below_then HB.out HB.out.size HB2.out) (Nat.le_trans HB.out.size HB2.out.size) hb4⟩
end Go.Proofs.Ytdmhhgkplcaejaa
