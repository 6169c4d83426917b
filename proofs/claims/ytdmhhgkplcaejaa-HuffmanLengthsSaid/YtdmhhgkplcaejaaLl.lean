/- The law HuffmanLengths walked: it returns true. -/
import Derived.Test.YtdmhhgkplcaejaaQ5
import Derived.Test.YtdmhhgkplcaejaaH5
import Derived.Test.YtdmhhgkplcaejaaH7
import Derived.Test.YtdmhhgkplcaejaaE11
namespace Go.Proofs.Ytdmhhgkplcaejaa
open Go.RowKit Go.Sort Go.Proofs.YtdmhhgkplcaejaaW.PrintWords

set_option maxHeartbeats 2000000 in
set_option maxRecDepth 100000 in
theorem lengths_law (A : Option Addr) (c : Nat) (cs : List Int) (limit : Int) (w : World) (hr : Kd.C (Kd.int .i64) w A cs.length cs) :
    Calls Try.prog 3 #[.slice A cs.length c, .int .i64 limit] w fun e w' => e = .returned (.bool true) ∧ Below w.heap.size w w' := by
  by_cases h40 : 40 < cs.length
  · have hz : decide ((40 : Int) < (cs.length : Int)) = true := decide_eq_true (by omega)
    clear hr
    go_enter Try.func3, Try.ntmps3
    go_wp2
    go_ret
    exact ⟨rfl, Below.refl _ _⟩
  have hz : decide ((40 : Int) < (cs.length : Int)) = false := decide_eq_false (by omega)
  have hlen := lengths_calls A c cs limit w hr
  have HRE := Aside0.mk (fun W (h : Below w.heap.size w W) => refLengths_calls A c cs limit W (Kd.C_below hr h))
  have he1 : (checkOf cs limit == checkOf cs limit) = true := by simp
  clear hr
  generalize (if checkOf cs limit = 0 then lengthsOf cs limit.toNat else []) = xs at *
  generalize checkOf cs limit = er at *
  go_enter Try.func3, Try.ntmps3
  go_wp2_with (first | (go_at_call 12; refine hlen.mono ?_; rintro e w2 ⟨v2, rfl, ho2, hb2⟩; obtain ⟨A2, c2, rfl⟩ := own_slice (Kd.own_of_R ho2); clear hlen) | (go_at_call 13; refine (HRE.out w2 hb2).mono ?_; rintro e w3 ⟨v3, rfl, ho3, hb3⟩; obtain ⟨A3, c3, rfl⟩ := own_slice (Kd.own_of_R ho3); have hsame := sameInts_calls A2 A3 c2 c3 xs xs w3 (Kd.R_reads' (Kd.R_below ho2 hb3)).2.2 (Kd.R_reads' ho3).2.2; rw [decide_eq_true rfl] at hsame; have HB3 := Aside0.mk (below_then hb2 hb2.size hb3); clear ho2 ho3 hb2 hb3 HRE) | (go_at_call 14; refine hsame.mono ?_; rintro e w4 ⟨rfl, hb4⟩; have HB4 := Aside0.mk (below_then HB3.out HB3.out.size hb4); clear hsame hb4) | (go_at_call 15; with_reducible refine (awake_calls _).mono ?_; rintro e w5 ⟨rfl, hb5⟩))
  go_ret
  exact ⟨rfl, below_then HB4.out HB4.out.size hb5⟩
end Go.Proofs.Ytdmhhgkplcaejaa
