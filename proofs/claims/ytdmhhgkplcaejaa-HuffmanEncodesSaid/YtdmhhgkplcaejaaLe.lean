/- The law HuffmanEncodes walked: it returns true. -/
import Derived.Test.YtdmhhgkplcaejaaE17
import Derived.Test.YtdmhhgkplcaejaaE11
namespace Go.Proofs.Ytdmhhgkplcaejaa
open Go.RowKit Go.Sort Go.Proofs.YtdmhhgkplcaejaaW.PrintWords

set_option maxHeartbeats 2000000 in
set_option maxRecDepth 100000 in
theorem encodes_law (A : Option Addr) (c : Nat) (ls : List Int) (B : Option Addr) (d : Nat) (ss : List Int) (w : World) (hr : Kd.C (Kd.int .i64) w A ls.length ls) (hs : Kd.C (Kd.int .i64) w B ss.length ss) :
    Calls Try.prog 6 #[.slice A ls.length c, .slice B ss.length d] w fun e w' => e = .returned (.bool true) ∧ Below w.heap.size w w' := by
  have hc := encode_calls A B c d ls ss w hr hs
  have HF : Aside0 (∀ W, Below w.heap.size w W → Calls Try.prog 18 #[.slice A ls.length c, .slice B ss.length d] W fun e w' => ∃ v, e = .returned (.tuple #[v, .int .i64 (encB ls ss).length, .int .i64 (encE ls ss)]) ∧ (Kd.int .u8).R 5 w' W.heap.size (fun _ => True) v (packS (encB ls ss)) ∧ Below W.heap.size W w') := ⟨fun W hW => refEncode_calls A B c d ls ss W (Kd.C_below hr hW) (Kd.C_below hs hW)⟩
  clear hr hs
  generalize packS (encB ls ss) = xs at *
  generalize encE ls ss = er at *
  generalize (encB ls ss).length = bl at *
  by_cases h40 : 40 < ls.length
  · have hz : decide ((40 : Int) < (ls.length : Int)) = true := decide_eq_true (by omega)
    clear hc HF
    go_enter Try.func6, Try.ntmps6
    go_wp2
    go_ret
    exact ⟨rfl, Below.refl _ _⟩
  · have hz : decide ((40 : Int) < (ls.length : Int)) = false := decide_eq_false (by omega)
    by_cases h60 : 60 < ss.length
    · have hz2 : decide ((60 : Int) < (ss.length : Int)) = true := decide_eq_true (by omega)
      clear hc HF
      go_enter Try.func6, Try.ntmps6
      go_wp2
      go_ret
      exact ⟨rfl, Below.refl _ _⟩
    · have hz2 : decide ((60 : Int) < (ss.length : Int)) = false := decide_eq_false (by omega)
      have he1 : (er == er) = true := by simp
      have he2 : ((bl : Int) == (bl : Int)) = true := by simp
      go_enter Try.func6, Try.ntmps6
      go_wp2_with (first | (go_at_call 17; refine hc.mono ?_; rintro e w1 ⟨v1, rfl, ho1, hb1⟩; obtain ⟨A1, c1, rfl⟩ := own_slice (Kd.own_of_R ho1)) | (go_at_call 18; refine (HF.out _ hb1).mono ?_; rintro e w2 ⟨v2, rfl, ho2, hb2⟩; obtain ⟨A2, c2, rfl⟩ := own_slice (Kd.own_of_R ho2); have hcv1 := Kd.C_string (c := c1) Try.underlying32 Try.underlying5 Try.underlying9 (Kd.R_reads' (Kd.R_below ho1 hb2)).2.2; have hcv2 := Kd.C_string (c := c2) Try.underlying32 Try.underlying5 Try.underlying9 (Kd.R_reads' ho2).2.2; have HB := Aside0.mk (below_then hb1 hb1.size hb2); clear hc HF ho1 ho2 hb1 hb2) | (go_at_call 15; with_reducible refine (awake_calls w2).mono ?_; rintro e w4 ⟨rfl, hb4⟩))
      go_ret
      exact ⟨rfl, below_then HB.out HB.out.size hb4⟩
end Go.Proofs.Ytdmhhgkplcaejaa
