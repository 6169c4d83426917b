/- The check of each Huffman law: the document's examples. -/
import Derived.Test.YtdmhhgkplcaejaaE10
namespace Go.Proofs.Ytdmhhgkplcaejaa
open Go.RowKit Go.Sort Go.Proofs.YtdmhhgkplcaejaaW.PrintWords
set_option maxRecDepth 100000 in
theorem ck15 : checkOf [5, 2, 1, 1] 15 = 0 := by decide +kernel
theorem ck2 : checkOf [5, 2, 1, 1] 2 = 0 := by decide +kernel
theorem ln15 : lengthsOf [5, 2, 1, 1] (15 : Int).toNat = [1, 2, 3, 3] := by decide +kernel
theorem ln2 : lengthsOf [5, 2, 1, 1] (2 : Int).toNat = [2, 2, 2, 2] := by decide +kernel

set_option maxHeartbeats 1000000 in
set_option maxRecDepth 100000 in
theorem awake_calls (w : World) : Calls Try.prog 15 #[] w fun e w' => e = .returned (.bool true) ∧ Below w.heap.size w w' := by
  have H15 := Aside0.mk (fun W => len_lit W 15 1 2 3 3 ck15 ln15)
  have H2 := Aside0.mk (fun W => len_lit W 2 2 2 2 2 ck2 ln2)
  go_enter Try.func15, Try.ntmps15
  have ST := Aside0.mk str224
  go_wp2_with (first | (go_at_call 12; with_reducible refine (H15.out w).mono ?_; rintro e w1 ⟨A1, k1, rfl, hC1, hB1⟩; have HC1 := Aside0.mk hC1; have HB1 := Aside0.mk hB1; clear hC1 hB1) | (go_at_call 12; with_reducible refine (H2.out w1).mono ?_; rintro e w2 ⟨A2, k2, rfl, hC2, hB2⟩; have HC2 := Aside0.mk hC2; have HB2 := Aside0.mk hB2; clear hC2 hB2) | (go_at_call 17; with_reducible refine (enc_lit w2).mono ?_; rintro e w3 ⟨A3, k3, rfl, hC3, hB3⟩; have HC3 := Aside0.mk hC3; have HB3 := Aside0.mk hB3; clear hC3 hB3) | (go_at_call 14; with_reducible refine (same_lit w3 A1 k1 1 2 3 3 (Kd.C_below (Kd.C_below HC1.out HB2.out) HB3.out)).mono ?_; rintro e w4 ⟨rfl, hB4⟩; have HB4 := Aside0.mk hB4; clear hB4) | (go_at_call 14; with_reducible refine (same_lit w4 A2 k2 2 2 2 2 (Kd.C_below (Kd.C_below HC2.out HB3.out) HB4.out)).mono ?_; rintro e w5 ⟨rfl, hB5⟩; have HB5 := Aside0.mk hB5; clear hB5; have hcv := Kd.C_string (c := k3) Try.underlying32 Try.underlying5 Try.underlying9 (Kd.C_below (Kd.C_below HC3.out HB4.out) HB5.out); rw [ST.out] at hcv))
  go_ret
  exact ⟨rfl, below_then (below_then (below_then (below_then HB1.out HB1.out.size HB2.out) (Nat.le_trans HB1.out.size HB2.out.size) HB3.out) (Nat.le_trans HB1.out.size (Nat.le_trans HB2.out.size HB3.out.size)) HB4.out) (Nat.le_trans HB1.out.size (Nat.le_trans HB2.out.size (Nat.le_trans HB3.out.size HB4.out.size))) HB5.out⟩
end Go.Proofs.Ytdmhhgkplcaejaa
