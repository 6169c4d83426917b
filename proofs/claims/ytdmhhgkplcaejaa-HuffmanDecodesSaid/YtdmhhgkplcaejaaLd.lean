/- The law HuffmanDecodes walked: it returns true. -/
import Derived.Test.YtdmhhgkplcaejaaD9
import Derived.Test.YtdmhhgkplcaejaaE11
namespace Go.Proofs.Ytdmhhgkplcaejaa
open Go.RowKit Go.Sort Go.Proofs.YtdmhhgkplcaejaaW.PrintWords

set_option maxHeartbeats 2000000 in
set_option maxRecDepth 100000 in
theorem decodes_law (A : Option Addr) (c : Nat) (ls : List Int) (B : Option Addr) (d : Nat) (bs : List Int) (n cnt : Int) (w : World) (hr : Kd.C (Kd.int .i64) w A ls.length ls) (hs : Kd.C (Kd.int .u8) w B bs.length bs) (hd : bs.length ≤ d) (hby : ∀ b ∈ bs, 0 ≤ b ∧ b ≤ 255) :
    Calls Try.prog 10 #[.slice A ls.length c, .agg #[.slice B bs.length d, .int .i64 n, .int .i64 cnt]] w fun e w' => e = .returned (.bool true) ∧ Below w.heap.size w w' := by
  have HB0 := Aside0.mk (below_alloc (Below.refl w.heap.size w) (.cells #[.slice B bs.length d, .int .i64 n, .int .i64 cnt] 42))
  have hblk := blk_new w (.cells #[.slice B bs.length d, .int .i64 n, .int .i64 cnt] 42)
  have HBL := Aside0.mk hblk
  have hc0 : (w.alloc (.cells #[.slice B bs.length d, .int .i64 n, .int .i64 cnt] 42)).cell? ⟨w.heap.size, 0, none⟩ = some (.slice B bs.length d) := blk_cell hblk 0
  have hc1 : (w.alloc (.cells #[.slice B bs.length d, .int .i64 n, .int .i64 cnt] 42)).cell? ⟨w.heap.size, 1, none⟩ = some (.int .i64 n) := blk_cell hblk 1
  have hc2 : (w.alloc (.cells #[.slice B bs.length d, .int .i64 n, .int .i64 cnt] 42)).cell? ⟨w.heap.size, 2, none⟩ = some (.int .i64 cnt) := blk_cell hblk 2
  clear hblk
  by_cases h40 : 40 < ls.length
  · have hz : decide ((40 : Int) < (ls.length : Int)) = true := decide_eq_true (by omega)
    clear hr hs hc0 hc1 hc2
    go_enter Try.func10, Try.ntmps10
    go_wp2
    go_ret
    exact ⟨rfl, HB0.out⟩
  have hz : decide ((40 : Int) < (ls.length : Int)) = false := decide_eq_false (by omega)
  by_cases h41 : 40 < bs.length
  · have hz2 : decide ((40 : Int) < (bs.length : Int)) = true := decide_eq_true (by omega)
    clear hr hs
    go_enter Try.func10, Try.ntmps10
    go_wp2
    go_ret
    exact ⟨rfl, HB0.out⟩
  have hz2 : decide ((40 : Int) < (bs.length : Int)) = false := decide_eq_false (by omega)
  by_cases h400 : 400 < cnt
  · have hz3 : decide (400 < cnt) = true := decide_eq_true h400
    clear hr hs
    go_enter Try.func10, Try.ntmps10
    go_wp2
    go_ret
    exact ⟨rfl, HB0.out⟩
  have hz3 : decide (400 < cnt) = false := decide_eq_false h400
  generalize hw1 : w.alloc (.cells #[.slice B bs.length d, .int .i64 n, .int .i64 cnt] 42) = w1 at *
  have hdec := decode_calls A B c d ls bs n cnt w1 (Kd.C_below hr HB0.out) (Kd.C_below hs HB0.out) hd (by omega) hby
  have HRE := Aside0.mk (fun W (h : Below w.heap.size w W) => refDecode_calls A B c d ls bs n cnt W (Kd.C_below hr h) (Kd.C_below hs h) (by omega) hby)
  clear hr hs
  have he1 : ((decV ls bs n cnt).2 == (decV ls bs n cnt).2) = true := by simp
  generalize (decV ls bs n cnt).2 = er at *
  generalize (decV ls bs n cnt).1 = xs at *
  have hs1 := HB0.out.size
  go_enter Try.func10, Try.ntmps10
  go_wp2_with (first | (go_at_call 21; refine hdec.mono ?_; rintro e w2 ⟨v2, rfl, ho2, hb2⟩; obtain ⟨A2, c2, rfl⟩ := own_slice (Kd.own_of_R ho2); have hd0 : w2.cell? ⟨w.heap.size, 0, none⟩ = some (.slice B bs.length d) := pw_cell_below hb2 hc0; have hd1 : w2.cell? ⟨w.heap.size, 1, none⟩ = some (.int .i64 n) := pw_cell_below hb2 hc1; have hd2 : w2.cell? ⟨w.heap.size, 2, none⟩ = some (.int .i64 cnt) := pw_cell_below hb2 hc2; have HB2 := Aside0.mk (below_then HB0.out hs1 hb2); clear hdec hc0 hc1 hc2) | (go_at_call 22; refine (HRE.out w2 HB2.out).mono ?_; rintro e w3 ⟨v3, rfl, ho3, hb3⟩; obtain ⟨A3, c3, rfl⟩ := own_slice (Kd.own_of_R ho3); have hsame := sameInts_calls A2 A3 c2 c3 xs xs w3 (Kd.R_reads' (Kd.R_below ho2 hb3)).2.2 (Kd.R_reads' ho3).2.2; rw [decide_eq_true rfl] at hsame; have HB3 := Aside0.mk (below_then HB2.out HB2.out.size hb3); clear hd0 hd1 hd2 ho2 ho3 hb2 hb3 HRE HB2) | (go_at_call 14; refine hsame.mono ?_; rintro e w4 ⟨rfl, hb4⟩; have HB4 := Aside0.mk (below_then HB3.out HB3.out.size hb4); clear hsame hb4) | (go_at_call 15; with_reducible refine (awake_calls _).mono ?_; rintro e w5 ⟨rfl, hb5⟩))
  go_ret
  exact ⟨rfl, below_then HB4.out HB4.out.size hb5⟩
end Go.Proofs.Ytdmhhgkplcaejaa
