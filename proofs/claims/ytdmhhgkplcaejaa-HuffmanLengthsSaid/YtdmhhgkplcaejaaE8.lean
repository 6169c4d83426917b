/- bitio's writer: Bits, NewWriter, Len, Bytes. -/
import Derived.Test.YtdmhhgkplcaejaaE7
namespace Go.Proofs.Ytdmhhgkplcaejaa
open Go.RowKit Go.Sort Go.Proofs.YtdmhhgkplcaejaaW.PrintWords

theorem packS_length (l : List Bool) : (packS l).length = (l.length + 7) / 8 := (packS_ok l).2

set_option maxHeartbeats 1000000 in
theorem newWriter_calls (w : World) : Calls Try.prog 29 #[] w fun e w' => e = .returned (.pointer (some ⟨w.heap.size, 0, none⟩)) ∧ Wr w w.heap.size w.heap.size [] w' := by
  go_enter Try.func29, Try.ntmps29
  go_wp2
  go_ret
  exact ⟨rfl, none, 0, blk_new w _, Kd.R_nil _ _ _ _ _, below_alloc (Below.refl _ _) _⟩

set_option maxHeartbeats 1000000 in
theorem writerBits_calls (p base : Nat) (l : List Bool) (w0 w : World) (v : Int) (n : Nat) (hv : 0 ≤ v) (hvn : v < 2 ^ n) (hn : n ≤ 62) (hl : l.length < 900000000) (hbp : base ≤ p) (hb0 : base ≤ w0.heap.size) (hS : Wr w0 p base l w) :
    Calls Try.prog 30 #[.pointer (some ⟨p, 0, none⟩), .int .u64 v, .int .i64 n] w fun e w' => e = .returned (.int .i64 0) ∧ Wr w0 p base (l ++ low v n) w' := by
  have hlow := lowest_calls p base l w0 w v n hv (by omega) hl hbp hb0 hS
  have hp62 : (2 : Int) ^ n ≤ 2 ^ 62 := by
    have := Nat.pow_le_pow_right (n := 2) (by decide) hn
    exact_mod_cast this
  have hlen := len64_calls v w hv (by have : (2 : Int) ^ 62 = 4611686018427387904 := by decide
                                      omega)
  have hbl : Lib.bitLen v.toNat ≤ n := bitLen_le _ (by have : ((v.toNat : Nat) : Int) < ((2 ^ n : Nat) : Int) := by push_cast; omega
                                                       exact_mod_cast this)
  clear hS hvn hp62
  have e46 : ∀ args w, (callFunc 46 args).run Try.prog w = .ok (.enter 46 args) w := enters_of Try.func46 (by kernel_rfl) rfl
  have e47 : ∀ args w, (callFunc 47 args).run Try.prog w = .ok (.enter 47 args) w := enters_of Try.func47 (by kernel_rfl) rfl
  have hd0 : decide ((n : Int) < 0) = false := decide_eq_false (by omega)
  have hd1 : decide (64 < (n : Int)) = false := decide_eq_false (by omega)
  generalize Lib.bitLen v.toNat = bl at hlen hbl
  have hd2 : decide ((n : Int) < (bl : Int)) = false := decide_eq_false (by omega)
  go_enter Try.func30, Try.ntmps30
  go_wp2_with (first | (go_at_call 46; refine hlen.mono ?_; rintro e w' ⟨rfl, rfl⟩) | (go_at_call 47; refine hlow.mono ?_; rintro e w1 ⟨rfl, hS1⟩))
  go_ret
  exact ⟨rfl, hS1⟩

set_option maxHeartbeats 1000000 in
theorem writerLen_calls (p base : Nat) (l : List Bool) (w0 w : World) (hS : Wr w0 p base l w) :
    Calls Try.prog 32 #[.pointer (some ⟨p, 0, none⟩)] w fun e w' => e = .returned (.int .i64 l.length) ∧ w = w' := by
  obtain ⟨A, c, hp, hv, hB⟩ := hS
  have hc1 : w.cell? ⟨p, 1, none⟩ = some (.int .i64 l.length) := blk_cell hp 1
  clear hp hv hB
  have hs : Calls Try.prog 48 #[.pointer (some ⟨p, 0, none⟩)] w fun e w' => e = .returned (.int .i64 l.length) ∧ w = w' := by
    go_enter Try.func48, Try.ntmps48
    go_wp2
    go_ret
    exact ⟨rfl, rfl⟩
  clear hc1
  go_enter Try.func32, Try.ntmps32
  go_wp2_with (first | (go_at_call 48; refine hs.mono ?_; rintro e w' ⟨rfl, rfl⟩))
  go_ret
  exact ⟨rfl, rfl⟩

set_option maxHeartbeats 2000000 in
theorem writerBytes_calls (p base : Nat) (l : List Bool) (w0 w : World) (hl : l.length < 1000000000) (hS : Wr w0 p base l w) :
    Calls Try.prog 31 #[.pointer (some ⟨p, 0, none⟩)] w fun e w' => ∃ v, e = .returned v ∧ (Kd.int .u8).R 5 w' w.heap.size (fun _ => True) v (packS l) ∧ Below w.heap.size w w' := by
  obtain ⟨A, c, hp, hv, hB⟩ := hS
  have hc0 : w.cell? ⟨p, 0, none⟩ = some (.slice A (packS l).length c) := blk_cell hp 0
  have hC := Aside0.mk (Kd.R_reads' hv).2.2
  have hc0' : (w.alloc (.cells #[] 5)).cell? ⟨p, 0, none⟩ = some (.slice A (packS l).length c) := pw_cell_below (below_alloc (Below.refl _ _) _) hc0
  have hlen : (packS l).length < 1000000000 := by rw [packS_length]; omega
  clear hp hv hB
  generalize packS l = bs at *
  go_enter Try.func31, Try.ntmps31
  go_wp2_with (first | (at_builtin; refine Kd.R_append_row (Value.int .u8) (0 : Int) (h1 := fun _ => rfl) (w0 := w) w.heap.size ?aG (.tmp 3) (.tmp 8) 32 5 (.int .u8 0) 1 ?aOp Try.underlying32 info5 rfl (by decide) (.slice (some ⟨w.heap.size, 0, none⟩) 0 0) [] bs A bs.length c (fun _ => True) ?aV ?aX ?aF ?aO ?aR ?aB ?aS ?aL ?_; (case aG => rfl); (case aOp => rfl); (case aV => rfl); (case aX => rfl); (case aF => exact fun _ _ => trivial); (case aO => exact Kd.R_of_own (World.ownsRow_lit (base := w.heap.size) (e := 5) (size := 1) w #[] 0 (Nat.le_refl _) (by decide) (by simp)) (fun _ _ => trivial)); (case aR => exact Kd.C_below hC.out (below_alloc (Below.refl _ _) _)); (case aB => exact below_alloc (Below.refl _ _) _); (case aS => rw [World.size_alloc]; omega); (case aL => simp; omega); intro v1 w2 ho hb hg hat; clear hg hat))
  go_ret
  rw [List.nil_append] at ho
  exact ⟨_, rfl, ho, hb⟩
end Go.Proofs.Ytdmhhgkplcaejaa
