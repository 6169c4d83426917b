/- The reference's Unpack: the bits of bytes. -/
import Derived.Test.YtdmhhgkplcaejaaD1
import Derived.Test.YtdmhhgkplcaejaaE15
namespace Go.Proofs.Ytdmhhgkplcaejaa
open Go.RowKit Go.Sort Go.Proofs.YtdmhhgkplcaejaaW.PrintWords

/-- The first bits of bytes. -/
def bitsB (bs : List Int) (n : Nat) : List Bool := (List.range n).map fun k => decide (bitAt bs k = 1)
theorem bitsB_length (bs : List Int) (n : Nat) : (bitsB bs n).length = n := by simp [bitsB]
theorem bitsB_succ (bs : List Int) (n : Nat) : bitsB bs (n + 1) = bitsB bs n ++ [decide (bitAt bs n = 1)] := by
  unfold bitsB
  rw [List.range_succ, List.map_append]
  rfl

theorem mask_nat : ∀ r : Fin 8, ∀ y : Fin 256, (y.val &&& 2 ^ (7 - r.val) != 0) = decide (y.val / 2 ^ (7 - r.val) % 2 = 1) := by decide +kernel
theorem mask_bit (y : Int) (r : Nat) (h0 : 0 ≤ y) (h1 : y ≤ 255) (hr : r < 8) : (bits .and .u8 y (128 / 2 ^ r) != 0) = decide (y / 2 ^ (7 - r) % 2 = 1) := by
  have e : (128 : Int) / 2 ^ r = ((2 ^ (7 - r) : Nat) : Int) := by
    rcases (by omega : r = 0 ∨ r = 1 ∨ r = 2 ∨ r = 3 ∨ r = 4 ∨ r = 5 ∨ r = 6 ∨ r = 7) with rfl | rfl | rfl | rfl | rfl | rfl | rfl | rfl <;> decide
  have e2 : 2 ^ (7 - r) ≤ 128 := by
    have := Nat.pow_le_pow_right (n := 2) (by decide) (show 7 - r ≤ 7 by omega)
    simpa using this
  obtain ⟨n, rfl⟩ := Int.eq_ofNat_of_zero_le h0
  have key := mask_nat ⟨r, hr⟩ ⟨n, by omega⟩
  simp only at key
  have e3 : ((n : Int) / 2 ^ (7 - r) % 2 = 1) ↔ (n / 2 ^ (7 - r) % 2 = 1) := by
    have : ((n : Int) / 2 ^ (7 - r) % 2) = ((n / 2 ^ (7 - r) % 2 : Nat) : Int) := by push_cast; rfl
    rw [this]
    omega
  have hle : (((2 ^ (7 - r) : Nat) : Int)) < 256 := by
    generalize 2 ^ (7 - r) = q at e2
    omega
  rw [e, u8_and _ _ h0 (by omega) (Int.natCast_nonneg _) hle, Int.toNat_natCast, Int.toNat_natCast]
  rw [show decide ((n : Int) / 2 ^ (7 - r) % 2 = 1) = decide (n / 2 ^ (7 - r) % 2 = 1) from decide_eq_decide.2 e3, ← key]
  generalize n &&& 2 ^ (7 - r) = z
  by_cases hz : z = 0
  · subst hz; rfl
  · have h1 : ((z : Int) != 0) = true := by simp [hz]
    have h2 : (z != 0) = true := by simp [hz]
    rw [h1, h2]

set_option maxHeartbeats 1000000 in
set_option maxRecDepth 100000 in
theorem unpack_calls (A : Option Addr) (c : Nat) (bs : List Int) (n : Nat) (w : World) (hC : Kd.C (Kd.int .u8) w A bs.length bs) (hb : BufOk bs n) :
    Calls Try.prog 40 #[.slice A bs.length c, .int .i64 n] w fun e w' => ∃ v, e = .returned v ∧ Kd.bool.R 4 w' w.heap.size (fun _ => True) v (bitsB bs n) ∧ Below w.heap.size w w' := by
  obtain ⟨h1, h2, h3⟩ := hb
  have HC := Aside0.mk hC
  have HBY := Aside0.mk h1
  clear hC h1
  go_enter Try.func40, Try.ntmps40
  go_wp2
  go_loopg [5, 6] n (fun kx s5 s6 w' => ∃ (k : Nat), s6 = .int .i64 k ∧ k ≤ n ∧ n - k ≤ kx ∧ Aside0 (Kd.bool.R 4 w' w.heap.size (fun _ => True) s5 (bitsB bs k)) ∧ Aside0 (Below w.heap.size w w'))
  case atStart => exact ⟨0, rfl, by omega, by omega, ⟨Kd.R_nil _ _ _ _ _⟩, ⟨Below.refl _ _⟩⟩
  case round =>
    obtain ⟨k, rfl, hk, hkx, HO, HB⟩ := hrel
    by_cases hlt : k < n
    · have hltz : (k : Int) < (n : Int) := by omega
      obtain ⟨ad, rfl, hx⟩ := int_at HC.out (k / 8) (by omega)
      replace hx := (HB.out.cell (World.block_lt_of_cell? w _ hx)).trans hx
      have hi0 : (0 : Int) ≤ (k : Int) / 8 := by omega
      have hi1 : (k : Int) / 8 < (bs.length : Int) := by omega
      have hby := HBY.out (rd bs (k / 8 : Nat)) (rd_mem (by omega))
      have hr0 : 0 ≤ (k : Int) % 8 := by omega
      have hr1 : (k : Int) % 8 ≤ 7 := by omega
      have hm := mask_bit (rd bs (k / 8 : Nat)) (k % 8) hby.1 hby.2 (by omega)
      have hS : Hid (bitsB bs (k + 1) = bitsB bs k ++ [decide (rd bs (k / 8 : Nat) / 2 ^ (7 - k % 8) % 2 = 1)]) := bitsB_succ bs k
      rw [← hm] at hS
      clear hm
      generalize rd bs (k / 8 : Nat) = y at *
      generalize hX : (bits .and .u8 y (128 / 2 ^ (k % 8)) != 0) = x at hS
      have hll : (bitsB bs k).length = k := bitsB_length bs k
      generalize bitsB bs k = l at *
      go_wp2_with (first | (at_builtin; refine Kd.R_append Kd.bool (w0 := w) w.heap.size ?aG (.tmp 12) (.tmp 24) 61 4 (.bool false) 1 ?aOp Try.underlying61 info4 rfl (by decide) (by omega) u5 l x [.bool x] (fun _ => True) (fun _ => False) ?aV ?aX ?aP (fun _ hk => hk.elim) ?aF ?aO ?aB ?aS ?aL ?_; (case aG => rfl); (case aOp => rfl); (case aV => rfl); (case aX => rfl); (case aP => exact rfl); (case aF => exact fun _ _ => trivial); (case aO => exact HO.out); (case aB => exact HB.out); (case aS => exact HB.out.size); (case aL => omega); intro v1 w1 ho hb hg hat; rw [← hS.out] at ho; clear hg hat))
      go_roundg (n - (k + 1))
      case measure => omega
      case rel => exact ⟨k + 1, by go_num, by omega, Nat.le_refl _, ⟨ho⟩, ⟨hb⟩⟩
    · have hltz : ¬ (k : Int) < (n : Int) := by omega
      obtain rfl : k = n := by omega
      go_wp2
      go_ret
      exact ⟨_, rfl, HO.out, HB.out⟩
end Go.Proofs.Ytdmhhgkplcaejaa
