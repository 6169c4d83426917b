/- The reference's Pack walked. -/
import Derived.Test.YtdmhhgkplcaejaaE15
namespace Go.Proofs.Ytdmhhgkplcaejaa
open Go.RowKit Go.Sort Go.Proofs.YtdmhhgkplcaejaaW.PrintWords

set_option maxHeartbeats 4000000 in
set_option maxRecDepth 100000 in
theorem refPack_calls (A : Option Addr) (c : Nat) (l : List Bool) (w : World) (hr : Kd.C Kd.bool w A l.length l) (hl : l.length < 1000000000) :
    Calls Try.prog 34 #[.slice A l.length c] w fun e w' => ∃ v, e = .returned v ∧ (Kd.int .u8).R 5 w' w.heap.size (fun _ => True) v (packS l) ∧ Below w.heap.size w w' := by
  have HR := Aside0.mk hr
  have HE : Hid (packS l = packP l l.length) := (packP_eq l).symm
  clear hr
  generalize packS l = res at HE ⊢
  go_enter Try.func34, Try.ntmps34
  go_wp2_with (first | ((with_reducible refine gate_dst (N := 10) rfl ?_); refine Kd.R_make (Kd.int .u8) (w0 := w) w.heap.size 5 rfl (N := 10) rfl 32 _ _ rfl (((l.length : Int) + 7) / 8) ?aN1 ?aN2 Try.underlying32 (.int .u8 0) 1 info5 rfl (by decide) (by omega) (0 : Int) (ok := fun _ => True) (okp := fun _ => True) rfl (fun _ hk => hk) trivial (by omega) (by omega) (Below.refl _ _) (Nat.le_refl _) ?_; (case aN1 => rfl); (case aN2 => rfl); intro v1 w1 ho hbw hg hat; obtain ⟨g1, cap1, rfl, hcap1, hg1, hg1s⟩ := ints_form (n := (l.length + 7) / 8) ho (by obtain ⟨b, hb, _⟩ := hat; exact ⟨b, hb⟩) (by simp; omega); clear hg hat))
  have hz : (((l.length : Int) + 7) / 8).toNat = (l.length + 7) / 8 := by omega
  rw [hz] at ho
  clear hz
  have HO1 := Aside0.mk (show (Kd.int .u8).R 5 w1 w.heap.size (fun _ => True) (.slice (some ⟨g1, 0, none⟩) ((l.length + 7) / 8) cap1) (packP l 0) from ho)
  have HB := Aside0.mk hbw
  clear ho hbw
  go_loopg [13] l.length (fun kx s13 w' => ∃ (k : Nat), s13 = .int .i64 k ∧ k ≤ l.length ∧ l.length - k ≤ kx ∧ Aside0 ((Kd.int .u8).R 5 w' w.heap.size (fun _ => True) (.slice (some ⟨g1, 0, none⟩) ((l.length + 7) / 8) cap1) (packP l k)) ∧ Aside0 (Below w.heap.size w w'))
  case atStart => exact ⟨0, rfl, by omega, by omega, HO1, HB⟩
  case round =>
    clear HO1 HB
    obtain ⟨k, rfl, hk, hkx, HO, HB⟩ := hrel
    by_cases hlt : k < l.length
    · have hltz : (k : Int) < (l.length : Int) := by omega
      obtain ⟨ad, rfl, hx⟩ := bool_at HR.out k hlt
      replace hx := (HB.out.cell (World.block_lt_of_cell? w _ hx)).trans hx
      have hstep : Hid (packP l (k + 1) = if l.getD k false then (packP l k).set (k / 8) (orB (rd (packP l k) (k / 8 : Nat)) (k % 8)) else packP l k) := rfl
      cases hb : l.getD k false with
      | false =>
        rw [hb] at hx hstep
        have hs2 : Hid (packP l (k + 1) = packP l k) := hstep.out
        clear hb hstep
        go_wp2
        go_roundg (l.length - (k + 1))
        case measure => omega
        case rel => exact ⟨k + 1, by go_num, by omega, Nat.le_refl _, ⟨by rw [hs2.out]; exact HO.out⟩, HB⟩
      | true =>
        rw [hb] at hx hstep
        have hs2 : Hid (packP l (k + 1) = (packP l k).set (k / 8) (orB (rd (packP l k) (k / 8 : Nat)) (k % 8))) := by
          show _ = _
          rw [hstep.out, if_pos rfl]
        have hpl : (packP l k).length = (l.length + 7) / 8 := packP_length l k
        have hby := packP_ok l k (rd (packP l k) (k / 8 : Nat)) (rd_mem (by rw [hpl]; omega))
        have hi0 : (0 : Int) ≤ (k : Int) / 8 := by omega
        have hi1 : (k : Int) / 8 < (((l.length + 7) / 8 : Nat) : Int) := by omega
        obtain ⟨kc, kf⟩ := Kd.R_celln (0 : Int) HO.out ((k / 8 : Nat) : Int) (by omega) (by omega)
        rw [Int.toNat_natCast] at kc kf
        change wr.cell? _ = some (.int .u8 (rd (packP l k) (k / 8 : Nat))) at kc
        have hRn : ((k : Int) % 8).toNat = k % 8 := by omega
        have hor : bits .or .u8 (rd (packP l k) (k / 8 : Nat)) (128 / 2 ^ (k % 8)) = orB (rd (packP l k) (k / 8 : Nat)) (k % 8) := orB_bits hby.1 hby.2
        have hor2 : bits .or .u8 (rd (packP l k) (k / 8 : Nat)) (128 / 2 ^ ((k : Int) % 8).toNat) = orB (rd (packP l k) (k / 8 : Nat)) (k % 8) := by rw [hRn]; exact orB_bits hby.1 hby.2
        have hR0 : 0 ≤ (k : Int) % 8 := by omega
        have hR1 : (k : Int) % 8 ≤ 8 := by omega
        have hk0 : (0 : Int) ≤ (k : Int) := by omega
        clear hb hstep hpl hby hRn
        generalize rd (packP l k) (k / 8 : Nat) = y at kc hor hor2 hs2
        generalize orB y (k % 8) = z at hor hor2 hs2
        have HPUT := Aside0.mk (Kd.R_putn HO.out ((k / 8 : Nat) : Int) z)
        rw [Int.toNat_natCast] at HPUT
        go_wp2
        go_roundg (l.length - (k + 1))
        case measure => omega
        case rel => exact ⟨k + 1, by go_num, by omega, Nat.le_refl _, ⟨by rw [hs2.out]; exact HPUT.out⟩, ⟨below_set HB.out hg1⟩⟩
    · have hltz : ¬ (k : Int) < (l.length : Int) := by omega
      obtain rfl : k = l.length := by omega
      go_wp2
      go_ret
      exact ⟨_, rfl, by rw [HE.out]; exact HO.out, HB.out⟩
end Go.Proofs.Ytdmhhgkplcaejaa
