/- The reference's SameInts: whether two lists of ints are one. -/
import Derived.Test.YtdmhhgkplcaejaaH2
import Derived.WalkLawsBesides
namespace Go.Proofs.Ytdmhhgkplcaejaa
open Go.RowKit Go.Proofs.YtdmhhgkplcaejaaW.PrintWords

theorem take_eq_iff_rd {xs ys : List Int} (hl : xs.length = ys.length) (k : Nat) (hk : k < xs.length) : (xs.take (k + 1) = ys.take (k + 1)) ↔ (xs.take k = ys.take k ∧ rd xs k = rd ys k) := by
  rw [take_snoc_rd xs k hk, take_snoc_rd ys k (by omega)]
  constructor
  · intro h
    have := List.append_inj h (by simp; omega)
    exact ⟨this.1, by simpa using this.2⟩
  · rintro ⟨h1, h2⟩
    rw [h1, h2]

set_option maxHeartbeats 2000000 in
set_option maxRecDepth 100000 in
theorem sameInts_calls (A B : Option Addr) (c d : Nat) (xs ys : List Int) (w : World) (hr : Kd.C (Kd.int .i64) w A xs.length xs) (hs : Kd.C (Kd.int .i64) w B ys.length ys) :
    Calls Try.prog 14 #[.slice A xs.length c, .slice B ys.length d] w fun e w' => e = .returned (.bool (decide (xs = ys))) ∧ Below w.heap.size w w' := by
  have hn := hr.2.1
  have hm := hs.2.1
  have HR := Aside0.mk hr
  have HS := Aside0.mk hs
  clear hr hs
  by_cases hl : xs.length = ys.length
  · have hlz : ((xs.length : Int) != (ys.length : Int)) = false := by simp [hl]
    have hk0 : xs.length ≤ ys.length := Nat.le_of_eq hl
    have HL : Hid (xs.length = ys.length) := hl
    clear hl
    go_enter Try.func14, Try.ntmps14
    go_wp2
    go_loopg [13] xs.length (fun kx s13 w' => ∃ (k : Nat), s13 = .int .i64 k ∧ k ≤ xs.length ∧ xs.length - k ≤ kx ∧ Hid (xs.take k = ys.take k) ∧ Aside0 (Below w.heap.size w w'))
    case atStart => exact ⟨0, rfl, by omega, by omega, rfl, ⟨Below.refl _ _⟩⟩
    case round =>
      obtain ⟨k, rfl, hk, hkx, HT, HB⟩ := hrel
      by_cases hlt : k < xs.length
      · have hltz : (k : Int) < (xs.length : Int) := by omega
        have hltz2 : (k : Int) < (ys.length : Int) := by omega
        obtain ⟨ad, rfl, hx⟩ := int_at HR.out k hlt
        obtain ⟨bd, rfl, hy⟩ := int_at HS.out k (by omega)
        replace hx := (HB.out.cell (World.block_lt_of_cell? w _ hx)).trans hx
        replace hy := (HB.out.cell (World.block_lt_of_cell? w _ hy)).trans hy
        have hts : Hid ((xs.take (k + 1) = ys.take (k + 1)) ↔ (xs.take k = ys.take k ∧ rd xs k = rd ys k)) := take_eq_iff_rd HL.out k hlt
        have p0 : (0 : Int) ≤ (k : Int) := by omega
        generalize rd xs (k : Int) = x at hx hts
        generalize rd ys (k : Int) = y at hy hts
        by_cases he : x = y
        · have hez : (x != y) = false := by simp [he]
          have HE : Hid (x = y) := he
          clear he
          go_wp2_with fail
          go_quiet (fail)
          have HB2 : Aside0 (Below w.heap.size w (wr.drewN nq)) := ⟨pw_below_drewN HB.out nq⟩
          clear HB hx hy
          generalize wr.drewN nq = w2 at HB2 ⊢
          go_wp2
          go_roundg (xs.length - (k + 1))
          case measure => omega
          case rel => exact ⟨k + 1, by go_num, by omega, Nat.le_refl _, hts.out.2 ⟨HT.out, HE.out⟩, HB2⟩
        · have hez : (x != y) = true := by simp [he]
          have hne : Hid (decide (xs = ys) = false) := decide_eq_false (fun e => he (hts.out.1 (by rw [e])).2)
          clear he
          go_wp2_with fail
          go_quiet (fail)
          have HB2 : Aside0 (Below w.heap.size w (wr.drewN nq)) := ⟨pw_below_drewN HB.out nq⟩
          clear HB hx hy
          generalize wr.drewN nq = w2 at HB2 ⊢
          go_wp2
          go_ret
          exact ⟨by rw [hne.out]; rfl, HB2.out⟩
      · have hltz : ¬ (k : Int) < (xs.length : Int) := by omega
        have hkl : k = xs.length := by omega
        have heq : Hid (decide (xs = ys) = true) := decide_eq_true (by have := HT.out; rw [hkl, List.take_length, HL.out, List.take_length] at this; exact this)
        clear hkl
        go_wp2
        go_ret
        exact ⟨by rw [heq.out]; rfl, HB.out⟩
  · have hlz : ((xs.length : Int) != (ys.length : Int)) = true := by rw [bne_iff_ne]; omega
    have hne : Hid (decide (xs = ys) = false) := decide_eq_false (fun e => hl (by rw [e]))
    clear hl
    go_enter Try.func14, Try.ntmps14
    go_wp2
    go_ret
    exact ⟨by rw [hne.out]; rfl, Below.refl _ _⟩
end Go.Proofs.Ytdmhhgkplcaejaa
