/- huffman.codesOf walked. -/
import Derived.Test.YtdmhhgkplcaejaaE3
import Derived.Test.YtdmhhgkplcaejaaH7
namespace Go.Proofs.Ytdmhhgkplcaejaa
open Go.RowKit Go.Sort Go.Proofs.YtdmhhgkplcaejaaW.PrintWords

theorem info39 : (Try.prog.info? 39).map (fun i => (i.zero, i.size, i.bytes)) = some (some (.int .u64 0), 1, 8) := by kernel_rfl

theorem ints_form {ik : IntKind} {base e n : Nat} {ok : Nat → Prop} {w : World} {v : Value} {xs : List Int} (h : (Kd.int ik).R e w base ok v xs) (hb : ∃ b, v.ownBlock = some b) (hn : n = xs.length) :
    ∃ g cap, v = .slice (some ⟨g, 0, none⟩) n cap ∧ n ≤ cap ∧ base ≤ g ∧ g < w.heap.size := by
  have ho : w.ownsRow base e 1 v xs.length (encs (Value.int ik) xs) := Kd.own_of_R h
  obtain ⟨b, hb⟩ := hb
  subst hn
  rcases ho.2 with ⟨rfl, hz⟩ | ⟨g, cap, cur, rfl, hg, hh, hcn, hm, hc, ht⟩
  · simp [Value.ownBlock] at hb
  · exact ⟨g, cap, rfl, hcn, hg, (Array.getElem?_eq_some_iff.1 hh).1⟩

theorem int_at' {w : World} {ik : IntKind} {A : Option Addr} {n : Nat} {xs : List Int} (h : Kd.C (Kd.int ik) w A n xs) (x : Int) (h0 : 0 ≤ x) (hx : x < n) : ∃ ad, A = some ad ∧ w.cell? (ad.add x.toNat) = some (.int ik (rd xs x)) := Kd.at_int h x h0 hx

set_option maxHeartbeats 4000000 in
set_option maxRecDepth 100000 in
theorem codesOf_calls (A : Option Addr) (c : Nat) (ls : List Int) (w : World) (hr : Kd.C (Kd.int .i64) w A ls.length ls) (hv : validOf ls = true) :
    Calls Try.prog 28 #[.slice A ls.length c] w fun e w' => ∃ v, e = .returned v ∧ (Kd.int .u64).R 39 w' w.heap.size (fun _ => True) v (codesOf ls) ∧ Below w.heap.size w w' := by
  have HI := Aside0.mk (inOrd hv)
  obtain ⟨hn, hok, _⟩ := valid_ok hv
  have HR := Aside0.mk hr
  have hol := orderOf_length ls
  have HC : Hid (codesOf ls = fillC ls (orderOf ls) (orderOf ls).length) := rfl
  have HOC : Aside0 (∀ W : World, Below w.heap.size w W → Calls Try.prog 45 #[.slice A ls.length c] W fun e w' => ∃ A2 c2, e = .returned (.slice A2 (orderOf ls).length c2) ∧ (Kd.int .i64).R 3 w' W.heap.size (fun _ => True) (.slice A2 (orderOf ls).length c2) (orderOf ls) ∧ Below W.heap.size W w') := ⟨fun W hW => (inOrder_calls A c ls W (Kd.C_below hr hW) (by omega) hok).mono (by
    rintro e w' ⟨v, rfl, ho, hb⟩
    obtain ⟨A2, c2, rfl⟩ := own_slice (Kd.own_of_R ho)
    exact ⟨A2, c2, rfl, ho, hb⟩)⟩
  clear hr hok hv
  generalize codesOf ls = res at HC ⊢
  generalize orderOf ls = l at *
  go_enter Try.func28, Try.ntmps28
  go_wp2_with (first | ((with_reducible refine gate_dst (N := 10) rfl ?_); refine Kd.R_make (Kd.int .u64) (w0 := w) w.heap.size 39 rfl (N := 10) rfl 36 _ _ rfl (ls.length : Int) rfl rfl Try.underlying36 (.int .u64 0) 8 info39 rfl (by decide) (by omega) (0 : Int) (ok := fun _ => True) (okp := fun _ => True) rfl (fun _ hk => hk) trivial (by omega) (by omega) (Below.refl _ _) (Nat.le_refl _) ?_; intro v1 w1 ho hbw hg hat; obtain ⟨g1, cap1, rfl, hcap1, hg1, hg1s⟩ := ints_form (n := ls.length) ho (by obtain ⟨b, hb, _⟩ := hat; exact ⟨b, hb⟩) (by simp); clear hg hat) | (go_at_call 45; refine (HOC.out _ hbw).mono ?_; rintro e w2 ⟨A2, c2, rfl, ho2, hb2⟩))
  have hz : ((ls.length : Int)).toNat = ls.length := by omega
  rw [hz] at ho
  clear hz
  have HB := Aside0.mk (below_then hbw hbw.size hb2)
  have HO1 := Aside0.mk (Kd.R_below ho hb2)
  have HO2 := Aside0.mk ho2
  clear ho ho2 hb2 HOC
  go_loopg [4, 5, 14] l.length (fun kx s4 s5 s14 w' => ∃ (k : Nat) (u b : Int), s14 = .int .i64 k ∧ s4 = .int .u64 u ∧ s5 = .int .i64 b ∧ k ≤ l.length ∧ l.length - k ≤ kx ∧ Hid (k = 0 → u = 0 ∧ b = 0) ∧ Hid (0 < k → u = cd ls l (k - 1) ∧ b = rd ls (rd l (k - 1 : Nat))) ∧ Aside0 ((Kd.int .u64).R 39 w' w.heap.size (fun _ => True) (.slice (some ⟨g1, 0, none⟩) ls.length cap1) (fillC ls l k)) ∧ Aside0 ((Kd.int .i64).R 3 w' w1.heap.size (fun _ => True) (.slice A2 l.length c2) l) ∧ Aside0 (Below w.heap.size w w'))
  case atStart => exact ⟨0, 0, 0, rfl, rfl, rfl, by omega, by omega, fun _ => ⟨rfl, rfl⟩, fun h => absurd h (by omega), HO1, HO2, HB⟩
  case round =>
    clear HO1 HO2 HB
    obtain ⟨k, u, b, rfl, rfl, rfl, hk, hkx, HZ, HP, HO1, HO2, HB⟩ := hrel
    by_cases hlt : k < l.length
    · have hltz : (k : Int) < (l.length : Int) := by omega
      obtain ⟨ad2, rfl, hx⟩ := int_at (Kd.R_reads' HO2.out).2.2 k hlt
      obtain ⟨hx0, hx1⟩ := HI.out.mem k hlt
      obtain ⟨hy0, hy1⟩ := HI.out.pos k hlt
      obtain ⟨ad, rfl, hy⟩ := int_at' HR.out (rd l k) hx0 hx1
      replace hy := (HB.out.cell (World.block_lt_of_cell? w _ hy)).trans hy
      obtain ⟨kc, kf⟩ := Kd.R_celln (0 : Int) HO1.out (rd l k) hx0 hx1
      have hcs := HI.out.cd_small hlt
      have hfill : Hid (fillC ls l (k + 1) = (fillC ls l k).set (rd l k).toNat (cd ls l k : Int)) := rfl
      have HPN : Hid (0 < k + 1 → (cd ls l k : Int) = cd ls l (k + 1 - 1) ∧ rd ls (rd l k) = rd ls (rd l (k + 1 - 1 : Nat))) := fun _ => ⟨rfl, rfl⟩
      have HOB := Aside0.mk (own_typed (Kd.own_of_R HO1.out) g1 rfl)
      by_cases hk0 : 0 < k
      · have hk0z : (0 : Int) < (k : Int) := by omega
        obtain ⟨hu, hb⟩ := HP.out hk0
        have hcp := HI.out.cd_small (k := k - 1) (by omega)
        have hmn := HI.out.mono (k - 1) (by omega)
        have hpp := HI.out.pos (k - 1) (by omega)
        rw [show k - 1 + 1 = k by omega, ← hb] at hmn
        rw [← hb] at hpp
        have hsh : (u + 1) * 2 ^ (rd ls (rd l k) - b).toNat = (cd ls l k : Int) := by
          have e1 : cd ls l k = (cd ls l (k - 1) + 1) * 2 ^ (ln ls l k - ln ls l (k - 1)) := by
            conv => lhs; rw [show k = k - 1 + 1 by omega, cd]
            rw [show k - 1 + 1 = k by omega]
          have e2 : ln ls l k - ln ls l (k - 1) = (rd ls (rd l k) - b).toNat := by
            unfold ln
            rw [← hb]
            omega
          rw [e1, e2, hu]
          push_cast
          rfl
        have hu0 : 0 ≤ u ∧ u + 1 ≤ 32768 := by omega
        have hu1 : 0 ≤ (cd ls l k : Int) ∧ (cd ls l k : Int) ≤ 32768 := by omega
        clear hu hb hcp hcs HP HZ
        generalize (cd ls l k : Int) = u' at *
        generalize rd ls (rd l k) = y at *
        generalize rd l k = x at *
        have hyb0 : 0 ≤ y - b := by omega
        have hyb1 : y - b ≤ 64 := by omega
        go_wp2
        obtain ⟨cellsB, hcB⟩ := HOB.out
        go_roundg (l.length - (k + 1))
        case measure => omega
        case rel => exact ⟨k + 1, u', y, by go_num, rfl, rfl, by omega, Nat.le_refl _, fun h => absurd h (by omega), HPN, ⟨by rw [hfill.out]; exact Kd.R_putn HO1.out x u'⟩, ⟨Kd.R_set HO2.out hcB (by decide) _ _⟩, ⟨below_set HB.out hg1⟩⟩
      · have hk0z : ¬ (0 : Int) < (k : Int) := by omega
        obtain ⟨hu, _⟩ := HZ.out (by omega)
        have hcz : (cd ls l k : Int) = 0 := by rw [show k = 0 by omega]; rfl
        subst hu
        rw [hcz] at hfill HPN
        clear HP HZ hcs hcz
        generalize rd ls (rd l k) = y at *
        generalize rd l k = x at *
        go_wp2
        obtain ⟨cellsB, hcB⟩ := HOB.out
        go_roundg (l.length - (k + 1))
        case measure => omega
        case rel => exact ⟨k + 1, 0, y, by go_num, rfl, rfl, by omega, Nat.le_refl _, fun h => absurd h (by omega), HPN, ⟨by rw [hfill.out]; exact Kd.R_putn HO1.out x 0⟩, ⟨Kd.R_set HO2.out hcB (by decide) _ _⟩, ⟨below_set HB.out hg1⟩⟩
    · have hltz : ¬ (k : Int) < (l.length : Int) := by omega
      obtain rfl : k = l.length := by omega
      go_wp2
      go_ret
      exact ⟨_, rfl, by rw [HC.out]; exact HO1.out, HB.out⟩
end Go.Proofs.Ytdmhhgkplcaejaa
