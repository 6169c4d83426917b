/- huffman.Lengths: arguments that are refused, and fewer than two present symbols. -/
import Derived.Test.YtdmhhgkplcaejaaHP
namespace Go.Proofs.Ytdmhhgkplcaejaa
open Go.RowKit Go.Sort Go.Proofs.YtdmhhgkplcaejaaW.PrintWords

theorem info3 : (Try.prog.info? 3).map (fun i => (i.zero, i.size, i.bytes)) = some (some (.int .i64 0), 1, 8) := by kernel_rfl

/-- The shape of a row of ints of the call's own that was made. -/
theorem int_form {base e n : Nat} {ok : Nat → Prop} {w : World} {v : Value} {xs : List Int} (h : (Kd.int .i64).R e w base ok v xs) (hb : ∃ b, v.ownBlock = some b) (hn : n = xs.length) :
    ∃ g cap, v = .slice (some ⟨g, 0, none⟩) n cap ∧ n ≤ cap ∧ base ≤ g ∧ g < w.heap.size := by
  have ho : w.ownsRow base e 1 v xs.length (encs (Value.int .i64) xs) := Kd.own_of_R h
  obtain ⟨b, hb⟩ := hb
  subst hn
  rcases ho.2 with ⟨rfl, hz⟩ | ⟨g, cap, cur, rfl, hg, hh, hcn, hm, hc, ht⟩
  · simp [Value.ownBlock] at hb
  · exact ⟨g, cap, rfl, hcn, hg, (Array.getElem?_eq_some_iff.1 hh).1⟩

theorem below_alloc' {w W : World} (h : Below w.heap.size w W) (o : Obj) : Below w.heap.size w (W.alloc o) := below_alloc h o

set_option maxHeartbeats 2000000 in
set_option maxRecDepth 100000 in
theorem lengths_refused (A : Option Addr) (c : Nat) (cs : List Int) (limit : Int) (w : World) (hr : Kd.C (Kd.int .i64) w A cs.length cs) (hE : checkOf cs limit ≠ 0) :
    Calls Try.prog 12 #[.slice A cs.length c, .int .i64 limit] w fun e w' => e = .returned (.tuple #[.slice none 0 0, .int .i64 (checkOf cs limit)]) ∧ w = w' := by
  have hck := check_calls A c cs limit w hr hr.2.1
  have hez : (checkOf cs limit != 0) = true := by rw [bne_iff_ne]; exact hE
  generalize checkOf cs limit = E at hck hez
  clear hr hE
  go_enter Try.func12, Try.ntmps12
  go_wp2_with (go_at_call 23; refine hck.mono ?_; rintro e w' ⟨rfl, rfl⟩)
  go_ret2
  exact ⟨rfl, rfl⟩

set_option maxHeartbeats 4000000 in
set_option maxRecDepth 100000 in
theorem lengths_few (A : Option Addr) (c : Nat) (cs : List Int) (limit : Int) (w : World) (hr : Kd.C (Kd.int .i64) w A cs.length cs) (hE : checkOf cs limit = 0) (hf : (leavesOf cs).length < 2) :
    Calls Try.prog 12 #[.slice A cs.length c, .int .i64 limit] w fun e w' => ∃ v, e = .returned (.tuple #[v, .int .i64 0]) ∧ (Kd.int .i64).R 3 w' w.heap.size (fun _ => True) v (lengthsOf cs limit.toNat) ∧ Below w.heap.size w w' := by
  have hck := check_calls A c cs limit w hr hr.2.1
  rw [hE] at hck
  obtain ⟨h1, h2, hn, hb, hp⟩ := check_ok hE
  have HS : Hid (lengthsOf cs limit.toNat = (leavesOf cs).foldl (fun acc x => acc.set x.s.toNat 1) (List.replicate cs.length 0)) := by show _ = _; unfold lengthsOf; rw [if_pos hf]
  have HM : Aside0 (∀ x ∈ leavesOf cs, 0 ≤ x.s ∧ x.s < cs.length) := ⟨fun x hx => by
    obtain ⟨⟨a, b⟩, d⟩ := leavesOf_mem (fun c hc => (hb c hc).2) x hx
    omega⟩
  have HLV : Aside0 (∀ W : World, Below w.heap.size w W → Calls Try.prog 24 #[.slice A cs.length c] W fun e w' => ∃ A2 c2, e = .returned (.slice A2 (leavesOf cs).length c2) ∧ kI.R 48 w' W.heap.size (fun _ => True) (.slice A2 (leavesOf cs).length c2) (leavesOf cs) ∧ Below W.heap.size W w') := ⟨fun W hW => (leavesOf_calls A c cs W (Kd.C_below hr hW) (by omega) (fun x hx => (hb x hx).2)).mono (by
    rintro e w' ⟨v, rfl, ho, hb⟩
    obtain ⟨A2, c2, rfl⟩ := own_slice (flat_own encI_len encI_one (by decide) ho)
    exact ⟨A2, c2, rfl, ho, hb⟩)⟩
  clear hr hE hb hp
  generalize leavesOf cs = ls at *
  have hfz : (ls.length : Int) < 2 := by omega
  go_enter Try.func12, Try.ntmps12
  go_wp2_with (first | (go_at_call 23; refine hck.mono ?_; rintro e w' ⟨rfl, rfl⟩) | ((with_reducible refine gate_dst (N := 25) rfl ?_); refine Kd.R_make (Kd.int .i64) (w0 := w) w.heap.size 3 rfl (N := 25) rfl 22 _ _ rfl (cs.length : Int) rfl rfl Try.underlying22 (.int .i64 0) 8 info3 rfl (by decide) (by omega) (0 : Int) (ok := fun _ => True) (okp := fun _ => True) rfl (fun _ hk => hk) trivial (by omega) (by omega) (Below.refl _ _) (Nat.le_refl _) ?_; intro v1 w1 ho hbw hg hat; obtain ⟨g1, cap1, rfl, hcap1, hg1, hg1s⟩ := int_form (n := cs.length) ho (by obtain ⟨b, hb, _⟩ := hat; exact ⟨b, hb⟩) (by simp); clear hg hat) | (go_at_call 24; refine (HLV.out _ hbw).mono ?_; rintro e w2 ⟨A2, c2, rfl, ho2, hb2⟩))
  have HO1 := Aside0.mk (Kd.R_below ho hb2)
  have HO2 := Aside0.mk ho2
  have HB := Aside0.mk (below_then hbw hbw.size hb2)
  have hg1t : g1 < w2.heap.size := Nat.lt_of_lt_of_le hg1s hb2.size
  have HG1 := Aside0.mk hg1t
  have HG0 := Aside0.mk hg1s
  have HLE : Aside0 (w.heap.size ≤ w1.heap.size) := ⟨hbw.size⟩
  clear ho ho2 hbw hb2 hg1t hg1s hck HLV
  have hz : ((cs.length : Int)).toNat = cs.length := by omega
  rw [hz] at HO1
  clear hz
  go_loopg [33] ls.length (fun kx s33 w' => ∃ (k : Nat), s33 = .int .i64 k ∧ k ≤ ls.length ∧ ls.length - k ≤ kx ∧ Aside0 ((Kd.int .i64).R 3 w' w.heap.size (fun _ => True) (.slice (some ⟨g1, 0, none⟩) cs.length cap1) ((ls.take k).foldl (fun acc x => acc.set x.s.toNat 1) (List.replicate cs.length 0))) ∧ Aside0 (kI.R 48 w' w1.heap.size (fun _ => True) (.slice A2 ls.length c2) ls) ∧ Aside0 (Below w.heap.size w w') ∧ Aside0 (g1 < w'.heap.size))
  case atStart => exact ⟨0, rfl, by omega, by omega, HO1, HO2, HB, HG1⟩
  case round =>
    clear HO1 HO2 HB HG1
    obtain ⟨k, rfl, hk, hkx, HO1, HO2, HB, HG1⟩ := hrel
    by_cases hlt : k < ls.length
    · have hltz : (k : Int) < (ls.length : Int) := by omega
      obtain ⟨g2, cap2, hv2, hcap2, hg2, hg2s, hcell⟩ := kI_form HO2.out (by omega)
      injection hv2 with e1 e2 e3
      subst e1 e3
      obtain ⟨k0, k1, k2, k3⟩ := hcell k hlt
      clear hcell
      have hsn : Hid ((ls.take (k + 1)).foldl (fun acc (x : It) => acc.set x.s.toNat 1) (List.replicate cs.length (0 : Int)) = ((ls.take k).foldl (fun acc x => acc.set x.s.toNat 1) (List.replicate cs.length 0)).set (ls.getD k default).s.toNat 1) := by
        show _ = _
        rw [List.take_succ_eq_append_getElem hlt, List.foldl_append]
        simp [hlt]
      have hm := HM.out (ls.getD k default) (by rw [List.getD_eq_getElem?_getD, List.getElem?_eq_getElem hlt]; exact List.getElem_mem _)
      generalize (ls.getD k default).w = xw at k0
      generalize (ls.getD k default).s = xs at k1 hsn hm
      generalize (ls.getD k default).l = xl at k2
      generalize (ls.getD k default).r = xr at k3
      obtain ⟨m1, m2⟩ := hm
      have hal : ((ls.take k).foldl (fun acc (x : It) => acc.set x.s.toNat 1) (List.replicate cs.length (0 : Int))).length = cs.length := (Kd.R_reads' HO1.out).1.symm
      generalize (ls.take k).foldl (fun acc (x : It) => acc.set x.s.toNat 1) (List.replicate cs.length (0 : Int)) = acc at HO1 hsn hal
      have HO1a := Aside0.mk (Kd.R_alloc HO1.out (.cells #[.int .i64 xw, .int .i64 xs, .int .i64 xl, .int .i64 xr] 48))
      obtain ⟨kc, kf⟩ := Kd.R_celln (0 : Int) HO1a.out xs m1 m2
      have hu48 := Try.underlying48
      go_wp2
      go_roundg (ls.length - (k + 1))
      case measure => omega
      case rel =>
        refine ⟨k + 1, by go_num, by omega, Nat.le_refl _, ⟨by rw [hsn.out]; exact Kd.R_putn HO1a.out xs 1⟩, ⟨?_⟩, ⟨below_set (below_alloc' HB.out _) hg1⟩, ⟨by have := HG1.out; simp; omega⟩⟩
        exact Kd.R_mono (Kd.R_far (Kd.R_bound (Kd.R_alloc HO2.out _)) (p := ⟨g1, xs.toNat, none⟩) (fun k hk => by have := HG0.out; have := hk.2.1; show k ≠ g1; omega) _) (fun _ _ => trivial)
    · have hltz : ¬ (k : Int) < (ls.length : Int) := by omega
      obtain rfl : k = ls.length := by omega
      rw [List.take_length] at HO1
      go_wp2
      first | go_ret2 | ((try simp only [Exit.inBlock, Exit.then]); go_ret2)
      exact ⟨_, rfl, by rw [HS.out]; exact HO1.out, HB.out⟩
end Go.Proofs.Ytdmhhgkplcaejaa
