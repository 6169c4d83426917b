/- bitio's writer: put. -/
import Derived.Test.YtdmhhgkplcaejaaE5
import Derived.Laws.Bits128
import Derived.Laws.BitsAllLaws
import Derived.BigRegion
namespace Go.Proofs.Ytdmhhgkplcaejaa
open Go.RowKit Go.Sort Go.Proofs.YtdmhhgkplcaejaaW.PrintWords

theorem i64_and7 (n : Int) : bits .and .i64 n 7 = n % 8 := by
  have h7 : (BitVec.ofInt 64 7).toNat = 2 ^ 3 - 1 := by decide
  have key : (BitVec.ofInt 64 n &&& BitVec.ofInt 64 7).toNat = (n % ((2 ^ 64 : Nat) : Int)).toNat % 2 ^ 3 := by
    rw [BitVec.toNat_and, BitVec.toNat_ofInt, h7, Nat.and_two_pow_sub_one_eq_mod]
  show IntKind.i64.wrap ((BitVec.ofInt 64 n &&& BitVec.ofInt 64 7).toNat : Nat) = n % 8
  rw [key, IntKind.wrap_i64]
  omega
theorem u64_and1 (n : Int) : bits .and .u64 n 1 = n % 2 := by
  have h7 : (BitVec.ofInt 64 1).toNat = 2 ^ 1 - 1 := by decide
  have key : (BitVec.ofInt 64 n &&& BitVec.ofInt 64 1).toNat = (n % ((2 ^ 64 : Nat) : Int)).toNat % 2 ^ 1 := by
    rw [BitVec.toNat_and, BitVec.toNat_ofInt, h7, Nat.and_two_pow_sub_one_eq_mod]
  show IntKind.u64.wrap ((BitVec.ofInt 64 n &&& BitVec.ofInt 64 1).toNat : Nat) = n % 2
  rw [key, IntKind.wrap_u64]
  omega

/-- A byte with a bit set. -/
def orB (y : Int) (r : Nat) : Int := ((y.toNat ||| (128 / 2 ^ r : Nat) : Nat) : Int)
theorem orB_bits {y : Int} {r : Nat} (h0 : 0 ≤ y) (h1 : y ≤ 255) : bits .or .u8 y (128 / 2 ^ r) = orB y r := by
  have h2 : (128 / 2 ^ r : Nat) ≤ 128 := Nat.div_le_self _ _
  have h3 : ((128 : Int) / 2 ^ r) = ((128 / 2 ^ r : Nat) : Int) := by push_cast; rfl
  unfold orB
  rw [h3]
  generalize (128 / 2 ^ r : Nat) = q at h2 ⊢
  rw [u8_or _ _ h0 (by omega) (by omega) (by omega)]
  rfl
theorem orB_byte {y : Int} {r : Nat} (h0 : 0 ≤ y) (h1 : y ≤ 255) : 0 ≤ orB y r ∧ orB y r ≤ 255 := by
  have h2 : (128 / 2 ^ r : Nat) ≤ 128 := Nat.div_le_self _ _
  have : y.toNat ||| (128 / 2 ^ r : Nat) < 2 ^ 8 := Nat.or_lt_two_pow (by omega) (by omega)
  unfold orB
  omega

/-- The bytes at n bits, made ready for one more. -/
def roomB (bs : List Int) (n : Nat) : List Int := if n % 8 = 0 then bs ++ [0] else bs
/-- One more bit. -/
def putB (bs : List Int) (n : Nat) (x : Bool) : List Int :=
  if x then (roomB bs n).set (n / 8) (orB (rd (roomB bs n) (n / 8 : Nat)) (n % 8)) else roomB bs n
def BytesOk (bs : List Int) (n : Nat) : Prop := (∀ b ∈ bs, 0 ≤ b ∧ b ≤ 255) ∧ bs.length = (n + 7) / 8
theorem roomB_ok {bs : List Int} {n : Nat} (h : BytesOk bs n) : (∀ b ∈ roomB bs n, 0 ≤ b ∧ b ≤ 255) ∧ (roomB bs n).length = (n + 8) / 8 := by
  unfold roomB
  split
  · refine ⟨fun b hb => ?_, ?_⟩
    · rcases List.mem_append.1 hb with hb | hb
      · exact h.1 b hb
      · rw [List.mem_singleton] at hb; subst hb; omega
    · rw [List.length_append, h.2, List.length_singleton]; omega
  · exact ⟨h.1, by rw [h.2]; omega⟩
theorem rd_mem {bs : List Int} {k : Nat} (h : k < bs.length) : rd bs k ∈ bs := by rw [rd_nat _ _ h]; exact List.getElem_mem h
theorem putB_ok {bs : List Int} {n : Nat} (h : BytesOk bs n) (x : Bool) : BytesOk (putB bs n x) (n + 1) := by
  obtain ⟨h1, h2⟩ := roomB_ok h
  unfold putB
  split
  · refine ⟨fun b hb => ?_, by rw [List.length_set, h2]⟩
    rcases List.mem_or_eq_of_mem_set hb with hb | rfl
    · exact h1 b hb
    · have := h1 _ (rd_mem (k := n / 8) (by omega))
      exact orB_byte this.1 this.2
  · exact ⟨h1, by rw [h2]⟩

theorem ints_pos {ik : IntKind} {base e : Nat} {ok : Nat → Prop} {w : World} {v : Value} {xs : List Int} (h : (Kd.int ik).R e w base ok v xs) (h0 : 0 < xs.length) :
    ∃ g cap, v = .slice (some ⟨g, 0, none⟩) xs.length cap ∧ xs.length ≤ cap ∧ base ≤ g ∧ g < w.heap.size := by
  have ho : w.ownsRow base e 1 v xs.length (encs (Value.int ik) xs) := Kd.own_of_R h
  rcases ho.2 with ⟨_, hz⟩ | ⟨g, cap, cur, rfl, hg, hh, hcn, hm, hc, ht⟩
  · omega
  · exact ⟨g, cap, rfl, hcn, hg, (Array.getElem?_eq_some_iff.1 hh).1⟩

/-- The stream at block p: bytes, and the number of bits. -/
def Str (w0 : World) (p base n : Nat) (bs : List Int) (w : World) : Prop :=
  ∃ A c, w.heap[p]? = some (.cells #[.slice A bs.length c, .int .i64 n] 79 (0, 0)) ∧ (Kd.int .u8).R 5 w base (fun _ => True) (.slice A bs.length c) bs ∧ Below base w0 w

theorem Str.drew {w0 : World} {p base n : Nat} {bs : List Int} {w : World} (h : Str w0 p base n bs w) : Str w0 p base n bs w.drew := by
  obtain ⟨A, c, h1, h2, h3⟩ := h
  exact ⟨A, c, h1, Kd.R_below h2 (Below.refl _ _).drew, h3.drew⟩

set_option maxHeartbeats 4000000 in
set_option maxRecDepth 100000 in
theorem put_calls (p : Nat) (n : Nat) (x : Int) (bs : List Int) (w0 w : World) (base : Nat) (hn : n < 1000000000) (hbp : base ≤ p)
    (hS : Str w0 p base n bs w) (hok : BytesOk bs n) (hbw : base ≤ w.heap.size) :
    Calls Try.prog 54 #[.pointer (some ⟨p, 0, none⟩), .int .u64 x] w fun e w' => e = .returned (.tuple #[]) ∧ Str w0 p base (n + 1) (putB bs n (decide (x % 2 = 1))) w' := by
  obtain ⟨A, c, hp, hv, hB⟩ := hS
  have HR12 := Aside0.mk (roomB_ok hok)
  have hc0 : w.cell? ⟨p, 0, none⟩ = some (.slice A bs.length c) := blk_cell hp 0
  have hc1 : w.cell? ⟨p, 1, none⟩ = some (.int .i64 n) := blk_cell hp 1
  have hbl : bs.length < 1000000000 := by have := hok.2; omega
  have hand7 := i64_and7 n
  have hand1 := u64_and1 x
  have HP := Aside0.mk hp
  have HNE := Aside0.mk (own_ne (Kd.own_of_R hv) hp (by decide))
  have HV := Aside0.mk hv
  clear hok hp hv
  go_enter Try.func54, Try.ntmps54
  go_upto_if 9 with (fail)
  go_cut [] from 4 to 18 (fun w1 => Aside0 (Str w0 p base n (roomB bs n) w1) ∧ w.heap.size ≤ w1.heap.size)
  case first =>
    by_cases h8 : n % 8 = 0
    · have hR : ((n : Int) % 8 == 0) = true := by rw [beq_iff_eq]; omega
      have hroom : Hid (roomB bs n = bs ++ [0]) := by show _ = _; unfold roomB; rw [if_pos h8]
      clear h8
      go_wp2_with (first | (at_builtin; refine Kd.R_append (Kd.int .u8) (w0 := w0) base ?aG (.tmp 14) (.tmp 15) 32 5 (.int .u8 0) 1 ?aOp Try.underlying32 info5 rfl (by decide) (by omega) (.slice A bs.length c) bs (0 : Int) [.int .u8 0] (fun _ => True) (fun _ => False) ?aV ?aX ?aP (fun _ hk => hk.elim) ?aF ?aO ?aB ?aS ?aL ?_; (case aG => rfl); (case aOp => rfl); (case aV => rfl); (case aX => rfl); (case aF => exact fun _ _ => trivial); (case aO => exact HV.out); (case aB => exact hB); (case aS => exact hbw); (case aL => omega); (case aP => exact rfl); intro v1 w2 ho hb hg hat; rw [← hroom.out] at ho; obtain ⟨A1, c1, rfl⟩ := own_slice (Kd.own_of_R ho); have HP1 := Aside0.mk (blk_grown HP.out hg HNE.out); have hc0' : w2.cell? ⟨p, 0, none⟩ = some (.slice A bs.length c) := blk_cell HP1.out 0; have hf0' : w2.frozen? ⟨p, 0, none⟩ = false := blk_frozen HP1.out 0; have HO1 := Aside0.mk ho; have HB1 := Aside0.mk hb; have HZ1 := hg.size; clear hat hb ho hg))
      go_meet
      case rel =>
        refine ⟨⟨A1, c1, blk_set HP1.out 0 _, Kd.R_set HO1.out HP1.out (by decide) _ _, HB1.out.setCell hbp _⟩, ?_⟩
        rw [World.size_setCell]
        exact HZ1
    · have hR : ((n : Int) % 8 == 0) = false := by rw [beq_eq_false_iff_ne]; omega
      have hroom : Hid (roomB bs n = bs) := by show _ = _; unfold roomB; rw [if_neg h8]
      clear h8
      go_wp2
      go_meet
      case rel => exact ⟨⟨A, c, by rw [hroom.out]; exact HP.out, by rw [hroom.out]; exact HV.out, hB⟩, Nat.le_refl _⟩
  case rest =>
    obtain ⟨HS1, hsz⟩ := hcut
    clear hc0 hc1 HP HNE HV hB
    obtain ⟨A1, c1, hp1, hv1, hB1⟩ := HS1.out
    obtain ⟨g1, c1', hs1, hc1, hg1, hgs1⟩ := ints_pos hv1 (by have := HR12.out.2; omega)
    injection hs1 with q1 q2 q3
    subst q1 q3
    clear q2 HS1
    have hd0 : wc.cell? ⟨p, 0, none⟩ = some (.slice (some ⟨g1, 0, none⟩) (roomB bs n).length c1) := blk_cell hp1 0
    have hd1 : wc.cell? ⟨p, 1, none⟩ = some (.int .i64 n) := blk_cell hp1 1
    have hi0 : (0 : Int) ≤ (n : Int) / 8 := by omega
    have hi1 : (n : Int) / 8 < ((roomB bs n).length : Int) := by have := HR12.out.2; omega
    obtain ⟨kc, kf⟩ := Kd.R_celln (0 : Int) hv1 ((n : Int) / 8) hi0 hi1
    change wc.cell? _ = some (.int .u8 (rd (roomB bs n) ((n : Int) / 8))) at kc
    have hby := HR12.out.1 (rd (roomB bs n) (n / 8 : Nat)) (rd_mem (by have := HR12.out.2; omega))
    have hne1 := own_ne (Kd.own_of_R hv1) hp1 (by decide)
    have hgp : g1 ≠ p := fun e => hne1 (by rw [← e]; rfl)
    have hid : ((n / 8 : Nat) : Int) = (n : Int) / 8 := by omega
    rw [hid] at hby
    have HPUT : Hid (putB bs n true = (roomB bs n).set ((n : Int) / 8).toNat (orB (rd (roomB bs n) ((n : Int) / 8)) (n % 8))) := by
      show _ = _
      unfold putB
      rw [if_pos rfl, hid, ← hid, Int.toNat_natCast]
    have HPUF : Hid (putB bs n false = roomB bs n) := rfl
    have hR0 : 0 ≤ (n : Int) % 8 := by omega
    have hR1 : (n : Int) % 8 ≤ 8 := by omega
    have hRn : ((n : Int) % 8).toNat = n % 8 := by omega
    have hor : bits .or .u8 (rd (roomB bs n) ((n : Int) / 8)) (128 / 2 ^ ((n : Int) % 8).toNat) = orB (rd (roomB bs n) ((n : Int) / 8)) (n % 8) := by rw [hRn]; exact orB_bits hby.1 hby.2
    have HP1 := Aside0.mk hp1
    have HV1 := Aside0.mk hv1
    clear hp1 hv1 hne1 HR12 hid hRn hby
    generalize rd (roomB bs n) ((n : Int) / 8) = y at kc hor HPUT
    generalize orB y (n % 8) = z at hor HPUT
    go_upto_if 21 with (fail)
    go_cut [] from 19 to 40 (fun w2 => Aside0 (Str w0 p base n (putB bs n (decide (x % 2 = 1))) w2) ∧ w.heap.size ≤ w2.heap.size)
    case first =>
      by_cases hx2 : x % 2 = 1
      · have hX : (x % 2 == 1) = true := by rw [beq_iff_eq]; exact hx2
        have HD : Hid (decide (x % 2 = 1) = true) := by show _ = _; exact decide_eq_true hx2
        clear hx2
        have hpl : Hid ((putB bs n true).length = (roomB bs n).length) := by show _ = _; rw [HPUT.out, List.length_set]
        go_wp2
        go_region
        all_goals go_wp2
        all_goals go_meet
        all_goals (case rel => exact ⟨⟨Str.drew ⟨_, _, by rw [HD.out, hpl.out]; exact blk_far HP1.out (Ne.symm hgp) _, by rw [HD.out, hpl.out, HPUT.out]; exact Kd.R_putn HV1.out ((n : Int) / 8) z, hB1.setCell hg1 _⟩⟩, by show _ ≤ (wc.setCell _ _).heap.size; rw [World.size_setCell]; exact hsz⟩)
      · have hX : (x % 2 == 1) = false := by rw [beq_eq_false_iff_ne]; exact hx2
        have HD : Hid (decide (x % 2 = 1) = false) := by show _ = _; exact decide_eq_false hx2
        clear hx2
        go_wp2
        go_meet
        case rel => exact ⟨by rw [HD.out, HPUF.out]; exact ⟨_, _, HP1.out, HV1.out, hB1⟩, hsz⟩
    case rest =>
      obtain ⟨HS2, hsz2⟩ := hcut
      clear hd0 hd1 kc kf HP1 HV1 hB1 HPUT HPUF
      obtain ⟨A2, c2, hp2, hv2, hB2⟩ := HS2.out
      have HP2 := Aside0.mk hp2
      have HV2 := Aside0.mk hv2
      have he0 : wc.cell? ⟨p, 1, none⟩ = some (.int .i64 n) := blk_cell hp2 1
      have he1 : wc.frozen? ⟨p, 1, none⟩ = false := blk_frozen hp2 1
      clear hp2 hv2 HS2
      go_wp2
      go_end0
      exact ⟨rfl, A2, c2, blk_set HP2.out 1 _, Kd.R_set HV2.out HP2.out (by decide) _ _, hB2.setCell hbp _⟩
end Go.Proofs.Ytdmhhgkplcaejaa
