/- bitio's reader: bit, take, Bits, Pos, NewReader. -/
import Derived.Test.YtdmhhgkplcaejaaE8
import Derived.OwnWalk
namespace Go.Proofs.Ytdmhhgkplcaejaa
open Go.RowKit Go.Sort Go.Proofs.YtdmhhgkplcaejaaW.PrintWords

/-- The bit at a position. -/
def bitAt (bs : List Int) (at' : Nat) : Int := rd bs (at' / 8 : Nat) / 2 ^ (7 - at' % 8) % 2
theorem bitAt_01 (bs : List Int) (k : Nat) : 0 ≤ bitAt bs k ∧ bitAt bs k ≤ 1 := by unfold bitAt; omega

set_option maxHeartbeats 1000000 in
theorem bit_calls (p : Nat) (A : Option Addr) (c : Nat) (bs : List Int) (k : Nat) (w : World) (hp : w.cell? ⟨p, 0, none⟩ = some (.slice A bs.length c)) (hC : Kd.C (Kd.int .u8) w A bs.length bs) (hk : k / 8 < bs.length) (hk2 : k < 1000000000) (hb : ∀ b ∈ bs, 0 ≤ b ∧ b ≤ 255) :
    Calls Try.prog 59 #[.pointer (some ⟨p, 0, none⟩), .int .i64 k] w fun e w' => e = .returned (.int .u64 (bitAt bs k)) ∧ w = w' := by
  obtain ⟨ad, rfl, hx⟩ := int_at hC (k / 8) hk
  have hby := hb (rd bs (k / 8 : Nat)) (rd_mem hk)
  have hand7 := i64_and7 k
  have hid : ((k / 8 : Nat) : Int) = (k : Int) / 8 := by omega
  have hi0 : (0 : Int) ≤ (k : Int) / 8 := by omega
  have hi1 : (k : Int) / 8 < (bs.length : Int) := by omega
  have hit : ((k : Int) / 8).toNat = k / 8 := by omega
  have HB : Hid (bitAt bs k = rd bs (k / 8 : Nat) / 2 ^ (7 - (k : Int) % 8).toNat % 2) := by
    show _ = _
    unfold bitAt
    rw [show (7 - (k : Int) % 8).toNat = 7 - k % 8 by omega]
  have hq : 0 ≤ rd bs (k / 8 : Nat) / 2 ^ (7 - (k : Int) % 8).toNat ∧ rd bs (k / 8 : Nat) / 2 ^ (7 - (k : Int) % 8).toNat ≤ 255 := by
    have h2 : (0 : Int) < 2 ^ (7 - (k : Int) % 8).toNat := by
      have : 0 < 2 ^ (7 - (k : Int) % 8).toNat := Nat.two_pow_pos _
      exact_mod_cast this
    exact ⟨Int.ediv_nonneg hby.1 (by omega), by have := Int.ediv_le_self (2 ^ (7 - (k : Int) % 8).toNat) hby.1; omega⟩
  have hs0 : 0 ≤ 7 - (k : Int) % 8 := by omega
  have hs1 : 7 - (k : Int) % 8 ≤ 7 := by omega
  clear hC hid
  generalize rd bs (k / 8 : Nat) = y at *
  generalize hQ : y / 2 ^ (7 - (k : Int) % 8).toNat = q at *
  have hand1 := u64_and1 q
  go_enter Try.func59, Try.ntmps59
  go_wp2
  go_ret
  exact ⟨by rw [HB.out]; rfl, rfl⟩

/-- The reader at block p: n bits in bytes, the position. -/
def Rdr (w0 : World) (p base n pos : Nat) (bs : List Int) (w : World) : Prop :=
  ∃ A c, w.heap[p]? = some (.cells #[.slice A bs.length c, .int .i64 n, .int .i64 pos] 83 (0, 0)) ∧ (Kd.int .u8).R 5 w base (fun _ => True) (.slice A bs.length c) bs ∧ Below base w0 w
/-- The reader's bytes serve. -/
def BufOk (bs : List Int) (n : Nat) : Prop := (∀ b ∈ bs, 0 ≤ b ∧ b ≤ 255) ∧ n ≤ 8 * bs.length ∧ bs.length < 100000000

set_option maxHeartbeats 1000000 in
theorem take_calls (p base n pos : Nat) (bs : List Int) (w0 w : World) (hR : Rdr w0 p base n pos bs w) (hb : BufOk bs n) (hpos : pos ≤ n) :
    Calls Try.prog 55 #[.pointer (some ⟨p, 0, none⟩), .int .i64 pos, .int .i64 1] w fun e w' => e = .returned (.tuple #[.int .u64 (if pos < n then bitAt bs pos else 0), .bool (decide (pos < n))]) ∧ w = w' := by
  obtain ⟨A, c, hp, hv, hB⟩ := hR
  have hc1 : w.cell? ⟨p, 1, none⟩ = some (.int .i64 n) := blk_cell hp 1
  have hc0 : w.cell? ⟨p, 0, none⟩ = some (.slice A bs.length c) := blk_cell hp 0
  obtain ⟨h1, h2, h3⟩ := hb
  have hC := (Kd.R_reads' hv).2.2
  have hs : Calls Try.prog 48 #[.pointer (some ⟨p, 0, none⟩)] w fun e w' => e = .returned (.int .i64 n) ∧ w = w' := by
    clear hC hv hB hp
    go_enter Try.func48, Try.ntmps48
    go_wp2
    go_ret
    exact ⟨rfl, rfl⟩
  by_cases hlt : pos < n
  · have hbit := bit_calls p A c bs pos w hc0 hC (by omega) (by omega) h1
    have hb01 := bitAt_01 bs pos
    simp only [hlt, if_true, decide_true]
    clear hC hv hB hp hc0 hc1
    generalize bitAt bs pos = q at *
    have hor : bits .or .u64 0 q = q := by rcases (by omega : q = 0 ∨ q = 1) with rfl | rfl <;> decide
    have hd : decide ((n : Int) - (pos : Int) < 1) = false := decide_eq_false (by omega)
    go_enter Try.func55, Try.ntmps55
    go_wp2_with (first | (go_at_call 48; refine hs.mono ?_; rintro e w' ⟨rfl, rfl⟩))
    go_loopg [8, 19] 1 (fun kx s8 s19 w' => w = w' ∧ ((s19 = .int .i64 0 ∧ s8 = .int .u64 0 ∧ kx = 1) ∨ (s19 = .int .i64 1 ∧ s8 = .int .u64 q)))
    case atStart => exact ⟨rfl, .inl ⟨rfl, rfl, rfl⟩⟩
    case round =>
      obtain ⟨rfl, ⟨rfl, rfl, hk⟩ | ⟨rfl, rfl⟩⟩ := hrel
      · go_wp2_with (first | (go_at_call 59; refine hbit.mono ?_; rintro e w' ⟨rfl, rfl⟩))
        go_roundg 0
        case measure => omega
        case rel => exact ⟨rfl, .inr ⟨rfl, rfl⟩⟩
      · go_wp2
        go_ret2
        exact ⟨rfl, rfl⟩
  · have hd : decide ((n : Int) - (pos : Int) < 1) = true := decide_eq_true (by omega)
    simp only [hlt, if_false, decide_false]
    clear hC hv hB hp hc0 hc1
    go_enter Try.func55, Try.ntmps55
    go_wp2_with (first | (go_at_call 48; refine hs.mono ?_; rintro e w' ⟨rfl, rfl⟩))
    go_ret2
    exact ⟨rfl, rfl⟩

theorem Rdr.size {w0 : World} {p base n pos : Nat} {bs : List Int} {w : World} (h : Rdr w0 p base n pos bs w) : w0.heap.size ≤ w.heap.size := by
  obtain ⟨A, c, h1, h2, h3⟩ := h
  exact h3.size

theorem Rdr.below {w0 : World} {p base n pos : Nat} {bs : List Int} {w w' : World} (h : Rdr w0 p base n pos bs w) (hb : Below w.heap.size w w') (hbase : base ≤ w.heap.size) : Rdr w0 p base n pos bs w' := by
  obtain ⟨A, c, h1, h2, h3⟩ := h
  exact ⟨A, c, blk_below h1 hb, Kd.R_below h2 hb, below_then h3 hbase hb⟩

set_option maxHeartbeats 1000000 in
theorem readerBits_calls (p base n pos : Nat) (bs : List Int) (w0 w : World) (hbp : base ≤ p) (hR : Rdr w0 p base n pos bs w) (hb : BufOk bs n) (hpos : pos ≤ n) :
    Calls Try.prog 49 #[.pointer (some ⟨p, 0, none⟩), .int .i64 1] w fun e w' => if pos < n then e = .returned (.tuple #[.int .u64 (bitAt bs pos), .int .i64 0]) ∧ Rdr w0 p base n (pos + 1) bs w' ∧ ∃ u, w' = w.setCell ⟨p, 2, none⟩ u else e = .returned (.tuple #[.int .u64 0, .int .i64 10]) ∧ w = w' := by
  have htk := take_calls p base n pos bs w0 w hR hb hpos
  have hR0 := Aside0.mk hR
  obtain ⟨A, c, hp, hv, hB⟩ := hR
  have hc2 : w.cell? ⟨p, 2, none⟩ = some (.int .i64 pos) := blk_cell hp 2
  have hf2 : w.frozen? ⟨p, 2, none⟩ = false := blk_frozen hp 2
  have HP := Aside0.mk hp
  have HV := Aside0.mk hv
  clear hp hv
  have hbb := hb.2
  clear hb
  generalize bitAt bs pos = q at *
  by_cases hlt : pos < n
  · simp only [hlt, if_true, decide_true] at htk ⊢
    go_enter Try.func49, Try.ntmps49
    go_wp2_with (first | (go_at_call 55; refine htk.mono ?_; rintro e w' ⟨rfl, rfl⟩))
    go_ret2
    exact ⟨rfl, ⟨A, c, blk_set HP.out 2 _, Kd.R_set HV.out HP.out (by decide) _ _, hB.setCell hbp _⟩, _, rfl⟩
  · simp only [hlt, if_false, decide_false] at htk ⊢
    go_enter Try.func49, Try.ntmps49
    go_wp2_with (first | (go_at_call 55; refine htk.mono ?_; rintro e w' ⟨rfl, rfl⟩))
    go_ret2
    exact ⟨rfl, rfl⟩

set_option maxHeartbeats 1000000 in
theorem pos_calls (p base n pos : Nat) (bs : List Int) (w0 w : World) (hR : Rdr w0 p base n pos bs w) :
    Calls Try.prog 39 #[.pointer (some ⟨p, 0, none⟩)] w fun e w' => e = .returned (.int .i64 pos) ∧ w = w' := by
  obtain ⟨A, c, hp, hv, hB⟩ := hR
  have hc2 : w.cell? ⟨p, 2, none⟩ = some (.int .i64 pos) := blk_cell hp 2
  clear hp hv hB
  go_enter Try.func39, Try.ntmps39
  go_wp2
  go_ret
  exact ⟨rfl, rfl⟩

theorem size_of_info {P : Program} {t : TypeId} {z : Option Value} {s b : Nat} (h : (P.info? t).map (fun i => (i.zero, i.size, i.bytes)) = some (z, s, b)) : ∃ i, P.info? t = some i ∧ i.size = s := by
  cases hi : P.info? t with
  | none => rw [hi] at h; cases h
  | some i =>
    rw [hi] at h
    simp only [Option.map_some, Option.some.injEq, Prod.mk.injEq] at h
    exact ⟨i, rfl, h.2.1⟩

/-- What NewReader keeps. -/
def bufOf (bs : List Int) (n : Nat) : List Int := bs.take ((n + 7) / 8)

set_option maxHeartbeats 2000000 in
theorem newReader_calls (A : Option Addr) (c : Nat) (bs : List Int) (n : Int) (w : World) (hC : Kd.C (Kd.int .u8) w A bs.length bs) (hc : bs.length ≤ c) (hl : bs.length < 100000000) :
    Calls Try.prog 36 #[.slice A bs.length c, .int .i64 n] w fun e w' => if 0 ≤ n ∧ n ≤ 8 * bs.length then ∃ p, e = .returned (.tuple #[.pointer (some ⟨p, 0, none⟩), .int .i64 0]) ∧ w.heap.size ≤ p ∧ Rdr w p w.heap.size n.toNat 0 (bufOf bs n.toNat) w' else e = .returned (.tuple #[.pointer none, .int .i64 1]) ∧ w = w' := by
  by_cases h0 : n < 0
  · have hd : decide (n < 0) = true := decide_eq_true h0
    have hno : ¬ (0 ≤ n ∧ n ≤ 8 * (bs.length : Int)) := by omega
    simp only [hno, if_false]
    clear hC hno
    go_enter Try.func36, Try.ntmps36
    go_wp2
    go_ret2
    exact ⟨rfl, rfl⟩
  have hd : decide (n < 0) = false := decide_eq_false h0
  obtain ⟨n, rfl⟩ := Int.eq_ofNat_of_zero_le (show 0 ≤ n by omega)
  by_cases h8 : 8 * bs.length < n
  · have hd2 : decide (8 * (bs.length : Int) < (n : Int)) = true := decide_eq_true (by omega)
    have hno : ¬ (0 ≤ (n : Int) ∧ (n : Int) ≤ 8 * (bs.length : Int)) := by omega
    simp only [hno, if_false]
    clear hC hno
    go_enter Try.func36, Try.ntmps36
    go_wp2
    go_ret2
    exact ⟨rfl, rfl⟩
  have hd2 : decide (8 * (bs.length : Int) < (n : Int)) = false := decide_eq_false (by omega)
  have hyes : 0 ≤ (n : Int) ∧ (n : Int) ≤ 8 * (bs.length : Int) := by omega
  simp only [hyes, and_self, if_true, Int.toNat_natCast]
  clear hyes
  obtain ⟨i5, hi5, hz5⟩ := size_of_info info5
  obtain ⟨hsl, _, hcl⟩ := print_take_of (P := Try.prog) (Value.int .u8) (0 : Int) 32 5 .i64 Try.underlying32 hi5 hz5 A c bs (((n + 7) / 8 : Nat) : Int) (by omega) (by omega) hc
  rw [Int.toNat_natCast] at hsl hcl
  have hCT := Aside0.mk (Kd.C_take hC (m := (n + 7) / 8) (by omega))
  have hq : (((n + 7) / 8 : Nat) : Int) = ((n : Int) + 7) / 8 := by omega
  rw [hq] at hsl
  have htl : (bs.take ((n + 7) / 8)).length ≤ bs.length := by rw [List.length_take]; omega
  show Calls _ _ _ _ (fun e w' => ∃ p, e = _ ∧ _ ∧ Rdr w p w.heap.size n 0 (bs.take ((n + 7) / 8)) w')
  clear hC hq
  generalize bs.take ((n + 7) / 8) = xs at *
  go_enter Try.func36, Try.ntmps36
  go_wp2_with (first | (at_builtin; refine Kd.R_append_row (Value.int .u8) (0 : Int) (h1 := fun _ => rfl) (w0 := w) w.heap.size ?aG (.tmp 15) (.tmp 20) 32 5 (.int .u8 0) 1 ?aOp Try.underlying32 info5 rfl (by decide) (.slice (some ⟨w.heap.size, 0, none⟩) 0 0) [] xs A xs.length c (fun _ => True) ?aV ?aX ?aF ?aO ?aR ?aB ?aS ?aL ?_; (case aG => rfl); (case aOp => rfl); (case aV => rfl); (case aX => rfl); (case aF => exact fun _ _ => trivial); (case aO => exact Kd.R_of_own (World.ownsRow_lit (base := w.heap.size) (e := 5) (size := 1) w #[] 0 (Nat.le_refl _) (by decide) (by simp)) (fun _ _ => trivial)); (case aR => exact Kd.C_below hCT.out (below_alloc (Below.refl _ _) _)); (case aB => exact below_alloc (Below.refl _ _) _); (case aS => rw [World.size_alloc]; omega); (case aL => simp; omega); intro v1 w2 ho hb hg hat; clear hg hat; rw [List.nil_append] at ho; obtain ⟨A1, c1, rfl⟩ := own_slice (Kd.own_of_R ho)))
  go_ret2
  exact ⟨_, rfl, hb.size, _, _, blk_new w2 _, Kd.R_below ho (below_alloc (Below.refl _ _) _), below_alloc hb _⟩
end Go.Proofs.Ytdmhhgkplcaejaa
