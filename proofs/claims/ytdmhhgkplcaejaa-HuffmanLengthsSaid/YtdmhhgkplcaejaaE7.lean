/- bitio's writer: lowest, Bits, NewWriter, Len, Bytes. -/
import Derived.Test.YtdmhhgkplcaejaaE6
import Derived.StillTailTactics
namespace Go.Proofs.Ytdmhhgkplcaejaa
open Go.RowKit Go.Sort Go.Proofs.YtdmhhgkplcaejaaW.PrintWords

/-- The n lowest bits of v, the greatest first. -/
def low (v : Int) : Nat → List Bool
  | 0 => []
  | n + 1 => decide (v / 2 ^ n % 2 = 1) :: low v n
theorem low_length (v : Int) (n : Nat) : (low v n).length = n := by
  induction n with
  | zero => rfl
  | succ n ih => rw [low, List.length_cons, ih]

/-- Bits as bytes. -/
def packF (st : List Int × Nat) (l : List Bool) : List Int × Nat := l.foldl (fun st x => (putB st.1 st.2 x, st.2 + 1)) st
def packS (l : List Bool) : List Int := (packF ([], 0) l).1
theorem packF_snd (l : List Bool) : ∀ st, (packF st l).2 = st.2 + l.length := by
  induction l with
  | nil => intro st; rfl
  | cons x l ih => intro st; rw [show packF st (x :: l) = packF (putB st.1 st.2 x, st.2 + 1) l from rfl, ih, List.length_cons]; simp only; omega
theorem packS_snoc (l : List Bool) (x : Bool) : packS (l ++ [x]) = putB (packS l) l.length x := by
  unfold packS packF
  rw [List.foldl_append]
  have := packF_snd l ([], 0)
  unfold packF at this
  rw [List.foldl_cons, List.foldl_nil, this]
  simp only [Nat.zero_add]
theorem packS_ok (l : List Bool) : BytesOk (packS l) l.length := by
  have : ∀ (k : Nat), k ≤ l.length → BytesOk (packS (l.take k)) k := by
    intro k
    induction k with
    | zero => intro _; exact ⟨fun b hb => by simp [packS, packF] at hb, rfl⟩
    | succ k ih =>
      intro hk
      have h := ih (by omega)
      rw [List.take_succ_eq_append_getElem hk, packS_snoc, List.length_take, Nat.min_eq_left (by omega)]
      exact putB_ok h _
  have h := this l.length (Nat.le_refl _)
  rwa [List.take_length] at h

/-- The writer at block p: its bits. -/
abbrev Wr (w0 : World) (p base : Nat) (l : List Bool) (w : World) : Prop := Str w0 p base l.length (packS l) w

theorem put_bit {p base : Nat} {l : List Bool} {w0 w : World} (x : Int) (hn : l.length < 1000000000) (hbp : base ≤ p) (hS : Wr w0 p base l w) (hbw : base ≤ w.heap.size) :
    Calls Try.prog 54 #[.pointer (some ⟨p, 0, none⟩), .int .u64 x] w fun e w' => e = .returned (.tuple #[]) ∧ Wr w0 p base (l ++ [decide (x % 2 = 1)]) w' := by
  refine (put_calls p l.length x (packS l) w0 w base hn hbp hS (packS_ok l) hbw).mono ?_
  rintro e w' ⟨rfl, h⟩
  refine ⟨rfl, ?_⟩
  show Str _ _ _ _ _ _
  rw [packS_snoc, List.length_append, List.length_singleton]
  exact h

theorem Str.size {w0 : World} {p base n : Nat} {bs : List Int} {w : World} (h : Str w0 p base n bs w) : w0.heap.size ≤ w.heap.size := by
  obtain ⟨A, c, h1, h2, h3⟩ := h
  exact h3.size

set_option maxHeartbeats 2000000 in
set_option maxRecDepth 100000 in
theorem lowest_calls (p base : Nat) (l : List Bool) (w0 w : World) (v : Int) (n : Nat) (hv : 0 ≤ v) (hn : n ≤ 64) (hl : l.length < 900000000) (hbp : base ≤ p) (hb0 : base ≤ w0.heap.size) (hS : Wr w0 p base l w) :
    Calls Try.prog 47 #[.pointer (some ⟨p, 0, none⟩), .int .u64 v, .int .i64 n] w fun e w' => e = .returned (.tuple #[]) ∧ Wr w0 p base (l ++ low v n) w' := by
  have HS := Aside0.mk hS
  clear hS
  have e54 : ∀ args w, (callFunc 54 args).run Try.prog w = .ok (.enter 54 args) w := enters_of Try.func54 (by kernel_rfl) rfl
  go_enter Try.func47, Try.ntmps47
  go_wp2
  go_loopg [6] n (fun kx s6 w' => ∃ (j : Nat) (i : Int) (l' : List Bool), s6 = .int .i64 i ∧ i + 1 = j ∧ j ≤ n ∧ j ≤ kx ∧ Aside0 (Wr w0 p base l' w') ∧ Hid (l' ++ low v j = l ++ low v n))
  case atStart => exact ⟨n, (n : Int) - 1, l, rfl, by omega, Nat.le_refl _, Nat.le_refl _, HS, rfl⟩
  case round =>
    clear HS
    obtain ⟨j, i, l', rfl, hij, hj, hjx, HS, HL⟩ := hrel
    have hll : l'.length + j = l.length + n := by have := congrArg List.length HL.out; rwa [List.length_append, List.length_append, low_length, low_length] at this
    have hl' : l'.length < 1000000000 := by omega
    clear hll
    cases j with
    | zero =>
      obtain rfl : i = -1 := by omega
      clear hij
      have HF : Hid (l' = l ++ low v n) := by show _ = _; rw [← HL.out]; simp [low]
      go_wp2
      go_end0
      exact ⟨rfl, by rw [← HF.out]; exact HS.out⟩
    | succ j =>
      obtain rfl : i = (j : Int) := by omega
      have hbit := put_bit (v / 2 ^ j) hl' hbp HS.out.drew (Nat.le_trans hb0 HS.out.size)
      have hj64 : (j : Int) ≤ 64 := by omega
      have hj0 : (0 : Int) ≤ (j : Int) := by omega
      have HL2 : Hid (l' ++ [decide (v / 2 ^ j % 2 = 1)] ++ low v j = l ++ low v n) := by show _ = _; rw [← HL.out]; simp [low]
      clear hij
      go_wp2
      go_still_tail 6, (by kernel_rfl)
      change wpList _ _ _ _ _ wr.drew
      generalize wr.drew = w2 at hbit ⊢
      go_wp2_with (go_at_call 54; refine hbit.mono ?_; rintro e w3 ⟨rfl, hS3⟩)
      have HS3 := Aside0.mk hS3
      clear hS3 HS HL
      go_roundg j
      case measure => omega
      case rel => exact ⟨j, (j : Int) - 1, _, by go_num, by omega, by omega, Nat.le_refl _, HS3, HL2⟩
end Go.Proofs.Ytdmhhgkplcaejaa
