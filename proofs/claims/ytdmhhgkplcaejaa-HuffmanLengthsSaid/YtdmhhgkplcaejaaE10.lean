/- The check of each Huffman law: the document's examples. -/
import Derived.Test.YtdmhhgkplcaejaaE9
import Derived.Test.YtdmhhgkplcaejaaH5
namespace Go.Proofs.Ytdmhhgkplcaejaa
open Go.RowKit Go.Sort Go.Proofs.YtdmhhgkplcaejaaW.PrintWords

abbrev LitW (W : World) (xs : List Int) : World := W.alloc (.cells (xs.map (Value.int .i64)).toArray 3)
theorem lit_C (W : World) (xs : List Int) (h : xs.length ≤ 1000) : Kd.C (Kd.int .i64) (LitW W xs) (some ⟨W.heap.size, 0, none⟩) xs.length xs := by
  have h1 := World.ownsRow_lit (base := W.heap.size) (e := 3) (size := 1) W (xs.map (Value.int .i64)).toArray xs.length (Nat.le_refl _) (Nat.le_trans h (by decide)) (by simp)
  have h2 : (Kd.int .i64).R 3 (LitW W xs) W.heap.size (fun _ => True) (.slice (some ⟨W.heap.size, 0, none⟩) xs.length xs.length) xs := Kd.R_of_own (by simpa [encs] using h1) (fun _ _ => trivial)
  exact (Kd.R_reads' h2).2.2

abbrev i4 (a b c d : Int) : Obj := .cells #[.int .i64 a, .int .i64 b, .int .i64 c, .int .i64 d] 3
abbrev i2 (a b : Int) : Obj := .cells #[.int .i64 a, .int .i64 b] 3
theorem lit4_C (W : World) (a b c d : Int) : Kd.C (Kd.int .i64) (W.alloc (i4 a b c d)) (some ⟨W.heap.size, 0, none⟩) 4 [a, b, c, d] := lit_C W [a, b, c, d] (by simp)
theorem lit2_C (W : World) (a b : Int) : Kd.C (Kd.int .i64) (W.alloc (i2 a b)) (some ⟨W.heap.size, 0, none⟩) 2 [a, b] := lit_C W [a, b] (by simp)

theorem len_lit (W : World) (limit : Int) (a b c d : Int) (h0 : checkOf [5, 2, 1, 1] limit = 0) (h1 : lengthsOf [5, 2, 1, 1] limit.toNat = [a, b, c, d]) :
    Calls Try.prog 12 #[.slice (some ⟨W.heap.size, 0, none⟩) 4 4, .int .i64 limit] (W.alloc (i4 5 2 1 1)) fun e w' => ∃ A c', e = .returned (.tuple #[.slice A 4 c', .int .i64 0]) ∧ Kd.C (Kd.int .i64) w' A 4 [a, b, c, d] ∧ Below W.heap.size W w' := by
  have h := lengths_calls (some ⟨W.heap.size, 0, none⟩) 4 [5, 2, 1, 1] limit (W.alloc (i4 5 2 1 1)) (lit4_C W 5 2 1 1)
  rw [h0, if_pos rfl, h1] at h
  refine h.mono ?_
  rintro e w' ⟨v, rfl, ho, hb⟩
  obtain ⟨A, c, rfl⟩ := own_slice (Kd.own_of_R ho)
  exact ⟨A, c, rfl, (Kd.R_reads' ho).2.2, below_then (below_alloc (Below.refl _ _) _) (by rw [World.size_alloc]; omega) hb⟩

theorem same_lit (W : World) (A : Option Addr) (k : Nat) (a b c d : Int) (hr : Kd.C (Kd.int .i64) W A 4 [a, b, c, d]) :
    Calls Try.prog 14 #[.slice A 4 k, .slice (some ⟨W.heap.size, 0, none⟩) 4 4] (W.alloc (i4 a b c d)) fun e w' => e = .returned (.bool true) ∧ Below W.heap.size W w' := by
  have h := sameInts_calls A (some ⟨W.heap.size, 0, none⟩) k 4 [a, b, c, d] [a, b, c, d] (W.alloc (i4 a b c d)) (Kd.C_below hr (below_alloc (Below.refl _ _) _)) (lit4_C W a b c d)
  refine h.mono ?_
  rintro e w' ⟨rfl, hb⟩
  exact ⟨by simp, below_then (below_alloc (Below.refl _ _) _) (by rw [World.size_alloc]; omega) hb⟩

theorem enc_lit (W : World) : Calls Try.prog 17 #[.slice (some ⟨W.heap.size, 0, none⟩) 4 4, .slice (some ⟨W.heap.size + 1, 0, none⟩) 2 2] ((W.alloc (i4 1 2 3 3)).alloc (i2 3 0)) fun e w' =>
    ∃ A c, e = .returned (.tuple #[.slice A 1 c, .int .i64 4, .int .i64 0]) ∧ Kd.C (Kd.int .u8) w' A 1 [224] ∧ Below W.heap.size W w' := by
  have hs := lit2_C (W.alloc (i4 1 2 3 3)) 3 0
  rw [World.size_alloc] at hs
  have h := encode_calls (some ⟨W.heap.size, 0, none⟩) (some ⟨W.heap.size + 1, 0, none⟩) 4 2 [1, 2, 3, 3] [3, 0] ((W.alloc (i4 1 2 3 3)).alloc (i2 3 0)) (Kd.C_below (lit4_C W 1 2 3 3) (below_alloc (Below.refl _ _) _)) hs
  have e0 : encE [1, 2, 3, 3] [3, 0] = 0 := by decide +kernel
  have e1 : encB [1, 2, 3, 3] [3, 0] = [true, true, true, false] := by decide +kernel
  have e2 : packS [true, true, true, false] = [224] := by decide +kernel
  rw [e0, e1, e2] at h
  refine h.mono ?_
  rintro e w' ⟨v, rfl, ho, hb⟩
  obtain ⟨A, c, rfl⟩ := own_slice (Kd.own_of_R ho)
  exact ⟨A, c, rfl, (Kd.R_reads' ho).2.2, below_then (below_then (below_alloc (Below.refl _ _) _) (by rw [World.size_alloc]; omega) (below_alloc (Below.refl _ _) _)) (by rw [World.size_alloc, World.size_alloc]; omega) hb⟩

theorem str224 : strOfNums [224] = { data := #[224] } := by decide +kernel
end Go.Proofs.Ytdmhhgkplcaejaa
