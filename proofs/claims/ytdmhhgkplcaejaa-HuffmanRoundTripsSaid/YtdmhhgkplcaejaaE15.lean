/- The reference's Low and Pack, walked; Pack's bytes are the writer's. -/
import Derived.Test.YtdmhhgkplcaejaaE9
namespace Go.Proofs.Ytdmhhgkplcaejaa
open Go.RowKit Go.Sort Go.Proofs.YtdmhhgkplcaejaaW.PrintWords

theorem info4 : (Try.prog.info? 4).map (fun i => (i.zero, i.size, i.bytes)) = some (some (.bool false), 1, 1) := by kernel_rfl

theorem bool_at {w : World} {A : Option Addr} {n : Nat} {xs : List Bool} (h : Kd.C Kd.bool w A n xs) (k : Nat) (hk : k < n) : ∃ ad, A = some ad ∧ w.cell? (ad.add k) = some (.bool (xs.getD k false)) := by
  obtain ⟨ad, e, hx⟩ := (Kd.reads_of_C (d := false) (enc := Value.bool) (h1 := fun _ => rfl) h).at_ (k : Int) (by omega) (by omega)
  exact ⟨ad, e, by rw [Int.toNat_natCast] at hx; exact hx⟩

set_option maxHeartbeats 2000000 in
set_option maxRecDepth 100000 in
theorem refLow_calls (v : Int) (n : Nat) (w : World) (hv : 0 ≤ v) (hn : n ≤ 64) :
    Calls Try.prog 33 #[.int .u64 v, .int .i64 n] w fun e w' => ∃ A c, e = .returned (.slice A n c) ∧ Kd.bool.R 4 w' w.heap.size (fun _ => True) (.slice A n c) (low v n) ∧ Below w.heap.size w w' := by
  go_enter Try.func33, Try.ntmps33
  go_wp2
  go_loopg [5, 6] n (fun kx s5 s6 w' => ∃ (j : Nat) (i : Int) (l' : List Bool), s6 = .int .i64 i ∧ i + 1 = j ∧ j ≤ n ∧ j ≤ kx ∧ Aside0 (Kd.bool.R 4 w' w.heap.size (fun _ => True) s5 l') ∧ Aside0 (Below w.heap.size w w') ∧ Hid (l' ++ low v j = low v n))
  case atStart => exact ⟨n, (n : Int) - 1, [], rfl, by omega, Nat.le_refl _, Nat.le_refl _, ⟨Kd.R_nil _ _ _ _ _⟩, ⟨Below.refl _ _⟩, rfl⟩
  case round =>
    obtain ⟨j, i, l', rfl, hij, hj, hjx, HO, HB, HL⟩ := hrel
    have hll : l'.length + j = n := by have := congrArg List.length HL.out; rwa [List.length_append, low_length, low_length] at this
    cases j with
    | zero =>
      obtain rfl : i = -1 := by omega
      have HF : Hid (l' = low v n) := by show _ = _; rw [← HL.out]; simp [low]
      have HLL : Hid (l'.length = n) := by show _ = _; omega
      obtain ⟨A, c, hs⟩ := own_slice (Kd.own_of_R HO.out)
      have hs' : u5 = .slice A l'.length c := hs
      subst hs'
      clear hij hll hs
      go_wp2
      go_ret
      have HO2 := HO.out
      rw [HLL.out, HF.out] at HO2
      exact ⟨A, c, by rw [HLL.out]; rfl, HO2, HB.out⟩
    | succ j =>
      obtain rfl : i = (j : Int) := by omega
      have hj64 : (j : Int) ≤ 64 := by omega
      have hj0 : (0 : Int) ≤ (j : Int) := by omega
      have HL2 : Hid (l' ++ [v / 2 ^ j % 2 == 1] ++ low v j = low v n) := by
        show _ = _
        rw [← HL.out]
        simp [low]
        rfl
      have hlen : l'.length ≤ 64 := by omega
      have hand := u64_and1 (v / 2 ^ j)
      clear hij hll
      go_wp2_with (first | (at_builtin; refine Kd.R_append Kd.bool (w0 := w) w.heap.size ?aG (.tmp 13) (.tmp 20) 61 4 (.bool false) 1 ?aOp Try.underlying61 info4 rfl (by decide) (by omega) u5 l' (v / 2 ^ j % 2 == 1) [.bool (v / 2 ^ j % 2 == 1)] (fun _ => True) (fun _ => False) ?aV ?aX ?aP (fun _ hk => hk.elim) ?aF ?aO ?aB ?aS ?aL ?_; (case aG => rfl); (case aOp => rfl); (case aV => rfl); (case aX => rfl); (case aP => exact rfl); (case aF => exact fun _ _ => trivial); (case aO => exact HO.out); (case aB => exact HB.out); (case aS => exact HB.out.size); (case aL => omega); intro v1 w1 ho hb hg hat; clear hg hat))
      go_roundg j
      case measure => omega
      case rel => exact ⟨j, (j : Int) - 1, _, by go_num, by omega, by omega, Nat.le_refl _, ⟨ho⟩, ⟨hb⟩, HL2⟩

/-- The reference's Pack, k bits on. -/
def packP (l : List Bool) : Nat → List Int
  | 0 => List.replicate ((l.length + 7) / 8) 0
  | k + 1 => if l.getD k false then (packP l k).set (k / 8) (orB (rd (packP l k) (k / 8 : Nat)) (k % 8)) else packP l k
theorem packP_length (l : List Bool) (k : Nat) : (packP l k).length = (l.length + 7) / 8 := by
  induction k with
  | zero => simp [packP]
  | succ k ih => rw [packP]; split <;> simp [ih]
theorem rd_app (a b : List Int) (k : Nat) (h : k < a.length) : rd (a ++ b) k = rd a k := by
  unfold rd
  rw [List.getD_eq_getElem?_getD, List.getElem?_append_left (by simpa using h), List.getD_eq_getElem?_getD]
theorem packP_take (l : List Bool) : ∀ k, k ≤ l.length → packP l k = packS (l.take k) ++ List.replicate ((l.length + 7) / 8 - (k + 7) / 8) 0
  | 0, _ => by simp [packP, packS, packF]
  | k + 1, hk => by
    have ih := packP_take l k (by omega)
    have hok := packS_ok (l.take k)
    have hl : (l.take k).length = k := by rw [List.length_take]; omega
    rw [hl] at hok
    obtain ⟨h1, h2⟩ := roomB_ok hok
    have hroom : packP l k = roomB (packS (l.take k)) k ++ List.replicate ((l.length + 7) / 8 - (k + 1 + 7) / 8) 0 := by
      rw [ih]
      unfold roomB
      split
      · rename_i h8
        rw [List.append_assoc]
        congr 1
        rw [show (l.length + 7) / 8 - (k + 7) / 8 = ((l.length + 7) / 8 - (k + 1 + 7) / 8) + 1 by omega, List.replicate_succ]
        rfl
      · rename_i h8
        congr 2
        omega
    have hget : l.getD k false = l[k] := by simp [List.getD_eq_getElem?_getD, List.getElem?_eq_getElem (show k < l.length by omega)]
    have hkl : k / 8 < (roomB (packS (l.take k)) k).length := by rw [h2]; omega
    rw [packP, hget, List.take_succ_eq_append_getElem (show k < l.length by omega), packS_snoc, hl, hroom, putB]
    split
    · rw [rd_app _ _ _ hkl, List.set_append_left _ _ hkl]
    · rfl
theorem packP_eq (l : List Bool) : packP l l.length = packS l := by
  rw [packP_take l l.length (Nat.le_refl _), List.take_length, Nat.sub_self]
  simp
theorem packP_ok (l : List Bool) : ∀ k, ∀ b ∈ packP l k, 0 ≤ b ∧ b ≤ 255
  | 0, b, h => by rw [packP] at h; obtain ⟨_, rfl⟩ := List.mem_replicate.1 h; omega
  | k + 1, b, h => by
    rw [packP] at h
    split at h
    · rcases List.mem_or_eq_of_mem_set h with h | rfl
      · exact packP_ok l k b h
      · have h0 : 0 ≤ rd (packP l k) (k / 8 : Nat) ∧ rd (packP l k) (k / 8 : Nat) ≤ 255 := by
          by_cases hk : k / 8 < (packP l k).length
          · exact packP_ok l k _ (rd_mem hk)
          · have : rd (packP l k) (k / 8 : Nat) = 0 := by unfold rd; rw [List.getD_eq_getElem?_getD, List.getElem?_eq_none (by rw [Int.toNat_natCast]; omega)]; rfl
            omega
        exact orB_byte h0.1 h0.2
    · exact packP_ok l k b h
end Go.Proofs.Ytdmhhgkplcaejaa
