/- huffman's table: begins, symbol. -/
import Derived.Test.YtdmhhgkplcaejaaD5
import Derived.OwnWalk
namespace Go.Proofs.Ytdmhhgkplcaejaa
open Go.RowKit Go.Sort Go.Proofs.YtdmhhgkplcaejaaW.PrintWords

/-- The table of valid lengths. -/
def TabF (ls : List Int) (p base : Nat) (w : World) : Prop := Tab p base (fst' ls (codesOf ls) (orderOf ls)) (cls ls (orderOf ls)) (lgst ls (orderOf ls) (orderOf ls).length) w
theorem TabJ.full {ls : List Int} {p base : Nat} {w : World} (h : TabJ ls p base (orderOf ls).length w) : TabF ls p base w := by
  unfold TabJ at h
  rw [List.take_length] at h
  exact h
theorem TabF.below {ls : List Int} {p base : Nat} {w w1 : World} (h : TabF ls p base w) (hb : Below w.heap.size w w1) : TabF ls p base w1 := by
  obtain ⟨cs, T, h⟩ := h
  exact ⟨cs, T, h.below hb⟩

set_option maxHeartbeats 4000000 in
set_option maxRecDepth 100000 in
theorem begins_calls (p base : Nat) (ls : List Int) (v : Int) (n : Nat) (w : World) (hv : validOf ls = true) (hT : TabF ls p base w) (hn : 0 < n) (hn2 : n ≤ 16) (hv0 : 0 ≤ v) (hv1 : v ≤ 100000) :
    Calls Try.prog 50 #[.pointer (some ⟨p, 0, none⟩), .int .u64 v, .int .i64 n] w fun e w' => e = .returned (.bool (refAlive ls (codesOf ls) v n ls.length)) ∧ w = w' := by
  have HA := Aside0.mk (tab_alive hv v n hn)
  have h15 := lgst_15 hv
  have HFB := Aside0.mk (fun k => fst_bound hv k)
  have hll := (valid_ok hv).1
  have hol := orderOf_length ls
  obtain ⟨cs, T, hT⟩ := hT
  have hcL := hT.cellL
  have HT := Aside0.mk hT
  have HCB : Aside0 (∀ k, (cls ls (orderOf ls) k).length ≤ 1024) := ⟨fun k => by
    have h1 : (cls ls (orderOf ls) k).length ≤ (orderOf ls).length := List.length_filter_le _ _
    omega⟩
  clear hT hv
  generalize lgst ls (orderOf ls) (orderOf ls).length = L at *
  go_enter Try.func50, Try.ntmps50
  go_wp2
  go_loopg [7] 17 (fun kx s7 w' => ∃ (k : Nat), s7 = .int .i64 k ∧ n ≤ k ∧ k ≤ 16 ∧ 17 - k ≤ kx ∧ w = w' ∧ Aside0 (∀ k' : Nat, n ≤ k' → k' < k → ¬ begP ls v n k'))
  case atStart => exact ⟨n, rfl, Nat.le_refl _, hn2, by omega, rfl, ⟨fun k' h1 h2 => by omega⟩⟩
  case round =>
    obtain ⟨k, rfl, hnk, hk16, hkx, rfl, HNO⟩ := hrel
    by_cases hkL : (k : Int) ≤ L
    · have hd : decide ((k : Int) ≤ L) = true := decide_eq_true hkL
      have hk : k < 16 := by omega
      obtain ⟨A1, c1, hTe, hcT, _⟩ := HT.out.cellT hk
      have hcF := HT.out.cellF hk
      have hfb := HFB.out k
      have hcb := HCB.out k
      have HBP : Hid (begP ls v n k ↔ 0 < (cls ls (orderOf ls) k).length ∧ v ≤ (fst' ls (codesOf ls) (orderOf ls) k + ((cls ls (orderOf ls) k).length : Nat) - 1) / 2 ^ (k - n) ∧ fst' ls (codesOf ls) (orderOf ls) k / 2 ^ (k - n) ≤ v) := Iff.rfl
      have HA2 : Hid (begP ls v n k → refAlive ls (codesOf ls) v n ls.length = true) := fun h => HA.out.1 ⟨k, hnk, hkL, h⟩
      have HNO2 : Hid (¬ begP ls v n k → ∀ k' : Nat, n ≤ k' → k' < k + 1 → ¬ begP ls v n k') := fun h k' h1 h2 => by
        rcases Nat.lt_or_ge k' k with h3 | h3
        · exact HNO.out k' h1 h3
        · rw [show k' = k by omega]; exact h
      generalize fst' ls (codesOf ls) (orderOf ls) k = f at *
      generalize (cls ls (orderOf ls) k).length = m at *
      have hs0 : (0 : Int) ≤ (k : Int) - (n : Int) := by omega
      have hs1 : (k : Int) - (n : Int) ≤ 64 := by omega
      have hp := pow_posI (k - n)
      have hq0 : 0 ≤ f / 2 ^ (k - n) := Int.ediv_nonneg hfb.1 (Int.le_of_lt hp)
      have hkz : (0 : Int) ≤ (k : Int) := by omega
      have hkz2 : (k : Int) < 16 := by omega
      clear hp
      by_cases hm : 0 < m
      · have d0 : decide (0 < (m : Int)) = true := decide_eq_true (by omega)
        have hq1 : (k : Int) - (n : Int) = ((k - n : Nat) : Int) := by omega
        generalize hQ1 : (f + (m : Int) - 1) / 2 ^ (k - n) = Q1 at *
        generalize hQ0 : f / 2 ^ (k - n) = Q0 at *
        by_cases g1 : v ≤ Q1
        · have d1 : decide (v ≤ Q1) = true := decide_eq_true g1
          by_cases g2 : Q0 ≤ v
          · have d2 : decide (Q0 ≤ v) = true := decide_eq_true g2
            have HR := HA2.out (HBP.out.2 ⟨hm, g1, g2⟩)
            have HR2 : Hid (refAlive ls (codesOf ls) v n ls.length = true) := HR
            clear HR
            go_wp2
            go_ret
            exact ⟨by rw [HR2.out]; rfl, rfl⟩
          · have d2 : decide (Q0 ≤ v) = false := decide_eq_false g2
            have HN3 := Aside0.mk (HNO2.out (fun h => g2 (HBP.out.1 h).2.2))
            go_wp2
            go_roundg (17 - (k + 1))
            case measure => omega
            case rel => exact ⟨k + 1, by go_num, by omega, by omega, Nat.le_refl _, rfl, HN3⟩
        · have d1 : decide (v ≤ Q1) = false := decide_eq_false g1
          have HN3 := Aside0.mk (HNO2.out (fun h => g1 (HBP.out.1 h).2.1))
          go_wp2
          go_roundg (17 - (k + 1))
          case measure => omega
          case rel => exact ⟨k + 1, by go_num, by omega, by omega, Nat.le_refl _, rfl, HN3⟩
      · have d0 : decide (0 < (m : Int)) = false := decide_eq_false (by omega)
        have HN3 := Aside0.mk (HNO2.out (fun h => hm (HBP.out.1 h).1))
        go_wp2
        go_roundg (17 - (k + 1))
        case measure => omega
        case rel => exact ⟨k + 1, by go_num, by omega, by omega, Nat.le_refl _, rfl, HN3⟩
    · have hd : decide ((k : Int) ≤ L) = false := decide_eq_false hkL
      have HR : Hid (refAlive ls (codesOf ls) v n ls.length = false) := by
        cases h : refAlive ls (codesOf ls) v n ls.length with
        | false => rfl
        | true =>
          obtain ⟨k', h1, h2, h3⟩ := HA.out.2 h
          exact absurd h3 (HNO.out k' h1 (by omega))
      go_wp2
      go_ret
      exact ⟨by rw [HR.out]; rfl, rfl⟩
end Go.Proofs.Ytdmhhgkplcaejaa
