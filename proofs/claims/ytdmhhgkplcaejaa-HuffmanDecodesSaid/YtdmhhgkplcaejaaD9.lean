/- The reference's Decode. -/
import Derived.Test.YtdmhhgkplcaejaaD8
import Derived.Test.YtdmhhgkplcaejaaE14
namespace Go.Proofs.Ytdmhhgkplcaejaa
open Go.RowKit Go.Sort Go.Proofs.YtdmhhgkplcaejaaW.PrintWords

theorem refDecode_bad (A B : Option Addr) (c d : Nat) (ls bs : List Int) (n cnt : Int) (w : World) (hr : Kd.C (Kd.int .i64) w A ls.length ls) (hl : bs.length < 100000000) (hb : ¬ decArgs ls bs n cnt) :
    Calls Try.prog 22 #[.slice A ls.length c, .slice B bs.length d, .int .i64 n, .int .i64 cnt] w fun e w' => e = .returned (.tuple #[.slice none 0 0, .int .i64 1]) ∧ Below w.heap.size w w' := by
  have hco := refCodes_calls A c ls w hr
  clear hr
  by_cases hv : validOf ls = true
  · rw [if_pos hv, if_pos hv] at hco
    by_cases h1 : n < 0
    · have dh1 : decide (n < 0) = true := decide_eq_true h1
      clear hb
      go_enter Try.func22, Try.ntmps22
      go_wp2_with (first | (go_at_call 20; refine hco.mono ?_; rintro e w1 ⟨v1, rfl, ho1, hb1⟩))
      go_ret2
      exact ⟨rfl, hb1⟩
    have dh1 : decide (n < 0) = false := decide_eq_false h1
    by_cases h2 : 8 * (bs.length : Int) < n
    · have dh2 : decide (8 * (bs.length : Int) < n) = true := decide_eq_true h2
      clear hb
      go_enter Try.func22, Try.ntmps22
      go_wp2_with (first | (go_at_call 20; refine hco.mono ?_; rintro e w1 ⟨v1, rfl, ho1, hb1⟩))
      go_ret2
      exact ⟨rfl, hb1⟩
    have dh2 : decide (8 * (bs.length : Int) < n) = false := decide_eq_false h2
    by_cases h3 : cnt < 0
    · have dh3 : decide (cnt < 0) = true := decide_eq_true h3
      clear hb
      go_enter Try.func22, Try.ntmps22
      go_wp2_with (first | (go_at_call 20; refine hco.mono ?_; rintro e w1 ⟨v1, rfl, ho1, hb1⟩))
      go_ret2
      exact ⟨rfl, hb1⟩
    have dh3 : decide (cnt < 0) = false := decide_eq_false h3
    by_cases h4 : 4096 < cnt
    · have dh4 : decide (4096 < cnt) = true := decide_eq_true h4
      clear hb
      go_enter Try.func22, Try.ntmps22
      go_wp2_with (first | (go_at_call 20; refine hco.mono ?_; rintro e w1 ⟨v1, rfl, ho1, hb1⟩))
      go_ret2
      exact ⟨rfl, hb1⟩
    have dh4 : decide (4096 < cnt) = false := decide_eq_false h4
    exact absurd ⟨hv, by omega, by omega, by omega, by omega⟩ hb
  · rw [if_neg hv, if_neg hv] at hco
    clear hb
    go_enter Try.func22, Try.ntmps22
    go_wp2_with (first | (go_at_call 20; refine hco.mono ?_; rintro e w1 ⟨v1, rfl, ho1, hb1⟩))
    go_ret2
    exact ⟨rfl, hb1⟩

set_option maxHeartbeats 8000000 in
set_option maxRecDepth 100000 in
theorem refDecode_good (A B : Option Addr) (c d : Nat) (ls bs : List Int) (bn cnt : Nat) (w : World) (hr : Kd.C (Kd.int .i64) w A ls.length ls) (hs : Kd.C (Kd.int .u8) w B bs.length bs) (hl : bs.length < 100000000) (hby : ∀ b ∈ bs, 0 ≤ b ∧ b ≤ 255) (hb : decArgs ls bs bn cnt) :
    Calls Try.prog 22 #[.slice A ls.length c, .slice B bs.length d, .int .i64 bn, .int .i64 cnt] w fun e w' => ∃ v, e = .returned (.tuple #[v, .int .i64 (decOf ls (bitsB bs bn) cnt).2]) ∧ (Kd.int .i64).R 3 w' w.heap.size (fun _ => True) v (decOf ls (bitsB bs bn) cnt).1 ∧ Below w.heap.size w w' := by
  obtain ⟨h1, h2, h3, h4, h5⟩ := hb
  have hco := refCodes_calls A c ls w hr
  rw [if_pos h1, if_pos h1] at hco
  have HUN := Aside0.mk (fun W (h : Below w.heap.size w W) => unpack_calls B d bs bn W (Kd.C_below hs h) ⟨hby, by omega, hl⟩)
  have HAB := Aside0.mk (fun (v : Int) (n : Nat) (h : refAlive ls (codesOf ls) v n ls.length = true) => alive_bound h1 h)
  have HFS := Aside0.mk (fun (v : Int) (n i : Nat) => refFind_spec ls (codesOf ls) v n i)
  have HCL := Aside0.mk (codesOf_length ls)
  have hll := (valid_ok h1).1
  have HOK := Aside0.mk (valid_ok h1).2.1
  have HCB := Aside0.mk (fun s hs => codesOf_lt h1 s hs)
  have hLL := bitsB_length bs bn
  have hbn : bn < 1000000000 := by omega
  have HC := Aside0.mk hr
  have hd1 : decide ((bn : Int) < 0) = false := decide_eq_false (by omega)
  have hd2 : decide (8 * (bs.length : Int) < (bn : Int)) = false := decide_eq_false (by omega)
  have hd3 : decide ((cnt : Int) < 0) = false := decide_eq_false (by omega)
  have hd4 : decide (4096 < (cnt : Int)) = false := decide_eq_false (by omega)
  unfold decOf
  clear hr hs h1 h2 h3 hby
  generalize bitsB bs bn = L at *
  have hLb : L.length < 1000000000 := by omega
  clear hLL
  generalize hRES : decL ls (codesOf ls) cnt L [] = RES
  generalize hVAL : (if RES.2.1 = 0 then (if RES.2.2 = [] then (RES.1, (0 : Int)) else ([], 9)) else ([], RES.2.1)) = VAL
  have HVAL := Aside0.mk hVAL
  clear hVAL
  go_enter Try.func22, Try.ntmps22
  go_wp2_with (first | (go_at_call 20; refine hco.mono ?_; rintro e w1 ⟨v1, rfl, ho1, hb1⟩; obtain ⟨A1, c1, rfl⟩ := own_slice (Kd.own_of_R ho1); clear hco) | (go_at_call 40; refine (HUN.out w1 hb1).mono ?_; rintro e w2 ⟨v2, rfl, ho2, hb2⟩; obtain ⟨A2, c2, rfl⟩ := own_slice (Kd.own_of_R ho2)))
  have HC1 := Aside0.mk (Kd.R_reads' (Kd.R_below ho1 hb2)).2.2
  have HC2 := Aside0.mk (Kd.R_reads' ho2).2.2
  have HB2 := Aside0.mk (below_then hb1 hb1.size hb2)
  have hs2 := HB2.out.size
  have HC0 := Aside0.mk (Kd.C_below HC.out HB2.out)
  clear ho1 ho2 hb1 hb2 HUN HC
  go_loopg [13, 14] cnt (fun kx s13 s14 w' => ∃ (P : Nat) (out : List Int), s13 = .int .i64 P ∧ P ≤ L.length ∧ out.length ≤ cnt ∧ cnt - out.length ≤ kx ∧ Aside0 ((Kd.int .i64).R 3 w' w2.heap.size (fun _ => True) s14 out) ∧ Aside0 (Below w2.heap.size w2 w') ∧ Aside0 (decL ls (codesOf ls) (cnt - out.length) (L.drop P) out = RES))
  case atStart => exact ⟨0, [], rfl, by omega, by simp, by simp, ⟨Kd.R_nil _ _ _ _ _⟩, ⟨Below.refl _ _⟩, ⟨hRES⟩⟩
  case round =>
    obtain ⟨P0, out, rfl, hP0, hol, hox, HO, HB, HD⟩ := hrel
    have hso : ∃ A3 c3, u14 = .slice A3 out.length c3 := own_slice (Kd.own_of_R HO.out)
    obtain ⟨A3, c3, rfl⟩ := hso
    by_cases hlt : out.length < cnt
    · have hltz : (out.length : Int) < (cnt : Int) := by omega
      have hD := HD.out
      rw [show cnt - out.length = (cnt - (out.length + 1)) + 1 by omega, decL] at hD
      generalize hSR : symL ls (codesOf ls) (L.drop P0) 0 0 = SR at *
      have HD2 := Aside0.mk hD
      clear hD HD
      have HX0 := Aside0.mk (Kd.C_below HC0.out HB.out)
      have HX1 := Aside0.mk (Kd.C_below HC1.out HB.out)
      have HX2 := Aside0.mk (Kd.C_below HC2.out HB.out)
      go_wp2
      go_loopg [13, 15, 16, 17] (L.length + 1) (fun kx s13 s15 s16 s17 w' => ∃ (P m : Nat) (v f : Int), s13 = .int .i64 P ∧ s15 = .int .u64 v ∧ s16 = .int .i64 m ∧ s17 = .int .i64 f ∧ P ≤ L.length ∧ L.length + 1 - P ≤ kx ∧ wr = w' ∧ 0 ≤ v ∧ v ≤ 32768 ∧ m ≤ 15 ∧ ((f = -1 ∧ Aside0 (symL ls (codesOf ls) (L.drop P) v m = SR)) ∨ (0 ≤ f ∧ Aside0 (SR = (f, 0, L.drop P)))))
      case atStart => exact ⟨P0, 0, 0, -1, rfl, rfl, rfl, rfl, hP0, by omega, rfl, by omega, by omega, by omega, .inl ⟨rfl, ⟨hSR⟩⟩⟩
      case round =>
        obtain ⟨P, m, v, f, rfl, rfl, rfl, rfl, hP, hPx, rfl, hv0, hv1, hm, hcase⟩ := hrel
        rcases hcase with ⟨rfl, HS⟩ | ⟨hf, HS⟩
        · by_cases hPL : P < L.length
          · have hg1 : decide ((L.length : Int) ≤ (P : Int)) = false := decide_eq_false (by omega)
            have hg1' : decide ((P : Int) ≥ (L.length : Int)) = false := decide_eq_false (by omega)
            have hg1n : decide (L.length ≤ P) = false := decide_eq_false (by omega)
            have hPz : (P : Int) < (L.length : Int) := by omega
            obtain ⟨ld, rfl, hx⟩ := bool_at HX2.out P hPL
            have hS := HS.out
            rw [List.drop_eq_getElem_cons hPL] at hS
            rw [List.getD_eq_getElem?_getD, List.getElem?_eq_getElem hPL, Option.getD_some] at hx
            rw [symL_step ls (codesOf ls) _ _ v (if L[P] then 1 else 0) m rfl] at hS
            generalize hx01 : (if L[P] then (1 : Int) else 0) = x at hS
            have hx2 : x = 0 ∨ x = 1 := by rw [← hx01]; split <;> simp
            generalize hv' : 2 * v + x = v' at hS
            have hv0' : 0 ≤ v' := by omega
            have hv1' : v' ≤ 65537 := by omega
            have hvm : v * 2 = 2 * v := by omega
            generalize hn : m + 1 = n at hS
            have hmn : (m : Int) + 1 = (n : Int) := by omega
            have HS2 := Aside0.mk hS
            clear hS HS
            generalize hbb : L[P] = bb at hx hx01
            clear hbb
            go_upto_if 65 with (fail)
            go_cut [15] from 65 to 67 (fun s15 wc => s15 = .int .u64 v' ∧ wr = wc)
            case first =>
              cases bb
              case true =>
                obtain rfl : 1 = x := by simpa using hx01
                clear hx01 hx2
                go_wp2
                go_meet
                case rel => exact ⟨by go_num, rfl⟩
              case false =>
                obtain rfl : 0 = x := by simpa using hx01
                clear hx01 hx2
                go_wp2
                go_meet
                case rel => exact ⟨by go_num, rfl⟩
            case rest =>
              obtain ⟨rfl, rfl⟩ := hcut
              clear hx hx01 hx2 hvm hv'
              go_wp2
              go_loopg [17, 18, 74] ls.length (fun kx s17 s18 s74 w' => ∃ (i : Nat), s74 = .int .i64 i ∧ i ≤ ls.length ∧ ls.length - i ≤ kx ∧ s17 = .int .i64 (refFind ls (codesOf ls) v' n i) ∧ s18 = .bool (refAlive ls (codesOf ls) v' n i) ∧ wr = w')
              case atStart => exact ⟨0, rfl, by omega, by omega, rfl, rfl, rfl⟩
              case round =>
                obtain ⟨i, rfl, hi, hix, rfl, rfl, rfl⟩ := hrel
                by_cases hlt2 : i < ls.length
                · have hltz2 : (i : Int) < (ls.length : Int) := by omega
                  have hltc : (i : Int) < ((codesOf ls).length : Int) := by rw [HCL.out]; exact hltz2
                  obtain ⟨ad, rfl, hx⟩ := int_at HX0.out i hlt2
                  obtain ⟨bd, rfl, hy⟩ := int_at HX1.out i (by rw [HCL.out]; exact hlt2)
                  have hok := HOK.out _ (rd_mem hlt2)
                  have hcb := HCB.out (i : Int) (by omega)
                  have hF : Hid (refFind ls (codesOf ls) v' n (i + 1) = if rd ls i = n ∧ rd (codesOf ls) i = v' then (i : Int) else refFind ls (codesOf ls) v' n i) := rfl
                  have hA : Hid (refAlive ls (codesOf ls) v' n (i + 1) = (refAlive ls (codesOf ls) v' n i || (decide ((n : Int) ≤ rd ls i) && (rd (codesOf ls) i / 2 ^ (rd ls i - n).toNat == v')))) := rfl
                  have p0 : (0 : Int) ≤ (i : Int) := by omega
                  generalize rd ls (i : Int) = k at *
                  generalize rd (codesOf ls) (i : Int) = code at *
                  generalize refFind ls (codesOf ls) v' n i = ff at *
                  generalize refAlive ls (codesOf ls) v' n i = al at *
                  obtain ⟨hc0, _⟩ := hcb
                  obtain ⟨k, rfl⟩ := Int.eq_ofNat_of_zero_le hok.1
                  rw [show ((k : Int) - (n : Int)).toNat = k - n by omega] at hA
                  by_cases e1 : (k : Int) = n
                  · have d1 : ((k : Int) == (n : Int)) = true := by rw [beq_iff_eq]; exact e1
                    have d3 : decide ((n : Int) ≤ (k : Int)) = true := decide_eq_true (by omega)
                    have d3' : decide ((k : Int) ≥ (n : Int)) = true := decide_eq_true (by omega)
                    have hsh : code / 2 ^ (k - n) = code := by rw [show k - n = 0 by omega]; simp
                    have s0 : 0 ≤ (k : Int) - (n : Int) := by omega
                    have s1 : (k : Int) - (n : Int) ≤ 15 := by omega
                    by_cases e2 : code = v'
                    · have d2 : (code == v') = true := by rw [beq_iff_eq]; exact e2
                      cases al
                      case true =>
                        have hF2 : Hid (refFind ls (codesOf ls) v' n (i + 1) = ((i : Nat) : Int)) := by show _ = _; rw [hF.out]; rw [if_pos ⟨e1, e2⟩]
                        have hA2 : Hid (refAlive ls (codesOf ls) v' n (i + 1) = true) := by show _ = _; rw [hA.out]; rw [d3, hsh, d2]; rfl
                        clear hF hA
                        go_wp2
                        go_roundg (ls.length - (i + 1))
                        case measure => omega
                        case rel => exact ⟨i + 1, by go_num, by omega, Nat.le_refl _, by rw [hF2.out], by rw [hA2.out], rfl⟩
                      case false =>
                        have hF2 : Hid (refFind ls (codesOf ls) v' n (i + 1) = ((i : Nat) : Int)) := by show _ = _; rw [hF.out]; rw [if_pos ⟨e1, e2⟩]
                        have hA2 : Hid (refAlive ls (codesOf ls) v' n (i + 1) = true) := by show _ = _; rw [hA.out]; rw [d3, hsh, d2]; rfl
                        clear hF hA
                        go_wp2
                        go_roundg (ls.length - (i + 1))
                        case measure => omega
                        case rel => exact ⟨i + 1, by go_num, by omega, Nat.le_refl _, by rw [hF2.out], by rw [hA2.out], rfl⟩
                    · have d2 : (code == v') = false := by rw [beq_eq_false_iff_ne]; exact e2
                      cases al
                      case true =>
                        have hF2 : Hid (refFind ls (codesOf ls) v' n (i + 1) = ff) := by show _ = _; rw [hF.out]; rw [if_neg (fun h => e2 h.2)]
                        have hA2 : Hid (refAlive ls (codesOf ls) v' n (i + 1) = true) := by show _ = _; rw [hA.out]; rw [d3, hsh, d2]; rfl
                        clear hF hA
                        go_wp2
                        go_roundg (ls.length - (i + 1))
                        case measure => omega
                        case rel => exact ⟨i + 1, by go_num, by omega, Nat.le_refl _, by rw [hF2.out], by rw [hA2.out], rfl⟩
                      case false =>
                        have hF2 : Hid (refFind ls (codesOf ls) v' n (i + 1) = ff) := by show _ = _; rw [hF.out]; rw [if_neg (fun h => e2 h.2)]
                        have hA2 : Hid (refAlive ls (codesOf ls) v' n (i + 1) = false) := by show _ = _; rw [hA.out]; rw [d3, hsh, d2]; rfl
                        clear hF hA
                        go_wp2
                        go_roundg (ls.length - (i + 1))
                        case measure => omega
                        case rel => exact ⟨i + 1, by go_num, by omega, Nat.le_refl _, by rw [hF2.out], by rw [hA2.out], rfl⟩
                  · have d1 : ((k : Int) == (n : Int)) = false := by rw [beq_eq_false_iff_ne]; exact e1
                    cases al
                    case true =>
                      have hF2 : Hid (refFind ls (codesOf ls) v' n (i + 1) = ff) := by show _ = _; rw [hF.out]; rw [if_neg (fun h => e1 h.1)]
                      have hA2 : Hid (refAlive ls (codesOf ls) v' n (i + 1) = true) := by show _ = _; rw [hA.out]; simp
                      clear hF hA
                      go_wp2
                      go_roundg (ls.length - (i + 1))
                      case measure => omega
                      case rel => exact ⟨i + 1, by go_num, by omega, Nat.le_refl _, by rw [hF2.out], by rw [hA2.out], rfl⟩
                    case false =>
                      by_cases e3 : (n : Int) ≤ (k : Int)
                      · have d3 : decide ((n : Int) ≤ (k : Int)) = true := decide_eq_true e3
                        have d3' : decide ((k : Int) ≥ (n : Int)) = true := decide_eq_true e3
                        have s0 : 0 ≤ (k : Int) - (n : Int) := by omega
                        have s1 : (k : Int) - (n : Int) ≤ 15 := by omega
                        generalize hQ : code / 2 ^ (k - n) = Q at *
                        by_cases e4 : Q = v'
                        · have d4 : (Q == v') = true := by rw [beq_iff_eq]; exact e4
                          have hF2 : Hid (refFind ls (codesOf ls) v' n (i + 1) = ff) := by show _ = _; rw [hF.out]; rw [if_neg (fun h => e1 h.1)]
                          have hA2 : Hid (refAlive ls (codesOf ls) v' n (i + 1) = true) := by show _ = _; rw [hA.out]; rw [d3, d4]; rfl
                          clear hF hA
                          go_wp2
                          go_roundg (ls.length - (i + 1))
                          case measure => omega
                          case rel => exact ⟨i + 1, by go_num, by omega, Nat.le_refl _, by rw [hF2.out], by rw [hA2.out], rfl⟩
                        · have d4 : (Q == v') = false := by rw [beq_eq_false_iff_ne]; exact e4
                          have hF2 : Hid (refFind ls (codesOf ls) v' n (i + 1) = ff) := by show _ = _; rw [hF.out]; rw [if_neg (fun h => e1 h.1)]
                          have hA2 : Hid (refAlive ls (codesOf ls) v' n (i + 1) = false) := by show _ = _; rw [hA.out]; rw [d3, d4]; rfl
                          clear hF hA
                          go_wp2
                          go_roundg (ls.length - (i + 1))
                          case measure => omega
                          case rel => exact ⟨i + 1, by go_num, by omega, Nat.le_refl _, by rw [hF2.out], by rw [hA2.out], rfl⟩
                      · have d3 : decide ((n : Int) ≤ (k : Int)) = false := decide_eq_false e3
                        have d3' : decide ((k : Int) ≥ (n : Int)) = false := decide_eq_false e3
                        have hF2 : Hid (refFind ls (codesOf ls) v' n (i + 1) = ff) := by show _ = _; rw [hF.out]; rw [if_neg (fun h => e1 h.1)]
                        have hA2 : Hid (refAlive ls (codesOf ls) v' n (i + 1) = false) := by show _ = _; rw [hA.out]; rw [d3]; rfl
                        clear hF hA
                        go_wp2
                        go_roundg (ls.length - (i + 1))
                        case measure => omega
                        case rel => exact ⟨i + 1, by go_num, by omega, Nat.le_refl _, by rw [hF2.out], by rw [hA2.out], rfl⟩
                · have hltz2 : ¬ (i : Int) < (ls.length : Int) := by omega
                  obtain rfl : i = ls.length := by omega
                  have hS := HS2.out
                  have hal := HAB.out v' n
                  have hfs := HFS.out v' n ls.length
                  generalize refFind ls (codesOf ls) v' n ls.length = ff at *
                  cases hA : refAlive ls (codesOf ls) v' n ls.length with
                  | true =>
                    rw [if_pos hA] at hS
                    obtain ⟨g1, g2, g3⟩ := hal hA
                    have HSX : Aside0 ((ff = -1 ∧ Aside0 (symL ls (codesOf ls) (L.drop (P + 1)) v' n = SR)) ∨ (0 ≤ ff ∧ Aside0 (SR = (ff, 0, L.drop (P + 1))))) := ⟨by
                      rcases hfs with ⟨h, _⟩ | ⟨s, _, h, _⟩
                      · rw [if_neg (by omega)] at hS
                        exact .inl ⟨h, ⟨hS⟩⟩
                      · rw [if_pos (by omega)] at hS
                        exact .inr ⟨by omega, ⟨hS.symm⟩⟩⟩
                    clear hS hal hfs
                    go_wp2
                    go_roundg (L.length + 1 - (P + 1))
                    case measure => omega
                    case rel => exact ⟨P + 1, n, v', ff, by go_num, rfl, rfl, rfl, by omega, Nat.le_refl _, rfl, by omega, by omega, by omega, HSX.out⟩
                  | false =>
                    rw [if_neg (by rw [hA]; simp)] at hS
                    have HS3 := Aside0.mk hS
                    clear hS hal hfs
                    go_wp2
                    go_ret2
                    have hval : VAL = ([], 9) := by
                      rw [← HVAL.out, ← HD2.out, ← HS3.out]
                      simp
                    rw [hval]
                    exact ⟨_, rfl, Kd.R_nil _ _ _ _ _, below_then HB2.out hs2 HB.out⟩
          · have hg1 : decide ((L.length : Int) ≤ (P : Int)) = true := decide_eq_true (by omega)
            have hg1' : decide ((P : Int) ≥ (L.length : Int)) = true := decide_eq_true (by omega)
            have hg1n : decide (L.length ≤ P) = true := decide_eq_true (by omega)
            have hS := HS.out
            rw [List.drop_of_length_le (by omega)] at hS
            have HS3 := Aside0.mk hS
            clear hS HS
            go_wp2
            go_ret2
            have hval : VAL = ([], 10) := by
              rw [← HVAL.out, ← HD2.out, ← HS3.out]
              simp [symL]
            rw [hval]
            exact ⟨_, rfl, Kd.R_nil _ _ _ _ _, below_then HB2.out hs2 HB.out⟩
        · have hfz : decide (f < 0) = false := decide_eq_false (by omega)
          have HD3 : Aside0 (decL ls (codesOf ls) (cnt - (out ++ [f]).length) (L.drop P) (out ++ [f]) = RES) := ⟨by
            have h := HD2.out
            rw [HS.out, if_pos rfl] at h
            rw [List.length_append, List.length_singleton]
            exact h⟩
          go_wp2_with (first | (at_builtin; refine Kd.R_append (Kd.int .i64) (w0 := w2) w2.heap.size ?aG (.tmp 113) (.tmp 115) 22 3 (.int .i64 0) 8 ?aOp Try.underlying22 info3 rfl (by decide) (by omega) (.slice A3 out.length c3) out f [.int .i64 f] (fun _ => True) (fun _ => False) ?aV ?aX ?aP (fun _ hk => hk.elim) ?aF ?aO ?aB ?aS ?aL ?_; (case aG => rfl); (case aOp => rfl); (case aV => rfl); (case aX => rfl); (case aF => exact fun _ _ => trivial); (case aO => exact HO.out); (case aB => exact HB.out); (case aS => exact HB.out.size); (case aL => omega); (case aP => exact rfl); intro v4 w4 ho hb hg hat; clear hg hat))
          go_roundg (cnt - (out.length + 1))
          case measure => omega
          case rel => exact ⟨P, out ++ [f], rfl, hP, by rw [List.length_append, List.length_singleton]; omega, by rw [List.length_append, List.length_singleton]; omega, ⟨ho⟩, ⟨hb⟩, HD3⟩
    · have hltz : ¬ (out.length : Int) < (cnt : Int) := by omega
      have hD := HD.out
      rw [show cnt - out.length = 0 by omega, decL] at hD
      have HD2 := Aside0.mk hD
      clear hD HD
      by_cases hPL : P0 < L.length
      · have hd5 : decide ((P0 : Int) < (L.length : Int)) = true := decide_eq_true (by omega)
        have hnil : L.drop P0 ≠ [] := fun h => by
          have := congrArg List.length h
          rw [List.length_drop] at this
          simp at this
          omega
        have HNIL := Aside0.mk hnil
        clear hnil
        go_wp2
        go_ret2
        have hval : VAL = ([], 9) := by rw [← HVAL.out, ← HD2.out]; simp [HNIL.out]
        rw [hval]
        exact ⟨_, rfl, Kd.R_nil _ _ _ _ _, below_then HB2.out hs2 HB.out⟩
      · have hd5 : decide ((P0 : Int) < (L.length : Int)) = false := decide_eq_false (by omega)
        have hnil : L.drop P0 = [] := List.drop_of_length_le (by omega)
        have HNIL := Aside0.mk hnil
        clear hnil
        go_wp2
        go_ret2
        have hval : VAL = (out, 0) := by rw [← HVAL.out, ← HD2.out]; simp [HNIL.out]
        rw [hval]
        exact ⟨_, rfl, Kd.R_lower HO.out hs2, below_then HB2.out hs2 HB.out⟩

theorem refDecode_calls (A B : Option Addr) (c d : Nat) (ls bs : List Int) (n cnt : Int) (w : World) (hr : Kd.C (Kd.int .i64) w A ls.length ls) (hs : Kd.C (Kd.int .u8) w B bs.length bs) (hl : bs.length < 100000000) (hby : ∀ b ∈ bs, 0 ≤ b ∧ b ≤ 255) :
    Calls Try.prog 22 #[.slice A ls.length c, .slice B bs.length d, .int .i64 n, .int .i64 cnt] w fun e w' => ∃ v, e = .returned (.tuple #[v, .int .i64 (decV ls bs n cnt).2]) ∧ (Kd.int .i64).R 3 w' w.heap.size (fun _ => True) v (decV ls bs n cnt).1 ∧ Below w.heap.size w w' := by
  by_cases hb : decArgs ls bs n cnt
  · obtain ⟨n, rfl⟩ := Int.eq_ofNat_of_zero_le hb.2.1
    obtain ⟨cnt, rfl⟩ := Int.eq_ofNat_of_zero_le hb.2.2.2.1
    have h := refDecode_good A B c d ls bs n cnt w hr hs hl hby hb
    unfold decV
    rw [if_pos hb, Int.toNat_natCast, Int.toNat_natCast]
    exact h
  · refine (refDecode_bad A B c d ls bs n cnt w hr hl hb).mono ?_
    rintro e w' ⟨rfl, hB⟩
    unfold decV
    rw [if_neg hb]
    exact ⟨_, rfl, Kd.R_nil _ _ _ _ _, hB⟩
end Go.Proofs.Ytdmhhgkplcaejaa
