/- huffman.leavesOf: the present symbols, stably sorted by count. -/
import Derived.Test.YtdmhhgkplcaejaaH1
import Derived.Deep.CutRange
import Derived.Deep.LoopGhost
import Derived.Deep.QuietTactic
import Derived.BigQuiet
namespace Go.Proofs.Ytdmhhgkplcaejaa
open Go.Shelf Go.RowKit Go.Lib Go.Sort Go.Proofs.YtdmhhgkplcaejaaW.PrintWords

theorem info48 : (Try.prog.info? 48).map (fun i => (i.zero, i.size, i.bytes)) = some (some (.agg #[.int .i64 0, .int .i64 0, .int .i64 0, .int .i64 0]), 4, 32) := by kernel_rfl

/-- The present symbols of a list, from symbol i on. -/
def present (i : Nat) : List Int → List It
  | [] => []
  | c :: cs => if 0 < c then ⟨c, i, 0, 0⟩ :: present (i + 1) cs else present (i + 1) cs

theorem present_snoc (cs : List Int) (c : Int) : ∀ i, present i (cs ++ [c]) = present i cs ++ if 0 < c then [⟨c, (i + cs.length : Nat), 0, 0⟩] else [] := by
  induction cs with
  | nil => intro i; simp [present]
  | cons d cs ih =>
    intro i
    rw [List.cons_append, present, present, ih]
    split <;> simp [Nat.add_comm, Nat.add_left_comm]
theorem present_length (cs : List Int) : ∀ i, (present i cs).length ≤ cs.length := by
  induction cs with
  | nil => intro i; simp [present]
  | cons d cs ih =>
    intro i
    have := ih (i + 1)
    rw [present]
    split <;> simp <;> omega
theorem present_mem (cs : List Int) : ∀ i x, x ∈ present i cs → x.w ∈ cs ∧ 0 < x.w ∧ (i : Int) ≤ x.s ∧ x.s < i + cs.length := by
  induction cs with
  | nil => intro i x h; simp [present] at h
  | cons d cs ih =>
    intro i x h
    rw [present] at h
    rw [List.length_cons]
    split at h
    · rename_i hd
      rcases List.mem_cons.1 h with h | h
      · subst h; exact ⟨List.mem_cons_self, hd, Int.le_refl _, by show (i : Int) < _; omega⟩
      · obtain ⟨a, b, c, d⟩ := ih (i + 1) x h; exact ⟨List.mem_cons_of_mem _ a, b, by omega, by omega⟩
    · obtain ⟨a, b, c, d⟩ := ih (i + 1) x h; exact ⟨List.mem_cons_of_mem _ a, b, by omega, by omega⟩

/-- huffman.leavesOf. -/
def leavesOf (cs : List Int) : List It := isort ltW (present 0 cs)

theorem take_snoc_rd (xs : List Int) (k : Nat) (h : k < xs.length) : xs.take (k + 1) = xs.take k ++ [rd xs k] := by
  rw [List.take_succ_eq_append_getElem h]
  unfold rd
  simp [h]

theorem int_at {w : World} {ik : IntKind} {A : Option Addr} {n : Nat} {xs : List Int} (h : Kd.C (Kd.int ik) w A n xs) (k : Nat) (hk : k < n) : ∃ ad, A = some ad ∧ w.cell? (ad.add k) = some (.int ik (rd xs k)) := by
  obtain ⟨ad, e, hx⟩ := Kd.at_int h (k : Int) (by omega) (by omega)
  exact ⟨ad, e, by rw [Int.toNat_natCast] at hx; exact hx⟩

set_option maxHeartbeats 1000000 in
set_option maxRecDepth 100000 in
theorem leavesOf_calls (A : Option Addr) (c : Nat) (xs : List Int) (w : World) (hr : Kd.C (Kd.int .i64) w A xs.length xs) (hn : xs.length < 1000000) (hb : ∀ x ∈ xs, x ≤ 4096) :
    Calls Try.prog 24 #[.slice A xs.length c] w fun e w' => ∃ v, e = .returned v ∧ kI.R 48 w' w.heap.size (fun _ => True) v (leavesOf xs) ∧ Below w.heap.size w w' := by
  have HR := Aside0.mk hr
  have HBD := Aside0.mk hb
  clear hr hb
  have hu48 := Try.underlying48
  have e41 : ∀ args w, (callFunc 41 args).run Try.prog w = .ok (.enter 41 args) w := enters_of Try.func41 (by kernel_rfl) rfl
  have e42 : ∀ args w, (callFunc 42 args).run Try.prog w = .ok (.enter 42 args) w := enters_of Try.func42 (by kernel_rfl) rfl
  go_enter Try.func24, Try.ntmps24
  go_wp2
  go_loopg [3, 8] xs.length (fun kx s3 s8 w' => ∃ (k : Nat), s8 = .int .i64 k ∧ k ≤ xs.length ∧ xs.length - k ≤ kx ∧ Aside0 (kI.R 48 w' w.heap.size (fun _ => True) s3 (present 0 (xs.take k))) ∧ Aside0 (Below w.heap.size w w'))
  case atStart => exact ⟨0, rfl, by omega, by omega, ⟨Kd.R_nil _ _ _ _ _⟩, ⟨Below.refl _ _⟩⟩
  case round =>
    obtain ⟨k, rfl, hk, hkx, HO, HB⟩ := hrel
    have hpl := present_length (xs.take k) 0
    have htl : (xs.take k).length ≤ k := List.length_take_le _ _
    by_cases hlt : k < xs.length
    · have hltz : (k : Int) < (xs.length : Int) := by omega
      obtain ⟨ad, rfl, hx⟩ := int_at HR.out k hlt
      replace hx := (HB.out.cell (World.block_lt_of_cell? w _ hx)).trans hx
      have hts := take_snoc_rd xs k hlt
      have hps : Hid (present 0 (xs.take (k + 1)) = present 0 (xs.take k) ++ if 0 < rd xs k then [⟨rd xs k, (k : Nat), 0, 0⟩] else []) := by
        show _ = _
        rw [hts, present_snoc]
        simp [Nat.min_eq_left (Nat.le_of_lt hlt)]
      clear hts
      generalize rd xs (k : Int) = c at hx hps
      by_cases hc : 0 < c
      · have hps2 : Hid (present 0 (xs.take (k + 1)) = present 0 (xs.take k) ++ [⟨c, (k : Nat), 0, 0⟩]) := by show _ = _; rw [hps.out, if_pos hc]
        clear hps
        go_wp2_with (first | (at_builtin; refine Kd.R_append kI (w0 := w) w.heap.size rfl (.tmp 15) (.tmp 19) 45 48 (.agg #[.int .i64 0, .int .i64 0, .int .i64 0, .int .i64 0]) 32 rfl Try.underlying45 info48 rfl (by decide) (by omega) u3 (present 0 (xs.take k)) ⟨c, (k : Nat), 0, 0⟩ [.int .i64 c, .int .i64 k, .int .i64 0, .int .i64 0] (fun _ => True) (fun _ => False) rfl rfl ?aP (fun _ hk => hk.elim) ?aF ?aO ?aB ?aS ?aL ?_; (case aP => exact rfl); (case aF => exact fun _ _ => trivial); (case aO => exact HO.out); (case aB => exact HB.out); (case aS => exact HB.out.size); (case aL => omega); intro v1 w1 ho hb hg hat; rw [← hps2.out] at ho; clear hg hat))
        go_roundg (xs.length - (k + 1))
        case measure => omega
        case rel => exact ⟨k + 1, by go_num, by omega, Nat.le_refl _, ⟨ho⟩, ⟨hb⟩⟩
      · have hps2 : Hid (present 0 (xs.take (k + 1)) = present 0 (xs.take k)) := by show _ = _; rw [hps.out, if_neg hc, List.append_nil]
        clear hps
        go_wp2
        go_roundg (xs.length - (k + 1))
        case measure => omega
        case rel => exact ⟨k + 1, by go_num, by omega, Nat.le_refl _, ⟨by rw [hps2.out]; exact HO.out⟩, HB⟩
    · have hltz : ¬ (k : Int) < (xs.length : Int) := by omega
      obtain rfl : k = xs.length := by omega
      have hsort := sort_items 42 e42 cmp42 HO.out (fun x hx => by
        obtain ⟨a, b, _⟩ := present_mem _ _ _ hx
        have := HBD.out x.w (List.mem_of_mem_take a)
        omega) (by omega)
      rw [List.take_length] at hsort
      have hbase := fun k hk => own_base (flat_own encI_len encI_one (by decide) HO.out) k hk
      clear HO hkx
      go_wp2_with (go_at_call 41; refine hsort.mono ?_; rintro e w1 ⟨rfl, ho, hg⟩)
      go_ret
      exact ⟨_, rfl, ho, pw_below_grown HB.out _ HB.out.size hg hbase⟩

end Go.Proofs.Ytdmhhgkplcaejaa
