/- The stable sort as one function on lists ('isort'), and slices.SortStableFunc's contract in its terms. -/
import Derived.Test.YtdmhhgkplcaejaaStL
import Derived.Test.YtdmhhgkplcaejaaSt5
namespace Go.Proofs.Ytdmhhgkplcaejaa
open Go.Shelf Go.RowKit Go.Lib Go.Sort
variable {β : Type}

/-- x put behind what it is not less than (the list being sorted). -/
def ins1 (lt : β → β → Bool) (x : β) (l : List β) : List β := l.takeWhile (fun y => !lt x y) ++ x :: l.dropWhile (fun y => !lt x y)

/-- The stable sort. -/
def isort (lt : β → β → Bool) (l : List β) : List β := l.foldl (fun acc x => ins1 lt x acc) []

theorem ins1_perm (lt : β → β → Bool) (x : β) (l : List β) : (ins1 lt x l).Perm (l ++ [x]) := by
  unfold ins1
  refine (List.perm_middle (a := x)).trans ?_
  rw [List.takeWhile_append_dropWhile]
  exact (List.perm_append_comm (l₁ := [x]) (l₂ := l))

theorem isort_from_perm (lt : β → β → Bool) (l : List β) : ∀ acc : List β, (l.foldl (fun acc x => ins1 lt x acc) acc).Perm (acc ++ l) := by
  induction l with
  | nil => intro acc; simp
  | cons x l ih =>
    intro acc
    rw [List.foldl_cons]
    refine (ih _).trans ?_
    refine ((ins1_perm lt x acc).append_right l).trans ?_
    simp

theorem isort_perm (lt : β → β → Bool) (l : List β) : (isort lt l).Perm l := by have := isort_from_perm lt l []; rw [List.nil_append] at this; exact this

theorem isort_length (lt : β → β → Bool) (l : List β) : (isort lt l).length = l.length := (isort_perm lt l).length_eq

section
variable {α : Type}

theorem dropWhile_head {p : α → Bool} {l : List α} {y : α} {r : List α} (h : l.dropWhile p = y :: r) : p y = false := by
  induction l with
  | nil => simp at h
  | cons a l ih =>
    rw [List.dropWhile_cons] at h
    split at h
    · exact ih h
    · rename_i hp
      injection h with h1 h2
      subst h1
      simpa using hp

theorem of_mem_takeWhile {p : α → Bool} {l : List α} {y : α} (h : y ∈ l.takeWhile p) : p y = true := by
  induction l with
  | nil => simp at h
  | cons a l ih =>
    rw [List.takeWhile_cons] at h
    split at h
    · rename_i hp
      rcases List.mem_cons.1 h with h | h
      · subst h; exact hp
      · exact ih h
    · simp at h

theorem ins1_pw {lt : α → α → Bool} (hO : SWO lt) (tag : α → Nat) {x : α} {l : List α} (h : l.Pairwise (Lx lt tag)) (hx : ∀ y ∈ l, tag y < tag x) : (ins1 lt x l).Pairwise (Lx lt tag) := by
  unfold ins1
  have hsplit := (List.takeWhile_append_dropWhile (p := fun y => !lt x y) (l := l))
  rw [← hsplit] at h
  have h' := List.pairwise_append.1 h
  refine pw_app h'.1 (List.pairwise_cons.2 ⟨?_, h'.2.1⟩) ?_
  · cases hd : l.dropWhile (fun y => !lt x y) with
    | nil => intro y hy; simp at hy
    | cons f r =>
      have hf := dropWhile_head hd
      have h2 := h'.2.1
      rw [hd] at h2
      exact all_of_head (Lx.trans hO tag) h2 (.inl (by simpa using hf))
  · intro z hz y hy
    rcases List.mem_cons.1 hy with hy | hy
    · subst hy
      have hzp := of_mem_takeWhile hz
      exact .inr ⟨by simpa using hzp, hx z ((List.takeWhile_sublist _).subset hz)⟩
    · exact h'.2.2 z hz y hy

theorem isort_from_pw {lt : α → α → Bool} (hO : SWO lt) (tag : α → Nat) (l : List α) : ∀ acc : List α, acc.Pairwise (Lx lt tag) → l.Pairwise (fun x y => tag x < tag y) → (∀ y ∈ acc, ∀ x ∈ l, tag y < tag x) →
    (l.foldl (fun acc x => ins1 lt x acc) acc).Pairwise (Lx lt tag) := by
  induction l with
  | nil => intro acc h _ _; exact h
  | cons x l ih =>
    intro acc h hl hx
    rw [List.foldl_cons]
    have hl' := List.pairwise_cons.1 hl
    refine ih _ (ins1_pw hO tag h (fun y hy => hx y hy x (by simp))) hl'.2 ?_
    intro y hy z hz
    rcases List.mem_append.1 ((ins1_perm lt x acc).mem_iff.1 hy) with hy | hy
    · exact hx y hy z (by simp [hz])
    · rw [List.mem_singleton] at hy; subst hy; exact hl'.1 z hz

theorem Lx.asymm {lt : α → α → Bool} (hO : SWO lt) {tag : α → Nat} {x y : α} (h1 : Lx lt tag x y) (h2 : Lx lt tag y x) : False := by
  have := Lx.trans hO tag x y x h1 h2
  rcases this with h | ⟨_, h⟩
  · rw [hO.irrefl] at h; exact absurd h (by simp)
  · omega

/-- One list alone is sorted so. -/
theorem Lx.uniq {lt : α → α → Bool} (hO : SWO lt) {tag : α → Nat} {l₁ l₂ : List α} (h1 : l₁.Pairwise (Lx lt tag)) (h2 : l₂.Pairwise (Lx lt tag)) (hp : l₁.Perm l₂) : l₁ = l₂ :=
  List.Perm.eq_of_pairwise (fun a b _ _ hab hba => (Lx.asymm hO hab hba).elim) h1 h2 hp

theorem stab_isort [Inhabited α] {lt : α → α → Bool} (hO : SWO lt) (tag : α → Nat) (d : Array α) (hd : d.toList.Pairwise (fun x y => tag x < tag y)) : (stab lt d).toList = isort lt d.toList := by
  obtain ⟨h1, h2⟩ := stab_list hO tag d hd
  exact Lx.uniq hO h2 (isort_from_pw hO tag _ [] List.Pairwise.nil hd (by simp)) (h1.trans (isort_perm lt _).symm)
end

theorem ins1_map {γ : Type} (f : γ → β) (lt : β → β → Bool) (x : γ) (l : List γ) : (ins1 (fun a b => lt (f a) (f b)) x l).map f = ins1 lt (f x) (l.map f) := by
  unfold ins1
  rw [List.map_append, List.map_cons, List.takeWhile_map, List.dropWhile_map]
  rfl

theorem isort_from_map {γ : Type} (f : γ → β) (lt : β → β → Bool) (l : List γ) : ∀ acc : List γ, (l.foldl (fun acc x => ins1 (fun a b => lt (f a) (f b)) x acc) acc).map f = (l.map f).foldl (fun acc x => ins1 lt x acc) (acc.map f) := by
  induction l with
  | nil => intro acc; rfl
  | cons x l ih => intro acc; rw [List.foldl_cons, List.map_cons, List.foldl_cons, ih, ins1_map]

theorem isort_map {γ : Type} (f : γ → β) (lt : β → β → Bool) (l : List γ) : (isort (fun a b => lt (f a) (f b)) l).map f = isort lt (l.map f) := by
  simpa [isort] using isort_from_map f lt l []

/-! ### Elements with their places as tags -/
theorem zipIdx_pw (l : List β) (k : Nat) : (l.zipIdx k).Pairwise (fun x y => x.2 < y.2) := by
  rw [List.pairwise_iff_getElem]
  intro i j hi hj hij
  simp
  exact hij

theorem stab_zip [Inhabited β] {lt : β → β → Bool} (hO : SWO lt) (d : Array β) :
    ((stab (fun x y : β × Nat => lt x.1 y.1) d.toList.zipIdx.toArray).toList.map Prod.fst) = isort lt d.toList := by
  have hO2 : SWO (fun x y : β × Nat => lt x.1 y.1) := ⟨fun x => hO.irrefl _, fun x y z => hO.trans _ _ _, fun x y z => hO.ntrans _ _ _⟩
  rw [stab_isort hO2 Prod.snd _ (by simpa using zipIdx_pw d.toList 0)]
  rw [isort_map Prod.fst lt]
  simp

theorem flatK_fst [Inhabited β] (enc : β → List Value) (k : Nat) (d : Array (β × Nat)) : flatK (fun p : β × Nat => enc p.1) k d = flatK enc k (d.map Prod.fst) := by
  rcases Nat.eq_zero_or_pos k with rfl | hk
  · simp [flatK]
  unfold flatK
  simp only [Array.size_map]
  apply Array.map_congr_left
  intro t ht
  simp only [Array.mem_range] at ht
  have hlt : t / k < d.size := (Nat.div_lt_iff_lt_mul hk).2 ht
  have e1 : d[t / k]! = d[t / k] := getElem!_pos d _ hlt
  have e2 : (d.map Prod.fst)[t / k]! = d[t / k].1 := by rw [getElem!_pos _ _ (by simpa using hlt)]; simp
  rw [e1, e2]

theorem sortWorldK_fst [Inhabited β] (enc : β → List Value) (k : Nat) (w : World) (blk off m : Nat) (dk : Array (β × Nat)) (os : Array Obj) :
    sortWorldK (fun p : β × Nat => enc p.1) k w blk off m dk os = sortWorldK enc k w blk off m (dk.map Prod.fst) os := by
  unfold sortWorldK putRowK
  rw [flatK_fst]

theorem putCells_fst [Inhabited β] (enc : β → Value) (off : Nat) (d : Array (β × Nat)) (c : Array Value) : putCells (fun p : β × Nat => enc p.1) off d c = putCells enc off (d.map Prod.fst) c := by
  unfold putCells
  apply Array.ext
  · simp
  · intro i h1 h2
    simp only [Array.getElem_mapIdx, Array.size_map]
    split
    · rename_i h
      have hlt : i - off < d.size := by omega
      have e1 : d[i - off]! = d[i - off] := getElem!_pos d _ hlt
      have e2 : (d.map Prod.fst)[i - off]! = d[i - off].1 := by rw [getElem!_pos _ _ (by simpa using hlt)]; simp
      rw [e1, e2]
    · rfl

theorem sortWorld_fst [Inhabited β] (enc : β → Value) (w : World) (blk off m : Nat) (dk : Array (β × Nat)) (os : Array Obj) :
    sortWorld (fun p : β × Nat => enc p.1) w blk off m dk os = sortWorld enc w blk off m (dk.map Prod.fst) os := by
  unfold sortWorld putRow
  rw [show putCells (fun p : β × Nat => enc p.1) off dk = putCells enc off (dk.map Prod.fst) from funext fun c => putCells_fst enc off dk c]

variable {P : Program} {ρ : Ren} [Inhabited β]

/-- slices.SortStableFunc at elements of k cells: the row holds what it held, stably sorted. -/
theorem sortStable_isortK (L : StLay P ρ) (k : Nat) (aE : ∀ w, (isAgg (ρ.t 48)).run P w = .ok true w) (zE : ∀ w, (Go.sizeOf (ρ.t 48)).run P w = .ok k w) (enc : β → List Value) (cf : β → β → Int) (hO : SWO (ltOf cf)) (g : Nat) (cb : Array Value) (blk off cap : Nat) (d0 : Array β) (w0 : World)
    (eg : ∀ args w, (callFunc g args).run P w = .ok (.enter g args) w) (hcmp : CmpLays P g cb enc k cf blk off d0.size w0) (R : RowK enc k w0 blk off d0) (hsz : d0.size < 4611686018427387904 / 4)
    (hins : ∀ (enc' : β × Nat → List Value) (cf' : β × Nat → β × Nat → Int) (d0' : Array (β × Nat)), CmpLays P g cb enc' k cf' blk off d0'.size w0 → RowK enc' k w0 blk off d0' → SWO (ltOf cf') → d0'.size = d0.size → InsK P (ρ.f 56) enc' k cf' g cb blk off cap d0' w0) :
    Calls P (ρ.f 41) #[.slice (some ⟨blk, off, none⟩) d0.size cap, .func (.func g) #[] cb] w0 fun e w' => e = .returned (.tuple #[]) ∧ SWK enc k w0 blk off (isort (ltOf cf) d0.toList).toArray w' := by
  have hcmp' : CmpLays P g cb (fun p : β × Nat => enc p.1) k (fun x y => cf x.1 y.1) blk off d0.size w0 := by
    intro m os dk hs x y
    rw [sortWorldK_fst]
    exact hcmp m os (dk.map Prod.fst) (by simpa using hs) x.1 y.1
  have e0 : (d0.toList.zipIdx.toArray).map Prod.fst = d0 := by simp
  have es : (d0.toList.zipIdx.toArray).size = d0.size := by simp
  have R' : RowK (fun p : β × Nat => enc p.1) k w0 blk off d0.toList.zipIdx.toArray := ⟨fun x => R.hk _, fun x => R.h1 _, by unfold HoldsK; rw [flatK_fst, e0]; exact R.hH, R.hblk⟩
  have hO' : SWO (ltOf (fun x y : β × Nat => cf x.1 y.1)) := ⟨fun x => hO.irrefl _, fun x y z => hO.trans _ _ _, fun x y z => hO.ntrans _ _ _⟩
  have h := sortStable_K L k aE zE (fun p : β × Nat => enc p.1) (fun x y => cf x.1 y.1) hO' g cb blk off cap d0.toList.zipIdx.toArray w0 eg (by rw [es]; exact hcmp') R' (by rw [es]; exact hsz) (hins _ _ _ (by rw [es]; exact hcmp') R' hO' es)
  rw [es] at h
  refine h.mono ?_
  rintro e w' ⟨he, n, os, rfl⟩
  refine ⟨he, n, os, ?_⟩
  rw [sortWorldK_fst]
  congr 1
  apply Array.toList_inj.1
  rw [Array.toList_map]
  exact stab_zip hO d0

/-- slices.SortStableFunc at elements of one cell. -/
theorem sortStable_isort1 (L : StLay P ρ) (aE : ∀ w, (isAgg (ρ.t 48)).run P w = .ok false w) (zE : ∀ w, (Go.sizeOf (ρ.t 48)).run P w = .ok 1 w) (enc : β → Value) (cf : β → β → Int) (hO : SWO (ltOf cf)) (g : Nat) (cb : Array Value) (blk off cap : Nat) (d0 : Array β) (w0 : World)
    (eg : ∀ args w, (callFunc g args).run P w = .ok (.enter g args) w) (hcmp : CmpLays1 P g cb enc cf blk off d0.size w0) (R : Row1 enc w0 blk off d0) (hsz : d0.size < 4611686018427387904 / 4)
    (hins : ∀ (enc' : β × Nat → Value) (cf' : β × Nat → β × Nat → Int) (d0' : Array (β × Nat)), CmpLays1 P g cb enc' cf' blk off d0'.size w0 → Row1 enc' w0 blk off d0' → SWO (ltOf cf') → d0'.size = d0.size → Ins1 P (ρ.f 56) enc' cf' g cb blk off cap d0' w0) :
    Calls P (ρ.f 41) #[.slice (some ⟨blk, off, none⟩) d0.size cap, .func (.func g) #[] cb] w0 fun e w' => e = .returned (.tuple #[]) ∧ SW enc w0 blk off (isort (ltOf cf) d0.toList).toArray w' := by
  have hcmp' : CmpLays1 P g cb (fun p : β × Nat => enc p.1) (fun x y => cf x.1 y.1) blk off d0.size w0 := by
    intro m os dk hs x y
    rw [sortWorld_fst]
    exact hcmp m os (dk.map Prod.fst) (by simpa using hs) x.1 y.1
  have es : (d0.toList.zipIdx.toArray).size = d0.size := by simp
  have R' : Row1 (fun p : β × Nat => enc p.1) w0 blk off d0.toList.zipIdx.toArray := ⟨fun x => R.hO _, by
    intro j hj
    have hj' : j < d0.size := by rw [es] at hj; exact hj
    have := R.hH j hj'
    have e1 : d0.toList.zipIdx.toArray[j]! = (d0[j]'hj', j) := by rw [getElem!_pos d0.toList.zipIdx.toArray j hj]; simp
    have e2 : d0[j]! = d0[j]'hj' := getElem!_pos d0 _ hj'
    rw [e1]
    rw [e2] at this
    exact this, R.hblk⟩
  have hO' : SWO (ltOf (fun x y : β × Nat => cf x.1 y.1)) := ⟨fun x => hO.irrefl _, fun x y z => hO.trans _ _ _, fun x y z => hO.ntrans _ _ _⟩
  have h := sortStable_1 L aE zE (fun p : β × Nat => enc p.1) (fun x y => cf x.1 y.1) hO' g cb blk off cap d0.toList.zipIdx.toArray w0 eg (by rw [es]; exact hcmp') R' (by rw [es]; exact hsz) (hins _ _ _ (by rw [es]; exact hcmp') R' hO' es)
  rw [es] at h
  refine h.mono ?_
  rintro e w' ⟨he, n, os, rfl⟩
  refine ⟨he, n, os, ?_⟩
  rw [sortWorld_fst]
  congr 1
  apply Array.toList_inj.1
  rw [Array.toList_map]
  exact stab_zip hO d0

end Go.Proofs.Ytdmhhgkplcaejaa
