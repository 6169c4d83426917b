/- slices.SortStableFunc as it lies in this translation: at huffman's items, and at ints. -/
import Derived.Test.YtdmhhgkplcaejaaStU
import Derived.Shelf.SlSortCmp.Insertion1
namespace Go.Proofs.Ytdmhhgkplcaejaa
open Go.Shelf Go.RowKit Go.Lib Go.Sort

def renItem : Ren := ⟨fun | 41 => 41 | n => n, fun | 45 => 45 | n => n, fun n => n⟩
theorem layItem : StLay Try.prog renItem where
  mixed := by kernel_rfl
  f41 := ⟨Try.f41.name, by kernel_rfl, Try.func41.trans (by kernel_rfl)⟩
  f51 := ⟨Try.f51.name, by kernel_rfl, Try.func51.trans (by kernel_rfl)⟩
  f57 := ⟨Try.f57.name, by kernel_rfl, Try.func57.trans (by kernel_rfl)⟩
  f60 := ⟨Try.f60.name, by kernel_rfl, Try.func60.trans (by kernel_rfl)⟩
  f63 := ⟨Try.f63.name, by kernel_rfl, Try.func63.trans (by kernel_rfl)⟩
  e56 := enters_of Try.func56 (by kernel_rfl) rfl
  t0 := Try.underlying0
  a0 := Try.isAgg0
  z0 := Try.sizeOf0
  v0 := Try.zeroValue0
  t3 := Try.underlying3
  a3 := Try.isAgg3
  z3 := Try.sizeOf3
  v3 := Try.zeroValue3
  t4 := Try.underlying4
  a4 := Try.isAgg4
  z4 := Try.sizeOf4
  v4 := Try.zeroValue4
  t30 := Try.underlying30
  a30 := Try.isAgg30
  z30 := Try.sizeOf30
  v30 := Try.zeroValue30
  t45 := Try.underlying45
  a45 := Try.isAgg45
  z45 := Try.sizeOf45
  v45 := Try.zeroValue45
  t73 := Try.underlying73
  a73 := Try.isAgg73
  z73 := Try.sizeOf73
  v73 := Try.zeroValue73

def renInt : Ren := ⟨fun | 41 => 52 | 51 => 58 | 56 => 61 | 57 => 62 | 60 => 64 | 63 => 65 | n => n, fun | 45 => 22 | 48 => 3 | 73 => 93 | n => n, fun n => n⟩
theorem layInt : StLay Try.prog renInt where
  mixed := by kernel_rfl
  f41 := ⟨Try.f52.name, by kernel_rfl, Try.func52.trans (by kernel_rfl)⟩
  f51 := ⟨Try.f58.name, by kernel_rfl, Try.func58.trans (by kernel_rfl)⟩
  f57 := ⟨Try.f62.name, by kernel_rfl, Try.func62.trans (by kernel_rfl)⟩
  f60 := ⟨Try.f64.name, by kernel_rfl, Try.func64.trans (by kernel_rfl)⟩
  f63 := ⟨Try.f65.name, by kernel_rfl, Try.func65.trans (by kernel_rfl)⟩
  e56 := enters_of Try.func61 (by kernel_rfl) rfl
  t0 := Try.underlying0
  a0 := Try.isAgg0
  z0 := Try.sizeOf0
  v0 := Try.zeroValue0
  t3 := Try.underlying3
  a3 := Try.isAgg3
  z3 := Try.sizeOf3
  v3 := Try.zeroValue3
  t4 := Try.underlying4
  a4 := Try.isAgg4
  z4 := Try.sizeOf4
  v4 := Try.zeroValue4
  t30 := Try.underlying30
  a30 := Try.isAgg30
  z30 := Try.sizeOf30
  v30 := Try.zeroValue30
  t45 := Try.underlying22
  a45 := Try.isAgg22
  z45 := Try.sizeOf22
  v45 := Try.zeroValue22
  t73 := Try.underlying93
  a73 := Try.isAgg93
  z73 := Try.sizeOf93
  v73 := Try.zeroValue93

def renInsItem : Ren := ⟨fun | 20 => 56 | n => n, fun | 22 => 45 | 24 => 48 | 25 => 73 | n => n, fun n => n⟩
theorem insItem : SlLaysF0.n20 Try.prog renInsItem where
  mixed := by kernel_rfl
  f20 := ⟨Try.f56.name, by kernel_rfl, Try.func56.trans (by kernel_rfl)⟩
  t0 := Try.underlying0
  a0 := Try.isAgg0
  z0 := Try.sizeOf0
  v0 := Try.zeroValue0
  t3 := Try.underlying3
  a3 := Try.isAgg3
  z3 := Try.sizeOf3
  v3 := Try.zeroValue3
  t4 := Try.underlying4
  a4 := Try.isAgg4
  z4 := Try.sizeOf4
  v4 := Try.zeroValue4
  t22 := Try.underlying45
  a22 := Try.isAgg45
  z22 := Try.sizeOf45
  v22 := Try.zeroValue45
  t25 := Try.underlying73
  a25 := Try.isAgg73
  z25 := Try.sizeOf73
  v25 := Try.zeroValue73

def renInsInt : Ren := ⟨fun | 20 => 61 | n => n, fun | 22 => 22 | 24 => 3 | 25 => 93 | n => n, fun n => n⟩
theorem insInt : SlLaysF.n20 Try.prog renInsInt where
  mixed := by kernel_rfl
  f20 := ⟨Try.f61.name, by kernel_rfl, Try.func61.trans (by kernel_rfl)⟩
  t0 := Try.underlying0
  a0 := Try.isAgg0
  z0 := Try.sizeOf0
  v0 := Try.zeroValue0
  t3 := Try.underlying3
  a3 := Try.isAgg3
  z3 := Try.sizeOf3
  v3 := Try.zeroValue3
  t4 := Try.underlying4
  a4 := Try.isAgg4
  z4 := Try.sizeOf4
  v4 := Try.zeroValue4
  t22 := Try.underlying22
  a22 := Try.isAgg22
  z22 := Try.sizeOf22
  v22 := Try.zeroValue22
  t25 := Try.underlying93
  a25 := Try.isAgg93
  z25 := Try.sizeOf93
  v25 := Try.zeroValue93
  a24 := Try.isAgg3
  z24 := Try.sizeOf3

variable {α : Type} [Inhabited α]
theorem insK_item (enc : α → List Value) (cf : α → α → Int) (hO : SWO (ltOf cf)) (g : Nat) (cb : Array Value) (blk off cap : Nat) (d0 : Array α) (w0 : World)
    (eg : ∀ args w, (callFunc g args).run Try.prog w = .ok (.enter g args) w) (hcmp : CmpLays Try.prog g cb enc 4 cf blk off d0.size w0) (R : RowK enc 4 w0 blk off d0) (hsz : d0.size < 4611686018427387904) : InsK Try.prog 56 enc 4 cf g cb blk off cap d0 w0 := by
  intro a b d w hd S hab hb
  rw [← hd] at hcmp hb ⊢
  have hC : CmpLays Try.prog g cb enc 4 cf blk off d.size w := fun m os dk hdk x y => by
    obtain ⟨n0, os0, rfl⟩ := S
    rw [sortWorldK_on enc 4 w0 blk off n0 m d dk os0 os R.hblk hdk]
    exact hcmp _ _ dk (by omega) x y
  refine (AnyQ.insertionSortCmpFunc insItem 4 Try.isAgg48 Try.sizeOf48 enc R.hk R.h1 cf g cb blk off cap a b d w eg hC (S.holds R.hblk R.hH hd) (S.lt R.hblk) hab hb (by omega)).mono ?_
  rintro e w' ⟨rfl, n, os, rfl⟩
  exact ⟨rfl, S.on R.hblk n _ os (size_ins hO d a b hab hb)⟩

theorem ins1_int (enc : α → Value) (cf : α → α → Int) (hO : SWO (ltOf cf)) (g : Nat) (cb : Array Value) (blk off cap : Nat) (d0 : Array α) (w0 : World)
    (eg : ∀ args w, (callFunc g args).run Try.prog w = .ok (.enter g args) w) (hcmp : CmpLays1 Try.prog g cb enc cf blk off d0.size w0) (R : Row1 enc w0 blk off d0) (hsz : d0.size < 4611686018427387904) : Ins1 Try.prog 61 enc cf g cb blk off cap d0 w0 := by
  intro a b d w hd S hab hb
  rw [← hd] at hb ⊢
  exact Any.insertionSortCmpFunc_s insInt enc cf g cb blk off cap a b d0 d w0 w eg hcmp R hd.symm S hab hb (by omega)

/-- At no element slices.insertionSortCmpFunc does nothing. -/
theorem ins_none_item (p : Option Addr) (cap : Nat) (fv : Value) (w : World) : Calls Try.prog 56 #[.slice p 0 cap, .int .i64 0, .int .i64 0, fv] w fun e w' => e = .returned (.tuple #[]) ∧ w = w' := by
  go_enter Try.func56, Try.ntmps56
  go_wp2
  refine wp_loop_rounds 1 ?_
  rw [rounds_succ]
  go_wp2
  go_end0
  exact ⟨rfl, rfl⟩
theorem ins_none_int (p : Option Addr) (cap : Nat) (fv : Value) (w : World) : Calls Try.prog 61 #[.slice p 0 cap, .int .i64 0, .int .i64 0, fv] w fun e w' => e = .returned (.tuple #[]) ∧ w = w' := by
  go_enter Try.func61, Try.ntmps61
  go_wp2
  refine wp_loop_rounds 1 ?_
  rw [rounds_succ]
  go_wp2
  go_end0
  exact ⟨rfl, rfl⟩

/-- slices.SortStableFunc at huffman's items. -/
theorem sort_item (enc : α → List Value) (cf : α → α → Int) (hO : SWO (ltOf cf)) (g : Nat) (cb : Array Value) (blk off cap : Nat) (d0 : Array α) (w0 : World)
    (eg : ∀ args w, (callFunc g args).run Try.prog w = .ok (.enter g args) w) (hcmp : CmpLays Try.prog g cb enc 4 cf blk off d0.size w0) (R : RowK enc 4 w0 blk off d0) (hsz : d0.size < 4611686018427387904 / 4) :
    Calls Try.prog 41 #[.slice (some ⟨blk, off, none⟩) d0.size cap, .func (.func g) #[] cb] w0 fun e w' => e = .returned (.tuple #[]) ∧ SWK enc 4 w0 blk off (isort (ltOf cf) d0.toList).toArray w' :=
  sortStable_isortK layItem 4 Try.isAgg48 Try.sizeOf48 enc cf hO g cb blk off cap d0 w0 eg hcmp R hsz (fun enc' cf' d0' h1 h2 h3 h4 => insK_item enc' cf' h3 g cb blk off cap d0' w0 eg h1 h2 (by omega))
theorem sort_item_none (p : Option Addr) (cap : Nat) (fv : Value) (w : World) : Calls Try.prog 41 #[.slice p 0 cap, fv] w fun e w' => e = .returned (.tuple #[]) ∧ w = w' :=
  sortStable_none layItem p cap fv w (ins_none_item p cap fv w)

/-- slices.SortStableFunc at ints. -/
theorem sort_int (enc : α → Value) (cf : α → α → Int) (hO : SWO (ltOf cf)) (g : Nat) (cb : Array Value) (blk off cap : Nat) (d0 : Array α) (w0 : World)
    (eg : ∀ args w, (callFunc g args).run Try.prog w = .ok (.enter g args) w) (hcmp : CmpLays1 Try.prog g cb enc cf blk off d0.size w0) (R : Row1 enc w0 blk off d0) (hsz : d0.size < 4611686018427387904 / 4) :
    Calls Try.prog 52 #[.slice (some ⟨blk, off, none⟩) d0.size cap, .func (.func g) #[] cb] w0 fun e w' => e = .returned (.tuple #[]) ∧ SW enc w0 blk off (isort (ltOf cf) d0.toList).toArray w' :=
  sortStable_isort1 layInt Try.isAgg3 Try.sizeOf3 enc cf hO g cb blk off cap d0 w0 eg hcmp R hsz (fun enc' cf' d0' h1 h2 h3 h4 => ins1_int enc' cf' h3 g cb blk off cap d0' w0 eg h1 h2 (by omega))
theorem sort_int_none (p : Option Addr) (cap : Nat) (fv : Value) (w : World) : Calls Try.prog 52 #[.slice p 0 cap, fv] w fun e w' => e = .returned (.tuple #[]) ∧ w = w' :=
  sortStable_none layInt p cap fv w (ins_none_int p cap fv w)

end Go.Proofs.Ytdmhhgkplcaejaa
