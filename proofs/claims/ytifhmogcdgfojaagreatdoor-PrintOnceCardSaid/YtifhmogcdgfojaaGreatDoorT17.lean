/- The rules of Wp for each simple operation by name: printed by wpops.py. -/
import Derived.Test.YtifhmogcdgfojaaGreatDoorT16
import Derived.Tactics
set_option linter.unusedSimpArgs false
set_option linter.unusedVariables false
namespace Go.Ev
open Go
section
variable {M : Mach}
theorem wpo_mov {x : Opd} {dst_ rest_ σ Q} : wpo M (⟨dst_, (.mov x), none⟩ :: rest_) σ Q = optA (evOp (rho σ.p σ.t) σ.H (.mov x)) fun y_ => wpo M rest_ (({ σ with H := y_.2 } : St).put dst_ y_.1) Q := wpo_val rfl
theorem wpd_mov {x : Opd} {dst_ a_ e_ w_ rest_ j_ lg_ σ Q} : wpd M (⟨⟨dst_, (.mov x), none⟩, a_, e_, w_⟩ :: rest_) j_ lg_ σ Q = optA (evOp (rho σ.p σ.t) σ.H (.mov x)) fun y_ => drawK M ⟨⟨dst_, (.mov x), none⟩, a_, e_, w_⟩ rest_ j_ lg_ σ Q y_.1 y_.2 := wpd_val rfl
theorem wpo_pick {c a b : Opd} {dst_ rest_ σ Q} : wpo M (⟨dst_, (.pick c a b), none⟩ :: rest_) σ Q = optA (evOp (rho σ.p σ.t) σ.H (.pick c a b)) fun y_ => wpo M rest_ (({ σ with H := y_.2 } : St).put dst_ y_.1) Q := wpo_val rfl
theorem wpd_pick {c a b : Opd} {dst_ a_ e_ w_ rest_ j_ lg_ σ Q} : wpd M (⟨⟨dst_, (.pick c a b), none⟩, a_, e_, w_⟩ :: rest_) j_ lg_ σ Q = optA (evOp (rho σ.p σ.t) σ.H (.pick c a b)) fun y_ => drawK M ⟨⟨dst_, (.pick c a b), none⟩, a_, e_, w_⟩ rest_ j_ lg_ σ Q y_.1 y_.2 := wpd_val rfl
theorem wpo_alloc {z : List AV} {dst_ rest_ σ Q} : wpo M (⟨dst_, (.alloc z), none⟩ :: rest_) σ Q = optA (evOp (rho σ.p σ.t) σ.H (.alloc z)) fun y_ => wpo M rest_ (({ σ with H := y_.2 } : St).put dst_ y_.1) Q := wpo_val rfl
theorem wpd_alloc {z : List AV} {dst_ a_ e_ w_ rest_ j_ lg_ σ Q} : wpd M (⟨⟨dst_, (.alloc z), none⟩, a_, e_, w_⟩ :: rest_) j_ lg_ σ Q = optA (evOp (rho σ.p σ.t) σ.H (.alloc z)) fun y_ => drawK M ⟨⟨dst_, (.alloc z), none⟩, a_, e_, w_⟩ rest_ j_ lg_ σ Q y_.1 y_.2 := wpd_val rfl
theorem wpo_box {x : Opd} {dst_ rest_ σ Q} : wpo M (⟨dst_, (.box x), none⟩ :: rest_) σ Q = optA (evOp (rho σ.p σ.t) σ.H (.box x)) fun y_ => wpo M rest_ (({ σ with H := y_.2 } : St).put dst_ y_.1) Q := wpo_val rfl
theorem wpd_box {x : Opd} {dst_ a_ e_ w_ rest_ j_ lg_ σ Q} : wpd M (⟨⟨dst_, (.box x), none⟩, a_, e_, w_⟩ :: rest_) j_ lg_ σ Q = optA (evOp (rho σ.p σ.t) σ.H (.box x)) fun y_ => drawK M ⟨⟨dst_, (.box x), none⟩, a_, e_, w_⟩ rest_ j_ lg_ σ Q y_.1 y_.2 := wpd_val rfl
theorem wpo_build {z : List AV} {parts : List (Nat × Nat × Opd)} {dst_ rest_ σ Q} : wpo M (⟨dst_, (.build z parts), none⟩ :: rest_) σ Q = optA (evOp (rho σ.p σ.t) σ.H (.build z parts)) fun y_ => wpo M rest_ (({ σ with H := y_.2 } : St).put dst_ y_.1) Q := wpo_val rfl
theorem wpd_build {z : List AV} {parts : List (Nat × Nat × Opd)} {dst_ a_ e_ w_ rest_ j_ lg_ σ Q} : wpd M (⟨⟨dst_, (.build z parts), none⟩, a_, e_, w_⟩ :: rest_) j_ lg_ σ Q = optA (evOp (rho σ.p σ.t) σ.H (.build z parts)) fun y_ => drawK M ⟨⟨dst_, (.build z parts), none⟩, a_, e_, w_⟩ rest_ j_ lg_ σ Q y_.1 y_.2 := wpd_val rfl
theorem wpo_lit {z : List AV} {n : Nat} {parts : List (Nat × Nat × Opd)} {dst_ rest_ σ Q} : wpo M (⟨dst_, (.lit z n parts), none⟩ :: rest_) σ Q = optA (evOp (rho σ.p σ.t) σ.H (.lit z n parts)) fun y_ => wpo M rest_ (({ σ with H := y_.2 } : St).put dst_ y_.1) Q := wpo_val rfl
theorem wpd_lit {z : List AV} {n : Nat} {parts : List (Nat × Nat × Opd)} {dst_ a_ e_ w_ rest_ j_ lg_ σ Q} : wpd M (⟨⟨dst_, (.lit z n parts), none⟩, a_, e_, w_⟩ :: rest_) j_ lg_ σ Q = optA (evOp (rho σ.p σ.t) σ.H (.lit z n parts)) fun y_ => drawK M ⟨⟨dst_, (.lit z n parts), none⟩, a_, e_, w_⟩ rest_ j_ lg_ σ Q y_.1 y_.2 := wpd_val rfl
theorem wpo_load1 {x : Opd} {dst_ rest_ σ Q} : wpo M (⟨dst_, (.load1 x), none⟩ :: rest_) σ Q = optA (evOp (rho σ.p σ.t) σ.H (.load1 x)) fun y_ => wpo M rest_ (({ σ with H := y_.2 } : St).put dst_ y_.1) Q := wpo_val rfl
theorem wpd_load1 {x : Opd} {dst_ a_ e_ w_ rest_ j_ lg_ σ Q} : wpd M (⟨⟨dst_, (.load1 x), none⟩, a_, e_, w_⟩ :: rest_) j_ lg_ σ Q = optA (evOp (rho σ.p σ.t) σ.H (.load1 x)) fun y_ => drawK M ⟨⟨dst_, (.load1 x), none⟩, a_, e_, w_⟩ rest_ j_ lg_ σ Q y_.1 y_.2 := wpd_val rfl
theorem wpo_loadN {n : Nat} {x : Opd} {dst_ rest_ σ Q} : wpo M (⟨dst_, (.loadN n x), none⟩ :: rest_) σ Q = optA (evOp (rho σ.p σ.t) σ.H (.loadN n x)) fun y_ => wpo M rest_ (({ σ with H := y_.2 } : St).put dst_ y_.1) Q := wpo_val rfl
theorem wpd_loadN {n : Nat} {x : Opd} {dst_ a_ e_ w_ rest_ j_ lg_ σ Q} : wpd M (⟨⟨dst_, (.loadN n x), none⟩, a_, e_, w_⟩ :: rest_) j_ lg_ σ Q = optA (evOp (rho σ.p σ.t) σ.H (.loadN n x)) fun y_ => drawK M ⟨⟨dst_, (.loadN n x), none⟩, a_, e_, w_⟩ rest_ j_ lg_ σ Q y_.1 y_.2 := wpd_val rfl
theorem wpo_store {n : Nat} {a x : Opd} {dst_ rest_ σ Q} : wpo M (⟨dst_, (.store n a x), none⟩ :: rest_) σ Q = optA (evOp (rho σ.p σ.t) σ.H (.store n a x)) fun y_ => wpo M rest_ (({ σ with H := y_.2 } : St).put dst_ y_.1) Q := wpo_val rfl
theorem wpd_store {n : Nat} {a x : Opd} {dst_ a_ e_ w_ rest_ j_ lg_ σ Q} : wpd M (⟨⟨dst_, (.store n a x), none⟩, a_, e_, w_⟩ :: rest_) j_ lg_ σ Q = optA (evOp (rho σ.p σ.t) σ.H (.store n a x)) fun y_ => drawK M ⟨⟨dst_, (.store n a x), none⟩, a_, e_, w_⟩ rest_ j_ lg_ σ Q y_.1 y_.2 := wpd_val rfl
theorem wpo_nilCheck {x : Opd} {dst_ rest_ σ Q} : wpo M (⟨dst_, (.nilCheck x), none⟩ :: rest_) σ Q = optA (evOp (rho σ.p σ.t) σ.H (.nilCheck x)) fun y_ => wpo M rest_ (({ σ with H := y_.2 } : St).put dst_ y_.1) Q := wpo_val rfl
theorem wpd_nilCheck {x : Opd} {dst_ a_ e_ w_ rest_ j_ lg_ σ Q} : wpd M (⟨⟨dst_, (.nilCheck x), none⟩, a_, e_, w_⟩ :: rest_) j_ lg_ σ Q = optA (evOp (rho σ.p σ.t) σ.H (.nilCheck x)) fun y_ => drawK M ⟨⟨dst_, (.nilCheck x), none⟩, a_, e_, w_⟩ rest_ j_ lg_ σ Q y_.1 y_.2 := wpd_val rfl
theorem wpo_bin {op : BinOp} {x y : Opd} {dst_ rest_ σ Q} : wpo M (⟨dst_, (.bin op x y), none⟩ :: rest_) σ Q = optA (evOp (rho σ.p σ.t) σ.H (.bin op x y)) fun y_ => wpo M rest_ (({ σ with H := y_.2 } : St).put dst_ y_.1) Q := wpo_val rfl
theorem wpd_bin {op : BinOp} {x y : Opd} {dst_ a_ e_ w_ rest_ j_ lg_ σ Q} : wpd M (⟨⟨dst_, (.bin op x y), none⟩, a_, e_, w_⟩ :: rest_) j_ lg_ σ Q = optA (evOp (rho σ.p σ.t) σ.H (.bin op x y)) fun y_ => drawK M ⟨⟨dst_, (.bin op x y), none⟩, a_, e_, w_⟩ rest_ j_ lg_ σ Q y_.1 y_.2 := wpd_val rfl
theorem wpo_eqv {neg : Bool} {k : EqK} {x y : Opd} {dst_ rest_ σ Q} : wpo M (⟨dst_, (.eqv neg k x y), none⟩ :: rest_) σ Q = optA (evOp (rho σ.p σ.t) σ.H (.eqv neg k x y)) fun y_ => wpo M rest_ (({ σ with H := y_.2 } : St).put dst_ y_.1) Q := wpo_val rfl
theorem wpd_eqv {neg : Bool} {k : EqK} {x y : Opd} {dst_ a_ e_ w_ rest_ j_ lg_ σ Q} : wpd M (⟨⟨dst_, (.eqv neg k x y), none⟩, a_, e_, w_⟩ :: rest_) j_ lg_ σ Q = optA (evOp (rho σ.p σ.t) σ.H (.eqv neg k x y)) fun y_ => drawK M ⟨⟨dst_, (.eqv neg k x y), none⟩, a_, e_, w_⟩ rest_ j_ lg_ σ Q y_.1 y_.2 := wpd_val rfl
theorem wpo_un {op : UnOp} {x : Opd} {dst_ rest_ σ Q} : wpo M (⟨dst_, (.un op x), none⟩ :: rest_) σ Q = optA (evOp (rho σ.p σ.t) σ.H (.un op x)) fun y_ => wpo M rest_ (({ σ with H := y_.2 } : St).put dst_ y_.1) Q := wpo_val rfl
theorem wpd_un {op : UnOp} {x : Opd} {dst_ a_ e_ w_ rest_ j_ lg_ σ Q} : wpd M (⟨⟨dst_, (.un op x), none⟩, a_, e_, w_⟩ :: rest_) j_ lg_ σ Q = optA (evOp (rho σ.p σ.t) σ.H (.un op x)) fun y_ => drawK M ⟨⟨dst_, (.un op x), none⟩, a_, e_, w_⟩ rest_ j_ lg_ σ Q y_.1 y_.2 := wpd_val rfl
theorem wpo_convI {k : IntKind} {x : Opd} {dst_ rest_ σ Q} : wpo M (⟨dst_, (.convI k x), none⟩ :: rest_) σ Q = optA (evOp (rho σ.p σ.t) σ.H (.convI k x)) fun y_ => wpo M rest_ (({ σ with H := y_.2 } : St).put dst_ y_.1) Q := wpo_val rfl
theorem wpd_convI {k : IntKind} {x : Opd} {dst_ a_ e_ w_ rest_ j_ lg_ σ Q} : wpd M (⟨⟨dst_, (.convI k x), none⟩, a_, e_, w_⟩ :: rest_) j_ lg_ σ Q = optA (evOp (rho σ.p σ.t) σ.H (.convI k x)) fun y_ => drawK M ⟨⟨dst_, (.convI k x), none⟩, a_, e_, w_⟩ rest_ j_ lg_ σ Q y_.1 y_.2 := wpd_val rfl
theorem wpo_strStr {x : Opd} {dst_ rest_ σ Q} : wpo M (⟨dst_, (.strStr x), none⟩ :: rest_) σ Q = optA (evOp (rho σ.p σ.t) σ.H (.strStr x)) fun y_ => wpo M rest_ (({ σ with H := y_.2 } : St).put dst_ y_.1) Q := wpo_val rfl
theorem wpd_strStr {x : Opd} {dst_ a_ e_ w_ rest_ j_ lg_ σ Q} : wpd M (⟨⟨dst_, (.strStr x), none⟩, a_, e_, w_⟩ :: rest_) j_ lg_ σ Q = optA (evOp (rho σ.p σ.t) σ.H (.strStr x)) fun y_ => drawK M ⟨⟨dst_, (.strStr x), none⟩, a_, e_, w_⟩ rest_ j_ lg_ σ Q y_.1 y_.2 := wpd_val rfl
theorem wpo_intStr {x : Opd} {dst_ rest_ σ Q} : wpo M (⟨dst_, (.intStr x), none⟩ :: rest_) σ Q = optA (evOp (rho σ.p σ.t) σ.H (.intStr x)) fun y_ => wpo M rest_ (({ σ with H := y_.2 } : St).put dst_ y_.1) Q := wpo_val rfl
theorem wpd_intStr {x : Opd} {dst_ a_ e_ w_ rest_ j_ lg_ σ Q} : wpd M (⟨⟨dst_, (.intStr x), none⟩, a_, e_, w_⟩ :: rest_) j_ lg_ σ Q = optA (evOp (rho σ.p σ.t) σ.H (.intStr x)) fun y_ => drawK M ⟨⟨dst_, (.intStr x), none⟩, a_, e_, w_⟩ rest_ j_ lg_ σ Q y_.1 y_.2 := wpd_val rfl
theorem wpo_strBytes {x : Opd} {dst_ rest_ σ Q} : wpo M (⟨dst_, (.strBytes x), none⟩ :: rest_) σ Q = optA (evOp (rho σ.p σ.t) σ.H (.strBytes x)) fun y_ => wpo M rest_ (({ σ with H := y_.2 } : St).put dst_ y_.1) Q := wpo_val rfl
theorem wpd_strBytes {x : Opd} {dst_ a_ e_ w_ rest_ j_ lg_ σ Q} : wpd M (⟨⟨dst_, (.strBytes x), none⟩, a_, e_, w_⟩ :: rest_) j_ lg_ σ Q = optA (evOp (rho σ.p σ.t) σ.H (.strBytes x)) fun y_ => drawK M ⟨⟨dst_, (.strBytes x), none⟩, a_, e_, w_⟩ rest_ j_ lg_ σ Q y_.1 y_.2 := wpd_val rfl
theorem wpo_bytesStr {x : Opd} {dst_ rest_ σ Q} : wpo M (⟨dst_, (.bytesStr x), none⟩ :: rest_) σ Q = optA (evOp (rho σ.p σ.t) σ.H (.bytesStr x)) fun y_ => wpo M rest_ (({ σ with H := y_.2 } : St).put dst_ y_.1) Q := wpo_val rfl
theorem wpd_bytesStr {x : Opd} {dst_ a_ e_ w_ rest_ j_ lg_ σ Q} : wpd M (⟨⟨dst_, (.bytesStr x), none⟩, a_, e_, w_⟩ :: rest_) j_ lg_ σ Q = optA (evOp (rho σ.p σ.t) σ.H (.bytesStr x)) fun y_ => drawK M ⟨⟨dst_, (.bytesStr x), none⟩, a_, e_, w_⟩ rest_ j_ lg_ σ Q y_.1 y_.2 := wpd_val rfl
theorem wpo_mkIface {t : TypeId} {x : Opd} {dst_ rest_ σ Q} : wpo M (⟨dst_, (.mkIface t x), none⟩ :: rest_) σ Q = optA (evOp (rho σ.p σ.t) σ.H (.mkIface t x)) fun y_ => wpo M rest_ (({ σ with H := y_.2 } : St).put dst_ y_.1) Q := wpo_val rfl
theorem wpd_mkIface {t : TypeId} {x : Opd} {dst_ a_ e_ w_ rest_ j_ lg_ σ Q} : wpd M (⟨⟨dst_, (.mkIface t x), none⟩, a_, e_, w_⟩ :: rest_) j_ lg_ σ Q = optA (evOp (rho σ.p σ.t) σ.H (.mkIface t x)) fun y_ => drawK M ⟨⟨dst_, (.mkIface t x), none⟩, a_, e_, w_⟩ rest_ j_ lg_ σ Q y_.1 y_.2 := wpd_val rfl
theorem wpo_mkSlice {z : List AV} {bytes : Nat} {l c : Opd} {dst_ rest_ σ Q} : wpo M (⟨dst_, (.mkSlice z bytes l c), none⟩ :: rest_) σ Q = optA (evOp (rho σ.p σ.t) σ.H (.mkSlice z bytes l c)) fun y_ => wpo M rest_ (({ σ with H := y_.2 } : St).put dst_ y_.1) Q := wpo_val rfl
theorem wpd_mkSlice {z : List AV} {bytes : Nat} {l c : Opd} {dst_ a_ e_ w_ rest_ j_ lg_ σ Q} : wpd M (⟨⟨dst_, (.mkSlice z bytes l c), none⟩, a_, e_, w_⟩ :: rest_) j_ lg_ σ Q = optA (evOp (rho σ.p σ.t) σ.H (.mkSlice z bytes l c)) fun y_ => drawK M ⟨⟨dst_, (.mkSlice z bytes l c), none⟩, a_, e_, w_⟩ rest_ j_ lg_ σ Q y_.1 y_.2 := wpd_val rfl
theorem wpo_sliceStr {x : Opd} {lo hi : Option Opd} {dst_ rest_ σ Q} : wpo M (⟨dst_, (.sliceStr x lo hi), none⟩ :: rest_) σ Q = optA (evOp (rho σ.p σ.t) σ.H (.sliceStr x lo hi)) fun y_ => wpo M rest_ (({ σ with H := y_.2 } : St).put dst_ y_.1) Q := wpo_val rfl
theorem wpd_sliceStr {x : Opd} {lo hi : Option Opd} {dst_ a_ e_ w_ rest_ j_ lg_ σ Q} : wpd M (⟨⟨dst_, (.sliceStr x lo hi), none⟩, a_, e_, w_⟩ :: rest_) j_ lg_ σ Q = optA (evOp (rho σ.p σ.t) σ.H (.sliceStr x lo hi)) fun y_ => drawK M ⟨⟨dst_, (.sliceStr x lo hi), none⟩, a_, e_, w_⟩ rest_ j_ lg_ σ Q y_.1 y_.2 := wpd_val rfl
theorem wpo_sliceSl {sz : Nat} {x : Opd} {lo hi mx : Option Opd} {dst_ rest_ σ Q} : wpo M (⟨dst_, (.sliceSl sz x lo hi mx), none⟩ :: rest_) σ Q = optA (evOp (rho σ.p σ.t) σ.H (.sliceSl sz x lo hi mx)) fun y_ => wpo M rest_ (({ σ with H := y_.2 } : St).put dst_ y_.1) Q := wpo_val rfl
theorem wpd_sliceSl {sz : Nat} {x : Opd} {lo hi mx : Option Opd} {dst_ a_ e_ w_ rest_ j_ lg_ σ Q} : wpd M (⟨⟨dst_, (.sliceSl sz x lo hi mx), none⟩, a_, e_, w_⟩ :: rest_) j_ lg_ σ Q = optA (evOp (rho σ.p σ.t) σ.H (.sliceSl sz x lo hi mx)) fun y_ => drawK M ⟨⟨dst_, (.sliceSl sz x lo hi mx), none⟩, a_, e_, w_⟩ rest_ j_ lg_ σ Q y_.1 y_.2 := wpd_val rfl
theorem wpo_sliceArr {n sz : Nat} {x : Opd} {lo hi mx : Option Opd} {dst_ rest_ σ Q} : wpo M (⟨dst_, (.sliceArr n sz x lo hi mx), none⟩ :: rest_) σ Q = optA (evOp (rho σ.p σ.t) σ.H (.sliceArr n sz x lo hi mx)) fun y_ => wpo M rest_ (({ σ with H := y_.2 } : St).put dst_ y_.1) Q := wpo_val rfl
theorem wpd_sliceArr {n sz : Nat} {x : Opd} {lo hi mx : Option Opd} {dst_ a_ e_ w_ rest_ j_ lg_ σ Q} : wpd M (⟨⟨dst_, (.sliceArr n sz x lo hi mx), none⟩, a_, e_, w_⟩ :: rest_) j_ lg_ σ Q = optA (evOp (rho σ.p σ.t) σ.H (.sliceArr n sz x lo hi mx)) fun y_ => drawK M ⟨⟨dst_, (.sliceArr n sz x lo hi mx), none⟩, a_, e_, w_⟩ rest_ j_ lg_ σ Q y_.1 y_.2 := wpd_val rfl
theorem wpo_fieldAddr {off : Nat} {x : Opd} {dst_ rest_ σ Q} : wpo M (⟨dst_, (.fieldAddr off x), none⟩ :: rest_) σ Q = optA (evOp (rho σ.p σ.t) σ.H (.fieldAddr off x)) fun y_ => wpo M rest_ (({ σ with H := y_.2 } : St).put dst_ y_.1) Q := wpo_val rfl
theorem wpd_fieldAddr {off : Nat} {x : Opd} {dst_ a_ e_ w_ rest_ j_ lg_ σ Q} : wpd M (⟨⟨dst_, (.fieldAddr off x), none⟩, a_, e_, w_⟩ :: rest_) j_ lg_ σ Q = optA (evOp (rho σ.p σ.t) σ.H (.fieldAddr off x)) fun y_ => drawK M ⟨⟨dst_, (.fieldAddr off x), none⟩, a_, e_, w_⟩ rest_ j_ lg_ σ Q y_.1 y_.2 := wpd_val rfl
theorem wpo_field1 {off : Nat} {x : Opd} {dst_ rest_ σ Q} : wpo M (⟨dst_, (.field1 off x), none⟩ :: rest_) σ Q = optA (evOp (rho σ.p σ.t) σ.H (.field1 off x)) fun y_ => wpo M rest_ (({ σ with H := y_.2 } : St).put dst_ y_.1) Q := wpo_val rfl
theorem wpd_field1 {off : Nat} {x : Opd} {dst_ a_ e_ w_ rest_ j_ lg_ σ Q} : wpd M (⟨⟨dst_, (.field1 off x), none⟩, a_, e_, w_⟩ :: rest_) j_ lg_ σ Q = optA (evOp (rho σ.p σ.t) σ.H (.field1 off x)) fun y_ => drawK M ⟨⟨dst_, (.field1 off x), none⟩, a_, e_, w_⟩ rest_ j_ lg_ σ Q y_.1 y_.2 := wpd_val rfl
theorem wpo_fieldN {off n : Nat} {x : Opd} {dst_ rest_ σ Q} : wpo M (⟨dst_, (.fieldN off n x), none⟩ :: rest_) σ Q = optA (evOp (rho σ.p σ.t) σ.H (.fieldN off n x)) fun y_ => wpo M rest_ (({ σ with H := y_.2 } : St).put dst_ y_.1) Q := wpo_val rfl
theorem wpd_fieldN {off n : Nat} {x : Opd} {dst_ a_ e_ w_ rest_ j_ lg_ σ Q} : wpd M (⟨⟨dst_, (.fieldN off n x), none⟩, a_, e_, w_⟩ :: rest_) j_ lg_ σ Q = optA (evOp (rho σ.p σ.t) σ.H (.fieldN off n x)) fun y_ => drawK M ⟨⟨dst_, (.fieldN off n x), none⟩, a_, e_, w_⟩ rest_ j_ lg_ σ Q y_.1 y_.2 := wpd_val rfl
theorem wpo_idxArr {n sz : Nat} {x i : Opd} {dst_ rest_ σ Q} : wpo M (⟨dst_, (.idxArr n sz x i), none⟩ :: rest_) σ Q = optA (evOp (rho σ.p σ.t) σ.H (.idxArr n sz x i)) fun y_ => wpo M rest_ (({ σ with H := y_.2 } : St).put dst_ y_.1) Q := wpo_val rfl
theorem wpd_idxArr {n sz : Nat} {x i : Opd} {dst_ a_ e_ w_ rest_ j_ lg_ σ Q} : wpd M (⟨⟨dst_, (.idxArr n sz x i), none⟩, a_, e_, w_⟩ :: rest_) j_ lg_ σ Q = optA (evOp (rho σ.p σ.t) σ.H (.idxArr n sz x i)) fun y_ => drawK M ⟨⟨dst_, (.idxArr n sz x i), none⟩, a_, e_, w_⟩ rest_ j_ lg_ σ Q y_.1 y_.2 := wpd_val rfl
theorem wpo_idxStr {x i : Opd} {dst_ rest_ σ Q} : wpo M (⟨dst_, (.idxStr x i), none⟩ :: rest_) σ Q = optA (evOp (rho σ.p σ.t) σ.H (.idxStr x i)) fun y_ => wpo M rest_ (({ σ with H := y_.2 } : St).put dst_ y_.1) Q := wpo_val rfl
theorem wpd_idxStr {x i : Opd} {dst_ a_ e_ w_ rest_ j_ lg_ σ Q} : wpd M (⟨⟨dst_, (.idxStr x i), none⟩, a_, e_, w_⟩ :: rest_) j_ lg_ σ Q = optA (evOp (rho σ.p σ.t) σ.H (.idxStr x i)) fun y_ => drawK M ⟨⟨dst_, (.idxStr x i), none⟩, a_, e_, w_⟩ rest_ j_ lg_ σ Q y_.1 y_.2 := wpd_val rfl
theorem wpo_idxAgg {n : Nat} {x i : Opd} {dst_ rest_ σ Q} : wpo M (⟨dst_, (.idxAgg n x i), none⟩ :: rest_) σ Q = optA (evOp (rho σ.p σ.t) σ.H (.idxAgg n x i)) fun y_ => wpo M rest_ (({ σ with H := y_.2 } : St).put dst_ y_.1) Q := wpo_val rfl
theorem wpd_idxAgg {n : Nat} {x i : Opd} {dst_ a_ e_ w_ rest_ j_ lg_ σ Q} : wpd M (⟨⟨dst_, (.idxAgg n x i), none⟩, a_, e_, w_⟩ :: rest_) j_ lg_ σ Q = optA (evOp (rho σ.p σ.t) σ.H (.idxAgg n x i)) fun y_ => drawK M ⟨⟨dst_, (.idxAgg n x i), none⟩, a_, e_, w_⟩ rest_ j_ lg_ σ Q y_.1 y_.2 := wpd_val rfl
theorem wpo_extract {x : Opd} {i : Nat} {dst_ rest_ σ Q} : wpo M (⟨dst_, (.extract x i), none⟩ :: rest_) σ Q = optA (evOp (rho σ.p σ.t) σ.H (.extract x i)) fun y_ => wpo M rest_ (({ σ with H := y_.2 } : St).put dst_ y_.1) Q := wpo_val rfl
theorem wpd_extract {x : Opd} {i : Nat} {dst_ a_ e_ w_ rest_ j_ lg_ σ Q} : wpd M (⟨⟨dst_, (.extract x i), none⟩, a_, e_, w_⟩ :: rest_) j_ lg_ σ Q = optA (evOp (rho σ.p σ.t) σ.H (.extract x i)) fun y_ => drawK M ⟨⟨dst_, (.extract x i), none⟩, a_, e_, w_⟩ rest_ j_ lg_ σ Q y_.1 y_.2 := wpd_val rfl
theorem wpo_lenStr {x : Opd} {dst_ rest_ σ Q} : wpo M (⟨dst_, (.lenStr x), none⟩ :: rest_) σ Q = optA (evOp (rho σ.p σ.t) σ.H (.lenStr x)) fun y_ => wpo M rest_ (({ σ with H := y_.2 } : St).put dst_ y_.1) Q := wpo_val rfl
theorem wpd_lenStr {x : Opd} {dst_ a_ e_ w_ rest_ j_ lg_ σ Q} : wpd M (⟨⟨dst_, (.lenStr x), none⟩, a_, e_, w_⟩ :: rest_) j_ lg_ σ Q = optA (evOp (rho σ.p σ.t) σ.H (.lenStr x)) fun y_ => drawK M ⟨⟨dst_, (.lenStr x), none⟩, a_, e_, w_⟩ rest_ j_ lg_ σ Q y_.1 y_.2 := wpd_val rfl
theorem wpo_capSl {x : Opd} {dst_ rest_ σ Q} : wpo M (⟨dst_, (.capSl x), none⟩ :: rest_) σ Q = optA (evOp (rho σ.p σ.t) σ.H (.capSl x)) fun y_ => wpo M rest_ (({ σ with H := y_.2 } : St).put dst_ y_.1) Q := wpo_val rfl
theorem wpd_capSl {x : Opd} {dst_ a_ e_ w_ rest_ j_ lg_ σ Q} : wpd M (⟨⟨dst_, (.capSl x), none⟩, a_, e_, w_⟩ :: rest_) j_ lg_ σ Q = optA (evOp (rho σ.p σ.t) σ.H (.capSl x)) fun y_ => drawK M ⟨⟨dst_, (.capSl x), none⟩, a_, e_, w_⟩ rest_ j_ lg_ σ Q y_.1 y_.2 := wpd_val rfl
theorem wpo_append {sz bytes : Nat} {x y : Opd} {dst_ rest_ σ Q} : wpo M (⟨dst_, (.append sz bytes x y), none⟩ :: rest_) σ Q = optA (evOp (rho σ.p σ.t) σ.H (.append sz bytes x y)) fun y_ => wpo M rest_ (({ σ with H := y_.2 } : St).put dst_ y_.1) Q := wpo_val rfl
theorem wpd_append {sz bytes : Nat} {x y : Opd} {dst_ a_ e_ w_ rest_ j_ lg_ σ Q} : wpd M (⟨⟨dst_, (.append sz bytes x y), none⟩, a_, e_, w_⟩ :: rest_) j_ lg_ σ Q = optA (evOp (rho σ.p σ.t) σ.H (.append sz bytes x y)) fun y_ => drawK M ⟨⟨dst_, (.append sz bytes x y), none⟩, a_, e_, w_⟩ rest_ j_ lg_ σ Q y_.1 y_.2 := wpd_val rfl
theorem wpo_appendStr {x y : Opd} {dst_ rest_ σ Q} : wpo M (⟨dst_, (.appendStr x y), none⟩ :: rest_) σ Q = optA (evOp (rho σ.p σ.t) σ.H (.appendStr x y)) fun y_ => wpo M rest_ (({ σ with H := y_.2 } : St).put dst_ y_.1) Q := wpo_val rfl
theorem wpd_appendStr {x y : Opd} {dst_ a_ e_ w_ rest_ j_ lg_ σ Q} : wpd M (⟨⟨dst_, (.appendStr x y), none⟩, a_, e_, w_⟩ :: rest_) j_ lg_ σ Q = optA (evOp (rho σ.p σ.t) σ.H (.appendStr x y)) fun y_ => drawK M ⟨⟨dst_, (.appendStr x y), none⟩, a_, e_, w_⟩ rest_ j_ lg_ σ Q y_.1 y_.2 := wpd_val rfl
theorem wpo_appendZ {z : List AV} {bytes : Nat} {x n : Opd} {dst_ rest_ σ Q} : wpo M (⟨dst_, (.appendZ z bytes x n), none⟩ :: rest_) σ Q = optA (evOp (rho σ.p σ.t) σ.H (.appendZ z bytes x n)) fun y_ => wpo M rest_ (({ σ with H := y_.2 } : St).put dst_ y_.1) Q := wpo_val rfl
theorem wpd_appendZ {z : List AV} {bytes : Nat} {x n : Opd} {dst_ a_ e_ w_ rest_ j_ lg_ σ Q} : wpd M (⟨⟨dst_, (.appendZ z bytes x n), none⟩, a_, e_, w_⟩ :: rest_) j_ lg_ σ Q = optA (evOp (rho σ.p σ.t) σ.H (.appendZ z bytes x n)) fun y_ => drawK M ⟨⟨dst_, (.appendZ z bytes x n), none⟩, a_, e_, w_⟩ rest_ j_ lg_ σ Q y_.1 y_.2 := wpd_val rfl
theorem wpo_minmax {mx : Bool} {xs : List Opd} {dst_ rest_ σ Q} : wpo M (⟨dst_, (.minmax mx xs), none⟩ :: rest_) σ Q = optA (evOp (rho σ.p σ.t) σ.H (.minmax mx xs)) fun y_ => wpo M rest_ (({ σ with H := y_.2 } : St).put dst_ y_.1) Q := wpo_val rfl
theorem wpd_minmax {mx : Bool} {xs : List Opd} {dst_ a_ e_ w_ rest_ j_ lg_ σ Q} : wpd M (⟨⟨dst_, (.minmax mx xs), none⟩, a_, e_, w_⟩ :: rest_) j_ lg_ σ Q = optA (evOp (rho σ.p σ.t) σ.H (.minmax mx xs)) fun y_ => drawK M ⟨⟨dst_, (.minmax mx xs), none⟩, a_, e_, w_⟩ rest_ j_ lg_ σ Q y_.1 y_.2 := wpd_val rfl
theorem wpo_assert {t : TypeId} {zero : Option AV} {x : Opd} {dst_ rest_ σ Q} : wpo M (⟨dst_, (.assert t zero x), none⟩ :: rest_) σ Q = optA (evOp (rho σ.p σ.t) σ.H (.assert t zero x)) fun y_ => wpo M rest_ (({ σ with H := y_.2 } : St).put dst_ y_.1) Q := wpo_val rfl
theorem wpd_assert {t : TypeId} {zero : Option AV} {x : Opd} {dst_ a_ e_ w_ rest_ j_ lg_ σ Q} : wpd M (⟨⟨dst_, (.assert t zero x), none⟩, a_, e_, w_⟩ :: rest_) j_ lg_ σ Q = optA (evOp (rho σ.p σ.t) σ.H (.assert t zero x)) fun y_ => drawK M ⟨⟨dst_, (.assert t zero x), none⟩, a_, e_, w_⟩ rest_ j_ lg_ σ Q y_.1 y_.2 := wpd_val rfl
theorem wpo_rangeStr {x : Opd} {dst_ rest_ σ Q} : wpo M (⟨dst_, (.rangeStr x), none⟩ :: rest_) σ Q = optA (evOp (rho σ.p σ.t) σ.H (.rangeStr x)) fun y_ => wpo M rest_ (({ σ with H := y_.2 } : St).put dst_ y_.1) Q := wpo_val rfl
theorem wpd_rangeStr {x : Opd} {dst_ a_ e_ w_ rest_ j_ lg_ σ Q} : wpd M (⟨⟨dst_, (.rangeStr x), none⟩, a_, e_, w_⟩ :: rest_) j_ lg_ σ Q = optA (evOp (rho σ.p σ.t) σ.H (.rangeStr x)) fun y_ => drawK M ⟨⟨dst_, (.rangeStr x), none⟩, a_, e_, w_⟩ rest_ j_ lg_ σ Q y_.1 y_.2 := wpd_val rfl
theorem wpo_nextStr {x : Opd} {dst_ rest_ σ Q} : wpo M (⟨dst_, (.nextStr x), none⟩ :: rest_) σ Q = optA (evOp (rho σ.p σ.t) σ.H (.nextStr x)) fun y_ => wpo M rest_ (({ σ with H := y_.2 } : St).put dst_ y_.1) Q := wpo_val rfl
theorem wpd_nextStr {x : Opd} {dst_ a_ e_ w_ rest_ j_ lg_ σ Q} : wpd M (⟨⟨dst_, (.nextStr x), none⟩, a_, e_, w_⟩ :: rest_) j_ lg_ σ Q = optA (evOp (rho σ.p σ.t) σ.H (.nextStr x)) fun y_ => drawK M ⟨⟨dst_, (.nextStr x), none⟩, a_, e_, w_⟩ rest_ j_ lg_ σ Q y_.1 y_.2 := wpd_val rfl
theorem wpo_idxByte {x y : Opd} {dst_ rest_ σ Q} : wpo M (⟨dst_, (.idxByte x y), none⟩ :: rest_) σ Q = optA (evOp (rho σ.p σ.t) σ.H (.idxByte x y)) fun y_ => wpo M rest_ (({ σ with H := y_.2 } : St).put dst_ y_.1) Q := wpo_val rfl
theorem wpd_idxByte {x y : Opd} {dst_ a_ e_ w_ rest_ j_ lg_ σ Q} : wpd M (⟨⟨dst_, (.idxByte x y), none⟩, a_, e_, w_⟩ :: rest_) j_ lg_ σ Q = optA (evOp (rho σ.p σ.t) σ.H (.idxByte x y)) fun y_ => drawK M ⟨⟨dst_, (.idxByte x y), none⟩, a_, e_, w_⟩ rest_ j_ lg_ σ Q y_.1 y_.2 := wpd_val rfl
theorem optA_map0 {α β : Type} {x : Option α} {f : α → β} {k : β → Prop} : optA (x.map f) k = optA x fun a => k (f a) := by cases x <;> rfl
/-- How long a slice is. -/
def lenI : AV → Option Int
  | .slice _ _ n _ => some n
  | .osl _ _ _ n => some n
  | .nils => some 0
  | _ => none
theorem lenI_slice {b o n c : Nat} : lenI (.slice b o n c) = some (n : Int) := rfl
theorem lenI_osl {s b o n : Nat} : lenI (.osl s b o n) = some (n : Int) := rfl
theorem lenI_nils : lenI .nils = some 0 := rfl
theorem evOp_lenSl {ρ : Opd → Option AV} {H : Heap} {x : Opd} : evOp ρ H (.lenSl x) = ((ρ x).bind lenI).map fun n => (.int .i64 n, H) := by
  cases h : ρ x with
  | none => simp [evOp, h]
  | some v => cases v <;> simp [evOp, h, lenI]
theorem wpo_lenSl {x dst_ rest_ σ Q} : wpo M (⟨dst_, .lenSl x, none⟩ :: rest_) σ Q = optA ((rho σ.p σ.t x).bind lenI) fun n => wpo M rest_ (σ.put dst_ (.int .i64 n)) Q := by
  rw [wpo_val rfl, evOp_lenSl]; cases (rho σ.p σ.t x).bind lenI <;> rfl
theorem wpd_lenSl {x dst_ a_ e_ w_ rest_ j_ lg_ σ Q} : wpd M (⟨⟨dst_, .lenSl x, none⟩, a_, e_, w_⟩ :: rest_) j_ lg_ σ Q = optA ((rho σ.p σ.t x).bind lenI) fun n => drawK M ⟨⟨dst_, .lenSl x, none⟩, a_, e_, w_⟩ rest_ j_ lg_ σ Q (.int .i64 n) σ.H := by
  rw [wpd_val rfl, evOp_lenSl]; cases (rho σ.p σ.t x).bind lenI <;> rfl
/-- Where an element of a slice lies. -/
def elA (sz : Nat) : AV → AV → Option AV
  | .slice b off n _, .int _ i => if 0 ≤ i ∧ i < n then some (.ptr b (off + i.toNat * sz)) else none
  | .osl s b off n, .int _ i => if s = sz ∧ 0 ≤ i ∧ i < n then some (.ptr b (off + i.toNat * sz)) else none
  | _, _ => none
theorem elA_slice {sz b off n c : Nat} {k : IntKind} {i : Int} : elA sz (.slice b off n c) (.int k i) = if 0 ≤ i ∧ i < n then some (.ptr b (off + i.toNat * sz)) else none := rfl
theorem elA_osl {sz s b off n : Nat} {k : IntKind} {i : Int} : elA sz (.osl s b off n) (.int k i) = if s = sz ∧ 0 ≤ i ∧ i < n then some (.ptr b (off + i.toNat * sz)) else none := rfl
theorem evOp_idxAddr {ρ : Opd → Option AV} {H : Heap} {sz : Nat} {x i : Opd} : evOp ρ H (.idxAddr sz x i) = ((ρ x).bind fun v => (ρ i).bind fun j => elA sz v j).map fun y => (y, H) := by
  cases h : ρ x with
  | none => simp [evOp, h]
  | some v =>
    cases g : ρ i with
    | none => cases v <;> simp [evOp, h, g]
    | some j =>
      cases v <;> cases j <;> simp only [evOp, h, g, elA, Option.bind_some, Option.map_none]
      all_goals
        split <;> rfl
theorem wpo_idxAddr {sz : Nat} {x i : Opd} {dst_ rest_ σ Q} : wpo M (⟨dst_, .idxAddr sz x i, none⟩ :: rest_) σ Q = optA ((rho σ.p σ.t x).bind fun v => (rho σ.p σ.t i).bind fun j => elA sz v j) fun y => wpo M rest_ (σ.put dst_ y) Q := by
  rw [wpo_val rfl, evOp_idxAddr, optA_map0]
theorem wpd_idxAddr {sz : Nat} {x i : Opd} {dst_ a_ e_ w_ rest_ j_ lg_ σ Q} : wpd M (⟨⟨dst_, .idxAddr sz x i, none⟩, a_, e_, w_⟩ :: rest_) j_ lg_ σ Q = optA ((rho σ.p σ.t x).bind fun v => (rho σ.p σ.t i).bind fun j => elA sz v j) fun y => drawK M ⟨⟨dst_, .idxAddr sz x i, none⟩, a_, e_, w_⟩ rest_ j_ lg_ σ Q y σ.H := by
  rw [wpd_val rfl, evOp_idxAddr, optA_map0]
theorem readSl_nils {H : Heap} {sz : Nat} : readSl H sz .nils = some (0, []) := rfl
theorem readSl_slice {H : Heap} {sz b off n c : Nat} : readSl H sz (.slice b off n c) = if n = 0 then some (0, []) else match H.get b with
    | .cells c _ => if off + n * sz ≤ c.length then some (n, rd c off (n * sz)) else none
    | _ => none := rfl
theorem readSl_osl {H : Heap} {sz s b off n : Nat} : readSl H sz (.osl s b off n) = if s = sz then (if n = 0 then some (0, []) else match H.get b with
    | .cells c _ => if off + n * sz ≤ c.length then some (n, rd c off (n * sz)) else none
    | _ => none) else none := rfl
theorem mapM_rho {p t : List (Nat × AV)} : ∀ l : List Opd, l.mapM (rho p t) = rhos p t l
  | [] => rfl
  | x :: l => by
    rw [List.mapM_cons, mapM_rho l]
    simp only [rhos]
    cases rho p t x with
    | none => rfl
    | some v => cases rhos p t l <;> rfl
theorem evOp_mkFn {p t : List (Nat × AV)} {H : Heap} {f : FuncId} {caps : List Opd} : evOp (rho p t) H (.mkFn f caps) = (rhos p t caps).map fun l => (.fn f l, H) := by
  simp only [evOp, mapM_rho]
theorem wpo_mkFn {f : FuncId} {caps : List Opd} {dst_ rest_ σ Q} : wpo M (⟨dst_, .mkFn f caps, none⟩ :: rest_) σ Q = optA (rhos σ.p σ.t caps) fun l => wpo M rest_ (σ.put dst_ (.fn f l)) Q := by
  rw [wpo_val rfl, evOp_mkFn]; cases rhos σ.p σ.t caps <;> rfl
theorem wpd_mkFn {f : FuncId} {caps : List Opd} {dst_ a_ e_ w_ rest_ j_ lg_ σ Q} : wpd M (⟨⟨dst_, .mkFn f caps, none⟩, a_, e_, w_⟩ :: rest_) j_ lg_ σ Q = optA (rhos σ.p σ.t caps) fun l => drawK M ⟨⟨dst_, .mkFn f caps, none⟩, a_, e_, w_⟩ rest_ j_ lg_ σ Q (.fn f l) σ.H := by
  rw [wpd_val rfl, evOp_mkFn]; cases rhos σ.p σ.t caps <;> rfl
theorem evOp_ext {p t : List (Nat × AV)} {H : Heap} {k : ExtK} {xs : List Opd} : evOp (rho p t) H (.ext k xs) = (rhos p t xs).bind fun l => extA H k l := by
  simp only [evOp, mapM_rho]; cases rhos p t xs <;> rfl
theorem wpo_ext {k : ExtK} {xs : List Opd} {dst_ rest_ σ Q} : wpo M (⟨dst_, .ext k xs, none⟩ :: rest_) σ Q = optA (rhos σ.p σ.t xs) fun l => optA (extA σ.H k l) fun y_ => wpo M rest_ (({ σ with H := y_.2 } : St).put dst_ y_.1) Q := by
  rw [wpo_val rfl, evOp_ext]; cases rhos σ.p σ.t xs <;> rfl
theorem wpd_ext {k : ExtK} {xs : List Opd} {dst_ a_ e_ w_ rest_ j_ lg_ σ Q} : wpd M (⟨⟨dst_, .ext k xs, none⟩, a_, e_, w_⟩ :: rest_) j_ lg_ σ Q = optA (rhos σ.p σ.t xs) fun l => optA (extA σ.H k l) fun y_ => drawK M ⟨⟨dst_, .ext k xs, none⟩, a_, e_, w_⟩ rest_ j_ lg_ σ Q y_.1 y_.2 := by
  rw [wpd_val rfl, evOp_ext]; cases rhos σ.p σ.t xs <;> rfl
theorem intBin_add {k : IntKind} {a b : Int} : intBin .add k a b = some (.int k (k.wrap (a + b))) := rfl
theorem intBin_sub {k : IntKind} {a b : Int} : intBin .sub k a b = some (.int k (k.wrap (a - b))) := rfl
theorem intBin_mul {k : IntKind} {a b : Int} : intBin .mul k a b = some (.int k (k.wrap (a * b))) := rfl
theorem intBin_quo {k : IntKind} {a b : Int} : intBin .quo k a b = if b = 0 then none else some (.int k (k.wrap (a.tdiv b))) := rfl
theorem intBin_rem {k : IntKind} {a b : Int} : intBin .rem k a b = if b = 0 then none else some (.int k (a.tmod b)) := rfl
theorem intBin_eql {k : IntKind} {a b : Int} : intBin .eql k a b = some (.bool (decide (a = b))) := rfl
theorem intBin_neq {k : IntKind} {a b : Int} : intBin .neq k a b = some (.bool (!decide (a = b))) := rfl
theorem intBin_lss {k : IntKind} {a b : Int} : intBin .lss k a b = some (.bool (decide (a < b))) := rfl
theorem intBin_leq {k : IntKind} {a b : Int} : intBin .leq k a b = some (.bool (decide (a ≤ b))) := rfl
theorem intBin_gtr {k : IntKind} {a b : Int} : intBin .gtr k a b = some (.bool (decide (b < a))) := rfl
theorem intBin_geq {k : IntKind} {a b : Int} : intBin .geq k a b = some (.bool (decide (b ≤ a))) := rfl

end

-- the small words of the rules
@[congr] theorem wpo_congr {M : Mach} {o : List Cop} {s t : St} {Q} (h : s = t) : wpo M o s Q = wpo M o t Q := by rw [h]
@[congr] theorem wpc_congr {M : Mach} {o : CCode} {s t : St} {Q} (h : s = t) : wpc M o s Q = wpc M o t Q := by rw [h]
@[congr] theorem wpd_congr {M : Mach} {o : List DCop} {i lg lg'} {s t : St} {Q} (h : s = t) (hl : lg = lg') : wpd M o i lg s Q = wpd M o i lg' t Q := by rw [h, hl]
@[congr] theorem wpl_congr {M : Mach} {l o} {s t : St} {Q} (h : s = t) : wpl M l o s Q = wpl M l o t Q := by rw [h]
@[congr] theorem wpf_congr {M : Mach} {f} {a b : List AV} {H H' : Heap} {Q} (h : a = b) (h' : H = H') : wpf M f a H Q = wpf M f b H' Q := by rw [h, h']
@[congr] theorem wpe_congr {M : Mach} {rs} {p p' d d' u u' H H' Q} (h1 : p = p') (h2 : d = d') (h3 : u = u') (h4 : H = H') : wpe M rs p d u H Q = wpe M rs p' d' u' H' Q := by rw [h1, h2, h3, h4]
@[congr] theorem wpfd_congr {M : Mach} {f} {a b : List AV} {u u' : Up} {H H' : Heap} {Q} (h : a = b) (h1 : u = u') (h' : H = H') : wpfd M f a u H Q = wpfd M f b u' H' Q := by rw [h, h1, h']
@[congr] theorem optA_congr {α : Type} {x y : Option α} {k : α → Prop} (h : x = y) : optA x k = optA y k := by rw [h]
@[congr] theorem optB_congr {x y : Option AV} {A B : Prop} (h : x = y) : optB x A B = optB y A B := by rw [h]
@[congr] theorem grd_congr {x y : Option AV} {w : Bool} {A B : Prop} (h : x = y) : grd x w A B = grd y w A B := by rw [h]
@[congr] theorem optF_congr {x y : Option AV} {k : FuncId → List AV → Prop} (h : x = y) : optF x k = optF y k := by rw [h]
@[congr] theorem optI_congr {x y : Option AV} {k : AV → Prop} (h : x = y) : optI x k = optI y k := by rw [h]
@[congr] theorem brB_congr {x y : Bool} {A B : Prop} (h : x = y) : brB x A B = brB y A B := by rw [h]
@[congr] theorem seqK_congr {M : Mach} {b Q} {c c' : Ctl} {s s' : St} (h : c = c') (h' : s = s') : seqK M b Q c s = seqK M b Q c' s' := by rw [h, h']
@[congr] theorem blockK_congr {i l Q} {c c' : Ctl} {s s' : St} (h : c = c') (h' : s = s') : blockK i l Q c s = blockK i l Q c' s' := by rw [h, h']
@[congr] theorem loopK_congr {M : Mach} {l b Q} {c c' : Ctl} {s s' : St} (h : c = c') (h' : s = s') : loopK M l b Q c s = loopK M l b Q c' s' := by rw [h, h']
@[congr] theorem callK_congr {M : Mach} {d r s Q} {c c' : End} {H H' : Heap} (h : c = c') (h' : H = H') : callK M d r s Q c H = callK M d r s Q c' H' := by rw [h, h']
@[congr] theorem callPK_congr {M : Mach} {d r s Q} {c c' : End} {H H' : Heap} (h : c = c') (h' : H = H') : callPK M d r s Q c H = callPK M d r s Q c' H' := by rw [h, h']
@[congr] theorem dcallK_congr {M : Mach} {d r i l s Q} {c c' : End} {H H' : Heap} (h : c = c') (h' : H = H') : dcallK M d r i l s Q c H = dcallK M d r i l s Q c' H' := by rw [h, h']
@[congr] theorem finK_congr {M : Mach} {rs Q} {c c' : Ctl} {s s' : St} (h : c = c') (h' : s = s') : finK M rs Q c s = finK M rs Q c' s' := by rw [h, h']
@[congr] theorem dfinK_congr {rs Q} {c c' : Ctl} {s s' : St} (h : c = c') (h' : s = s') : dfinK rs Q c s = dfinK rs Q c' s' := by rw [h, h']
@[congr] theorem dfrK_congr {M : Mach} {rs p ds Q} {c c' : End} {u u' : Up} {H H' : Heap} (h : c = c') (h1 : u = u') (h' : H = H') : dfrK M rs p ds Q c u H = dfrK M rs p ds Q c' u' H' := by rw [h, h1, h']

theorem optA_some {α : Type} {a : α} {k : α → Prop} : optA (some a) k = k a := rfl
theorem optA_none {α : Type} {k : α → Prop} : optA none k = False := rfl
theorem optA_map {α β : Type} {x : Option α} {f : α → β} {k : β → Prop} : optA (x.map f) k = optA x fun a => k (f a) := by cases x <;> rfl
theorem optA_iten {α : Type} {c : Prop} [Decidable c] {x : Option α} {k : α → Prop} : optA (if c then x else none) k = (c ∧ optA x k) := by
  by_cases h : c <;> simp [h, optA]
theorem optA_nite {α : Type} {c : Prop} [Decidable c] {x : Option α} {k : α → Prop} : optA (if c then none else x) k = (¬c ∧ optA x k) := by
  by_cases h : c <;> simp [h, optA]
def hpc (M : Mach) (c : CCode) (σ : St) (Q : Ctl → St → Prop) : Prop := wpc M c σ Q
def hpo (M : Mach) (c : List Cop) (σ : St) (Q : Ctl → St → Prop) : Prop := wpo M c σ Q
def hpd (M : Mach) (c : List DCop) (i : Nat) (lg : List (Nat × LogE)) (σ : St) (Q : Ctl → St → Prop) : Prop := wpd M c i lg σ Q
theorem wpc_condH {M : Mach} {c : Opd} {a b : CCode} {σ : St} {Q} : wpc M (.cond c a b) σ Q = optB (rho σ.p σ.t c) (hpc M a σ Q) (hpc M b σ Q) := wpc_cond
theorem wpo_grdH {M : Mach} {d : Dst} {op : COp} {x : Opd} {w : Bool} {r : List Cop} {σ : St} {Q} : wpo M (⟨d, op, some (x, w)⟩ :: r) σ Q = grd (rho σ.p σ.t x) w (hpo M (⟨d, op, none⟩ :: r) σ Q) (hpo M r (σ.put d undefA) Q) := wpo_grd
theorem wpd_grdH {M : Mach} {d : Dst} {op : COp} {x : Opd} {w : Bool} {l tl : Bool} {u : List Nat} {r : List DCop} {i lg} {σ : St} {Q} : wpd M (⟨⟨d, op, some (x, w)⟩, l, tl, u⟩ :: r) i lg σ Q = grd (rho σ.p σ.t x) w (hpd M (⟨⟨d, op, none⟩, l, tl, u⟩ :: r) i lg σ Q) (hpd M r (i + 1) (if l then (i, .no) :: lg else lg) (σ.put d undefA) Q) := wpd_grd
theorem optB_bool {b : Bool} {A B : Prop} : optB (some (.bool b)) A B = brB b A B := by cases b <;> rfl
theorem brB_trueC {M a σ Q B} : brB true (hpc M a σ Q) B = wpc M a σ Q := rfl
theorem brB_falseC {M a σ Q A} : brB false A (hpc M a σ Q) = wpc M a σ Q := rfl
theorem brB_trueO {M a σ Q B} : brB true (hpo M a σ Q) B = wpo M a σ Q := rfl
theorem brB_falseO {M a σ Q A} : brB false A (hpo M a σ Q) = wpo M a σ Q := rfl
theorem brB_trueD {M a i lg σ Q B} : brB true (hpd M a i lg σ Q) B = wpd M a i lg σ Q := rfl
theorem brB_falseD {M a i lg σ Q A} : brB false A (hpd M a i lg σ Q) = wpd M a i lg σ Q := rfl
theorem grd_true {b : Bool} {A B : Prop} : grd (some (.bool b)) true A B = brB b A B := by cases b <;> rfl
theorem grd_false {b : Bool} {A B : Prop} : grd (some (.bool b)) false A B = brB b B A := by cases b <;> rfl
theorem grd_undefO {M a σ Q} {w : Bool} {A : Prop} : grd (some (.tup [])) w A (hpo M a σ Q) = wpo M a σ Q := rfl
theorem grd_undefD {M a i lg σ Q} {w : Bool} {A : Prop} : grd (some (.tup [])) w A (hpd M a i lg σ Q) = wpd M a i lg σ Q := rfl
theorem optF_fn {f : FuncId} {cap : List AV} {k} : optF (some (.fn f cap)) k = k f cap := rfl
theorem optI_iface {t : TypeId} {v : AV} {k} : optI (some (.iface t v)) k = k (.iface t v) := rfl
theorem seqK_normal {M : Mach} {b Q σ} : seqK M b Q .normal σ = wpc M b σ Q := rfl
theorem seqK_exit {M : Mach} {b Q σ i} : seqK M b Q (.exit i) σ = Q (.exit i) σ := rfl
theorem seqK_ret {M : Mach} {b Q σ} : seqK M b Q .ret σ = Q .ret σ := rfl
theorem seqK_panic {M : Mach} {b Q σ c} : seqK M b Q (.panic c) σ = Q (.panic c) σ := rfl
theorem blockK_normal {i l Q σ} : blockK i l Q .normal σ = Q .normal (σ.keep l) := rfl
theorem blockK_exit {i l Q σ j} : blockK i l Q (.exit j) σ = if j = i then Q .normal (σ.keep l) else Q (.exit j) σ := rfl
theorem blockK_ret {i l Q σ} : blockK i l Q .ret σ = Q .ret σ := rfl
theorem blockK_panic {i l Q σ c} : blockK i l Q (.panic c) σ = Q (.panic c) σ := rfl
theorem lk_keepM {i : Nat} {l : List (Nat × AV)} : ∀ {live : List Nat}, i ∈ live → lk i (keep live l) = lk i l
  | [], h => by simp at h
  | j :: r, h => by
    simp only [keep]
    by_cases e : i = j
    · subst e
      cases hj : lk i l with
      | none =>
        simp only
        by_cases hm : i ∈ r
        · rw [lk_keepM hm, hj]
        · have : ∀ r : List Nat, i ∉ r → lk i (keep r l) = none := by
            intro r
            induction r with
            | nil => intro _; rfl
            | cons k r ih =>
              intro hk
              simp only [List.mem_cons, not_or] at hk
              simp only [keep]
              split
              · simp only [lk, if_neg hk.1]; exact ih hk.2
              · exact ih hk.2
          exact this r hm
      | some v => simp only [lk, if_true]
    · have hm : i ∈ r := by simpa [e] using h
      cases hj : lk j l with
      | none => simp only; exact lk_keepM hm
      | some v => simp only [lk, if_neg e]; exact lk_keepM hm
theorem keep_sub {live : List Nat} {l : List (Nat × AV)} : ∀ {sub : List Nat}, (∀ i ∈ sub, i ∈ live) → keep sub (keep live l) = keep sub l
  | [], _ => rfl
  | j :: r, h => by
    simp only [keep]
    rw [lk_keepM (h j (by simp)), keep_sub fun i hi => h i (by simp [hi])]
theorem St.keep_keep {σ : St} {live : List Nat} : (σ.keep live).keep live = σ.keep live := by
  simp only [St.keep]; rw [keep_sub fun _ h => h]
theorem wpl_norm {M : Mach} {live c σ Q} : wpl M live c σ Q = wpl M live c (σ.keep live) Q := by rw [wpl_step, wpl_step, St.keep_keep]
theorem wpc_loopH {M : Mach} {live c σ Q} : wpc M (.loop live c) σ Q = wpl M live c (σ.keep live) Q := by rw [wpc_loop, wpl_norm]
theorem loopK_normal {M : Mach} {l b Q σ} : loopK M l b Q .normal σ = wpl M l b (σ.keep l) Q := wpl_norm
theorem loopK_exit {M : Mach} {l b Q σ i} : loopK M l b Q (.exit i) σ = Q (.exit i) σ := rfl
theorem loopK_ret {M : Mach} {l b Q σ} : loopK M l b Q .ret σ = Q .ret σ := rfl
theorem loopK_panic {M : Mach} {l b Q σ c} : loopK M l b Q (.panic c) σ = Q (.panic c) σ := rfl
theorem callK_ret {M : Mach} {d r σ Q v H} : callK M d r σ Q (.ret v) H = wpo M r (({ σ with H := H } : St).put d v) Q := rfl
theorem callK_pan {M : Mach} {d r σ Q c H} : callK M d r σ Q (.pan c) H = Q (.panic c) { σ with H := H } := rfl
theorem callPK_ret {M : Mach} {d r σ Q v H} : callPK M d r σ Q (.ret v) H = (v.flat = true ∧ wpo M r (σ.put d v) Q) := rfl
theorem dcallQK_ret {M : Mach} {g d r i l σ Q v H1} : dcallQK M g d r i l σ Q (.ret v) H1 = optA (newBs H1 g (H1.size - g)) fun bs => drawK M d r i l σ Q (shA g σ.H.size v) (σ.H.pushAll (bs.map (shAs g σ.H.size))) := rfl
theorem dcallPK_ret {M : Mach} {d r i l σ Q v H} : dcallPK M d r i l σ Q (.ret v) H = (v.flat = true ∧ drawK M d r i l σ Q v σ.H) := rfl
@[congr] theorem dcallPK_congr {M : Mach} {d r i l s Q} {c c' : End} {H H' : Heap} (h : c = c') (h' : H = H') : dcallPK M d r i l s Q c H = dcallPK M d r i l s Q c' H' := by rw [h, h']
theorem dcallK_ret {M : Mach} {d r i l σ Q v H} : dcallK M d r i l σ Q (.ret v) H = drawK M d r i l σ Q v H := rfl
theorem finK_normal {M : Mach} {rs Q σ} : finK M rs Q .normal σ = wpe M rs σ.p σ.d .ret σ.H Q := rfl
theorem finK_ret {M : Mach} {rs Q σ} : finK M rs Q .ret σ = wpe M rs σ.p σ.d .ret σ.H Q := rfl
theorem finK_panic {M : Mach} {rs Q σ c} : finK M rs Q (.panic c) σ = wpe M rs σ.p σ.d (.pan c) σ.H Q := rfl
theorem dfinK_normal {rs Q σ} : dfinK rs Q .normal σ = (σ.d = [] ∧ optA (resAs σ.p σ.H rs) fun l => Q (.ret (resV l)) σ.u σ.H) := rfl
theorem dfinK_ret {rs Q σ} : dfinK rs Q .ret σ = (σ.d = [] ∧ optA (resAs σ.p σ.H rs) fun l => Q (.ret (resV l)) σ.u σ.H) := rfl
theorem dfinK_panic {rs Q σ c} : dfinK rs Q (.panic c) σ = (σ.d = [] ∧ Q (.pan c) σ.u σ.H) := rfl
theorem dfrK_ret {M : Mach} {rs p ds Q v u H} : dfrK M rs p ds Q (.ret v) u H = wpe M rs p ds (settleA u) H Q := rfl
theorem dfrK_pan {M : Mach} {rs p ds Q c u H} : dfrK M rs p ds Q (.pan c) u H = wpe M rs p ds (raisedA u c) H Q := rfl

-- memory
theorem Heap.get_push_self {H : Heap} {x : Blk} : (H.push x).get H.size = x := by rw [Heap.get_push, if_pos rfl]
theorem Heap.get_push_lt {H : Heap} {x : Blk} {b : Nat} (h : b < H.size) : (H.push x).get b = H.get b := by rw [Heap.get_push, if_neg (by omega)]
theorem Heap.get_push_eq {H : Heap} {x : Blk} {b : Nat} (h : b = H.size) : (H.push x).get b = x := by rw [Heap.get_push, if_pos h]
theorem Heap.get_set_self {H : Heap} {x : Blk} {b : Nat} (h : b < H.size) : (H.set b x).get b = x := by rw [Heap.get_set _ _ _ _ h, if_pos rfl]
theorem Heap.get_set_ne {H : Heap} {x : Blk} {b c : Nat} (h : c ≠ b) : (H.set b x).get c = H.get c := by
  simp only [Heap.get, Heap.set]
  rw [Tab.get_setF _ _ _ _ _ (Nat.lt_succ_self _), if_neg h]
  rfl
theorem Tab.setF_same : ∀ (f g : Nat) (t : Tab) (i : Nat) (x y : Blk), i < f → i < g → Tab.setF f (Tab.setF g t i x) i y = Tab.setF f t i y
  | 0, _, _, _, _, _, h, _ => absurd h (by omega)
  | _ + 1, 0, _, _, _, _, _, h => absurd h (by omega)
  | f + 1, g + 1, t, i, x, y, h, k => by
    cases i with
    | zero => cases t <;> rfl
    | succ i =>
      have ih := fun t => Tab.setF_same f g t (i / 2) x y (by omega) (by omega)
      cases t <;> by_cases hi : i % 2 = 0 <;> simp only [Tab.setF, hi, if_true, if_false, ih]
theorem Tab.setF_comm : ∀ (f g : Nat) (t : Tab) (i j : Nat) (x y : Blk), i ≠ j → i < g → j < f → Tab.setF f (Tab.setF g t i x) j y = Tab.setF g (Tab.setF f t j y) i x
  | 0, _, _, _, _, _, _, _, _, h => absurd h (by omega)
  | _ + 1, 0, _, _, _, _, _, _, h, _ => absurd h (by omega)
  | f + 1, g + 1, t, i, j, x, y, hne, hi, hj => by
    cases i with
    | zero =>
      cases j with
      | zero => exact absurd rfl hne
      | succ j => cases t <;> by_cases p : j % 2 = 0 <;> simp only [Tab.setF, p, if_true, if_false]
    | succ i =>
      cases j with
      | zero => cases t <;> by_cases p : i % 2 = 0 <;> simp only [Tab.setF, p, if_true, if_false]
      | succ j =>
        by_cases p : i % 2 = 0
        · by_cases q : j % 2 = 0
          · have ih := fun t => Tab.setF_comm f g t (i / 2) (j / 2) x y (by omega) (by omega) (by omega)
            cases t <;> simp only [Tab.setF, p, q, if_true, ih]
          · cases t <;> simp only [Tab.setF, p, q, if_true, if_false]
        · by_cases q : j % 2 = 0
          · cases t <;> simp only [Tab.setF, p, q, if_true, if_false]
          · have ih := fun t => Tab.setF_comm f g t (i / 2) (j / 2) x y (by omega) (by omega) (by omega)
            cases t <;> simp only [Tab.setF, p, q, if_false, ih]
theorem Heap.push_set_self {H : Heap} {x y : Blk} : (H.push x).set H.size y = H.push y := by
  simp only [Heap.push, Heap.set]; rw [Tab.setF_same _ _ _ _ _ _ (by omega) (by omega)]
theorem Heap.set_set {H : Heap} {b : Nat} {x y : Blk} : (H.set b x).set b y = H.set b y := by
  simp only [Heap.set]; rw [Tab.setF_same _ _ _ _ _ _ (by omega) (by omega)]
theorem Heap.push_set_lt {H : Heap} {b : Nat} {x y : Blk} (h : b < H.size) : (H.push x).set b y = (H.set b y).push x := by
  simp only [Heap.push, Heap.set]; rw [Tab.setF_comm _ _ _ _ _ _ _ (by omega) (by omega) (by omega)]
theorem AV.cells_int {k : IntKind} {n : Int} : AV.cells (.int k n) = [.int k n] := rfl
theorem AV.one_int {k : IntKind} {n : Int} : AV.one (.int k n) = true := rfl
theorem AV.cells_bool {b : Bool} : AV.cells (.bool b) = [.bool b] := rfl
theorem AV.one_bool {b : Bool} : AV.one (.bool b) = true := rfl
theorem AV.cells_str {s : List UInt8} : AV.cells (.str s) = [.str s] := rfl
theorem AV.one_str {s : List UInt8} : AV.one (.str s) = true := rfl
theorem AV.cells_ptr {b o : Nat} : AV.cells (.ptr b o) = [.ptr b o] := rfl
theorem AV.one_ptr {b o : Nat} : AV.one (.ptr b o) = true := rfl
theorem AV.cells_nilp  : AV.cells .nilp = [.nilp] := rfl
theorem AV.one_nilp  : AV.one .nilp = true := rfl
theorem AV.cells_slice {b o n c : Nat} : AV.cells (.slice b o n c) = [.slice b o n c] := rfl
theorem AV.one_slice {b o n c : Nat} : AV.one (.slice b o n c) = true := rfl
theorem AV.cells_osl {s b o n : Nat} : AV.cells (.osl s b o n) = [.osl s b o n] := rfl
theorem AV.one_osl {s b o n : Nat} : AV.one (.osl s b o n) = true := rfl
theorem AV.cells_nils  : AV.cells .nils = [.nils] := rfl
theorem AV.one_nils  : AV.one .nils = true := rfl
theorem AV.cells_map {b : Nat} : AV.cells (.map b) = [.map b] := rfl
theorem AV.one_map {b : Nat} : AV.one (.map b) = true := rfl
theorem AV.cells_nilm  : AV.cells .nilm = [.nilm] := rfl
theorem AV.one_nilm  : AV.one .nilm = true := rfl
theorem AV.cells_fn {f : FuncId} {c : List AV} : AV.cells (.fn f c) = [.fn f c] := rfl
theorem AV.one_fn {f : FuncId} {c : List AV} : AV.one (.fn f c) = true := rfl
theorem AV.cells_nilf  : AV.cells .nilf = [.nilf] := rfl
theorem AV.one_nilf  : AV.one .nilf = true := rfl
theorem AV.cells_iface {t : TypeId} {v : AV} : AV.cells (.iface t v) = [.iface t v] := rfl
theorem AV.one_iface {t : TypeId} {v : AV} : AV.one (.iface t v) = true := rfl
theorem AV.cells_nili  : AV.cells .nili = [.nili] := rfl
theorem AV.one_nili  : AV.one .nili = true := rfl
theorem AV.cells_agg {l : List AV} : AV.cells (.agg l) = l := rfl
theorem AV.cells_tup {l : List AV} : AV.cells (.tup l) = [.tup l] := rfl
theorem AV.one_agg {l : List AV} : AV.one (.agg l) = false := rfl
theorem AV.one_tup {l : List AV} : AV.one (.tup l) = false := rfl
mutual
theorem AV.beq_self : ∀ v : AV, AV.beq v v = true
  | .int _ _ => by simp [AV.beq]
  | .bool _ => by simp [AV.beq]
  | .str _ => by simp [AV.beq]
  | .ptr _ _ => by simp [AV.beq]
  | .nilp => rfl
  | .slice _ _ _ _ => by simp [AV.beq]
  | .osl _ _ _ _ => by simp [AV.beq]
  | .nils => rfl
  | .map _ => by simp [AV.beq]
  | .nilm => rfl
  | .fn _ c => by simp [AV.beq, AV.beqs_self c]
  | .nilf => rfl
  | .iface _ v => by simp [AV.beq, AV.beq_self v]
  | .nili => rfl
  | .agg l => by simp [AV.beq, AV.beqs_self l]
  | .tup l => by simp [AV.beq, AV.beqs_self l]
theorem AV.beqs_self : ∀ l : List AV, AV.beqs l l = true
  | [] => rfl
  | x :: l => by simp [AV.beqs, AV.beq_self x, AV.beqs_self l]
end
attribute [go_sem] wpc_skip wpc_ret wpc_exit wpc_reg wpc_dreg wpc_seq wpc_condH wpc_block wpc_loopH wpo_nil wpo_grdH wpo_call wpo_callV wpo_callP wpo_dfr wpo_panic wpo_recover_ret wpo_recover_pan wpd_nil wpd_grdH wpd_call wpd_callV wpd_callP wpd_callQ wpe_ret wpe_pan wpe_cons wpo_mov wpd_mov wpo_pick wpd_pick wpo_alloc wpd_alloc wpo_box wpd_box wpo_build wpd_build wpo_lit wpd_lit wpo_load1 wpd_load1 wpo_loadN wpd_loadN wpo_store wpd_store wpo_nilCheck wpd_nilCheck wpo_bin wpd_bin wpo_eqv wpd_eqv wpo_un wpd_un wpo_convI wpd_convI wpo_strStr wpd_strStr wpo_intStr wpd_intStr wpo_strBytes wpd_strBytes wpo_bytesStr wpd_bytesStr wpo_mkIface wpd_mkIface wpo_mkFn wpd_mkFn wpo_mkSlice wpd_mkSlice wpo_sliceStr wpd_sliceStr wpo_sliceSl wpd_sliceSl wpo_sliceArr wpd_sliceArr wpo_fieldAddr wpd_fieldAddr wpo_field1 wpd_field1 wpo_fieldN wpd_fieldN wpo_idxAddr wpd_idxAddr wpo_idxArr wpd_idxArr wpo_idxStr wpd_idxStr wpo_idxAgg wpd_idxAgg wpo_extract wpd_extract wpo_lenStr wpd_lenStr wpo_lenSl wpd_lenSl wpo_capSl wpd_capSl wpo_append wpd_append wpo_appendStr wpd_appendStr wpo_appendZ wpd_appendZ wpo_minmax wpd_minmax wpo_assert wpd_assert wpo_rangeStr wpd_rangeStr wpo_nextStr wpd_nextStr wpo_idxByte wpd_idxByte wpo_ext wpd_ext optA_some optA_none optA_map optA_iten optA_nite optB_bool brB_trueC brB_falseC brB_trueO brB_falseO brB_trueD brB_falseD grd_true grd_false grd_undefO grd_undefD optF_fn optI_iface seqK_exit seqK_ret seqK_panic blockK_ret blockK_panic loopK_normal loopK_exit loopK_ret loopK_panic callK_ret callK_pan callPK_ret dcallQK_ret dcallPK_ret dcallK_ret finK_normal finK_ret finK_panic dfinK_normal dfinK_ret dfinK_panic dfrK_ret dfrK_pan evOp rho rhos lk up St.put St.keep keep binA intBin_add intBin_sub intBin_mul intBin_quo intBin_rem intBin_eql intBin_neq intBin_lss intBin_leq intBin_gtr intBin_geq strBin isShift eqA unA bnd elA_slice elA_osl lenI_slice lenI_osl lenI_nils Option.bind_some Option.bind_none fillA wr rd readSl_nils readSl_slice readSl_osl undefA resAs resA resV settleA raisedA drawK mkLog storeAt kindC lkL dynOK sameVal AV.cells_int AV.one_int AV.cells_bool AV.one_bool AV.cells_str AV.one_str AV.cells_ptr AV.one_ptr AV.cells_nilp AV.one_nilp AV.cells_slice AV.one_slice AV.cells_osl AV.one_osl AV.cells_nils AV.one_nils AV.cells_map AV.one_map AV.cells_nilm AV.one_nilm AV.cells_fn AV.one_fn AV.cells_nilf AV.one_nilf AV.cells_iface AV.one_iface AV.cells_nili AV.one_nili AV.cells_agg AV.one_agg AV.cells_tup AV.one_tup AV.flat AV.flats Option.map_some Option.map_none List.length_cons List.length_nil if_true if_false List.all_cons List.all_nil Bool.and_true Bool.true_and and_true true_and List.cons_append List.nil_append AV.beq_self AV.beqs_self Bool.not_true Bool.not_false Heap.size_push Heap.size_set Heap.get_push_self Heap.push_set_self Heap.set_set Option.isSome_some Option.isSome_none List.set_cons_zero List.set_cons_succ List.drop_zero List.drop_succ_cons List.take_succ_cons List.take_zero List.getElem?_cons_zero List.getElem?_cons_succ decide_true decide_false Bool.false_eq_true Int.toNat_natCast Int.cast_ofNat_Int Int.natCast_zero Int.natCast_one Int.natCast_nonneg Nat.add_zero Nat.zero_add Nat.mul_one Nat.zero_mul Int.add_zero Int.zero_add eq_self
end Go.Ev
