/- Several texts of this claim, joined. -/
import Derived.Test.YtibdapopccemeaaGreatDoorT20
import Derived.Test.YtibdapopccemeaaGreatDoorT12
import Derived.KernelRfl
import Derived.Test.YtibdapopccemeaaGreatDoorT15
set_option linter.unusedSimpArgs false
set_option linter.unusedVariables false

/- The table is the program's: printed by gen.py. -/
namespace Go.Ev
open Go Go.Proofs
theorem table : Table Tryz.prog chkDrawn bt.get := BT.table (P := Tryz.prog) bt (⟨⟨⟨⟨⟨⟨⟨⟨_, at3, ck3⟩, ⟨_, at4, ck4⟩⟩, ⟨⟨_, at5, ck5⟩, ⟨_, at6, ck6⟩⟩⟩, ⟨⟨⟨_, at7, ck7⟩, ⟨_, at8, ck8⟩⟩, ⟨⟨_, at9, ck9⟩, ⟨⟨_, at10, ck10⟩, ⟨_, at11, ck11⟩⟩⟩⟩⟩, ⟨⟨⟨⟨_, at12, ck12⟩, ⟨_, at13, ck13⟩⟩, ⟨⟨_, at14, ck14⟩, ⟨_, at15, ck15⟩⟩⟩, ⟨⟨⟨_, at16, ck16⟩, ⟨_, at17, ck17⟩⟩, ⟨⟨_, at18, ck18⟩, ⟨⟨_, at19, ck19⟩, ⟨_, at20, ck20⟩⟩⟩⟩⟩⟩, ⟨⟨⟨⟨⟨_, at21, ck21⟩, ⟨_, at22, ck22⟩⟩, ⟨⟨_, at23, ck23⟩, ⟨_, at24, ck24⟩⟩⟩, ⟨⟨⟨_, at25, ck25⟩, ⟨_, at26, ck26⟩⟩, ⟨⟨_, at27, ck27⟩, ⟨⟨_, at28, ck28⟩, ⟨_, at29, ck29⟩⟩⟩⟩⟩, ⟨⟨⟨⟨_, at30, ck30⟩, ⟨_, at31, ck31⟩⟩, ⟨⟨_, at32, ck32⟩, ⟨⟨_, at33, ck33⟩, ⟨_, at34, ck34⟩⟩⟩⟩, ⟨⟨⟨_, at35, ck35⟩, ⟨_, at36, ck36⟩⟩, ⟨⟨_, at37, ck37⟩, ⟨⟨_, at38, ck38⟩, ⟨_, at39, ck39⟩⟩⟩⟩⟩⟩⟩, ⟨⟨⟨⟨⟨⟨_, at40, ck40⟩, ⟨_, at41, ck41⟩⟩, ⟨⟨_, at42, ck42⟩, ⟨_, at43, ck43⟩⟩⟩, ⟨⟨⟨_, at44, ck44⟩, ⟨_, at45, ck45⟩⟩, ⟨⟨_, at46, ck46⟩, ⟨⟨_, at47, ck47⟩, ⟨_, at48, ck48⟩⟩⟩⟩⟩, ⟨⟨⟨⟨_, at49, ck49⟩, ⟨_, at50, ck50⟩⟩, ⟨⟨_, at51, ck51⟩, ⟨_, at52, ck52⟩⟩⟩, ⟨⟨⟨_, at53, ck53⟩, ⟨_, at54, ck54⟩⟩, ⟨⟨_, at55, ck55⟩, ⟨⟨_, at56, ck56⟩, ⟨_, at57, ck57⟩⟩⟩⟩⟩⟩, ⟨⟨⟨⟨⟨_, at58, ck58⟩, ⟨_, at59, ck59⟩⟩, ⟨⟨_, at60, ck60⟩, ⟨_, at61, ck61⟩⟩⟩, ⟨⟨⟨_, at62, ck62⟩, ⟨_, at63, ck63⟩⟩, ⟨⟨_, at64, ck64⟩, ⟨⟨_, at65, ck65⟩, ⟨_, at66, ck66⟩⟩⟩⟩⟩, ⟨⟨⟨⟨_, at67, ck67⟩, ⟨_, at68, ck68⟩⟩, ⟨⟨_, at69, ck69⟩, ⟨⟨_, at70, ck70⟩, ⟨_, at71, ck71⟩⟩⟩⟩, ⟨⟨⟨_, at72, ck72⟩, ⟨_, at73, ck73⟩⟩, ⟨⟨_, at74, ck74⟩, ⟨⟨_, at75, ck75⟩, ⟨_, at76, ck76⟩⟩⟩⟩⟩⟩⟩⟩, ⟨⟨⟨⟨⟨⟨⟨_, at77, ck77⟩, ⟨_, at78, ck78⟩⟩, ⟨⟨_, at79, ck79⟩, ⟨_, at80, ck80⟩⟩⟩, ⟨⟨⟨_, at81, ck81⟩, ⟨_, at82, ck82⟩⟩, ⟨⟨_, at83, ck83⟩, ⟨⟨_, at84, ck84⟩, ⟨_, at85, ck85⟩⟩⟩⟩⟩, ⟨⟨⟨⟨_, at86, ck86⟩, ⟨_, at87, ck87⟩⟩, ⟨⟨_, at88, ck88⟩, ⟨_, at89, ck89⟩⟩⟩, ⟨⟨⟨_, at90, ck90⟩, ⟨_, at91, ck91⟩⟩, ⟨⟨_, at92, ck92⟩, ⟨⟨_, at93, ck93⟩, ⟨_, at94, ck94⟩⟩⟩⟩⟩⟩, ⟨⟨⟨⟨⟨_, at95, ck95⟩, ⟨_, at96, ck96⟩⟩, ⟨⟨_, at97, ck97⟩, ⟨_, at98, ck98⟩⟩⟩, ⟨⟨⟨_, at99, ck99⟩, ⟨_, at100, ck100⟩⟩, ⟨⟨_, at101, ck101⟩, ⟨⟨_, at102, ck102⟩, ⟨_, at103, ck103⟩⟩⟩⟩⟩, ⟨⟨⟨⟨_, at104, ck104⟩, ⟨_, at105, ck105⟩⟩, ⟨⟨_, at106, ck106⟩, ⟨⟨_, at107, ck107⟩, ⟨_, at108, ck108⟩⟩⟩⟩, ⟨⟨⟨_, at109, ck109⟩, ⟨_, at110, ck110⟩⟩, ⟨⟨_, at111, ck111⟩, ⟨⟨_, at112, ck112⟩, ⟨_, at113, ck113⟩⟩⟩⟩⟩⟩⟩, ⟨⟨⟨⟨⟨⟨_, at114, ck114⟩, ⟨_, at115, ck115⟩⟩, ⟨⟨_, at116, ck116⟩, ⟨_, at117, ck117⟩⟩⟩, ⟨⟨⟨_, at118, ck118⟩, ⟨_, at119, ck119⟩⟩, ⟨⟨_, at120, ck120⟩, ⟨⟨_, at121, ck121⟩, ⟨_, at122, ck122⟩⟩⟩⟩⟩, ⟨⟨⟨⟨_, at124, ck124⟩, ⟨_, at126, ck126⟩⟩, ⟨⟨_, at127, ck127⟩, ⟨⟨_, at128, ck128⟩, ⟨_, at129, ck129⟩⟩⟩⟩, ⟨⟨⟨_, at130, ck130⟩, ⟨_, at131, ck131⟩⟩, ⟨⟨_, at132, ck132⟩, ⟨⟨_, at133, ck133⟩, ⟨_, at134, ck134⟩⟩⟩⟩⟩⟩, ⟨⟨⟨⟨⟨_, at135, ck135⟩, ⟨_, at136, ck136⟩⟩, ⟨⟨_, at137, ck137⟩, ⟨_, at138, ck138⟩⟩⟩, ⟨⟨⟨_, at139, ck139⟩, ⟨_, at140, ck140⟩⟩, ⟨⟨_, at141, ck141⟩, ⟨⟨_, at142, ck142⟩, ⟨_, at143, ck143⟩⟩⟩⟩⟩, ⟨⟨⟨⟨_, at144, ck144⟩, ⟨_, at150, ck150⟩⟩, ⟨⟨_, at151, ck151⟩, ⟨⟨_, at152, ck152⟩, ⟨_, at153, ck153⟩⟩⟩⟩, ⟨⟨⟨_, at154, ck154⟩, ⟨_, at155, ck155⟩⟩, ⟨⟨_, at163, ck163⟩, ⟨⟨_, at164, ck164⟩, ⟨_, at169, ck169⟩⟩⟩⟩⟩⟩⟩⟩⟩)
end Go.Ev
/- The package-level variables that the rows list. -/
namespace Go.Ev
open Go Go.Proofs
def glFirst : List AV := [.int .u8 240, .int .u8 240, .int .u8 240, .int .u8 240, .int .u8 240, .int .u8 240, .int .u8 240, .int .u8 240, .int .u8 240, .int .u8 240, .int .u8 240, .int .u8 240, .int .u8 240, .int .u8 240, .int .u8 240, .int .u8 240, .int .u8 240, .int .u8 240, .int .u8 240, .int .u8 240, .int .u8 240, .int .u8 240, .int .u8 240, .int .u8 240, .int .u8 240, .int .u8 240, .int .u8 240, .int .u8 240, .int .u8 240, .int .u8 240, .int .u8 240, .int .u8 240, .int .u8 240, .int .u8 240, .int .u8 240, .int .u8 240, .int .u8 240, .int .u8 240, .int .u8 240, .int .u8 240, .int .u8 240, .int .u8 240, .int .u8 240, .int .u8 240, .int .u8 240, .int .u8 240, .int .u8 240, .int .u8 240, .int .u8 240, .int .u8 240, .int .u8 240, .int .u8 240, .int .u8 240, .int .u8 240, .int .u8 240, .int .u8 240, .int .u8 240, .int .u8 240, .int .u8 240, .int .u8 240, .int .u8 240, .int .u8 240, .int .u8 240, .int .u8 240, .int .u8 240, .int .u8 240, .int .u8 240, .int .u8 240, .int .u8 240, .int .u8 240, .int .u8 240, .int .u8 240, .int .u8 240, .int .u8 240, .int .u8 240, .int .u8 240, .int .u8 240, .int .u8 240, .int .u8 240, .int .u8 240, .int .u8 240, .int .u8 240, .int .u8 240, .int .u8 240, .int .u8 240, .int .u8 240, .int .u8 240, .int .u8 240, .int .u8 240, .int .u8 240, .int .u8 240, .int .u8 240, .int .u8 240, .int .u8 240, .int .u8 240, .int .u8 240, .int .u8 240, .int .u8 240, .int .u8 240, .int .u8 240, .int .u8 240, .int .u8 240, .int .u8 240, .int .u8 240, .int .u8 240, .int .u8 240, .int .u8 240, .int .u8 240, .int .u8 240, .int .u8 240, .int .u8 240, .int .u8 240, .int .u8 240, .int .u8 240, .int .u8 240, .int .u8 240, .int .u8 240, .int .u8 240, .int .u8 240, .int .u8 240, .int .u8 240, .int .u8 240, .int .u8 240, .int .u8 240, .int .u8 240, .int .u8 240, .int .u8 240, .int .u8 240, .int .u8 241, .int .u8 241, .int .u8 241, .int .u8 241, .int .u8 241, .int .u8 241, .int .u8 241, .int .u8 241, .int .u8 241, .int .u8 241, .int .u8 241, .int .u8 241, .int .u8 241, .int .u8 241, .int .u8 241, .int .u8 241, .int .u8 241, .int .u8 241, .int .u8 241, .int .u8 241, .int .u8 241, .int .u8 241, .int .u8 241, .int .u8 241, .int .u8 241, .int .u8 241, .int .u8 241, .int .u8 241, .int .u8 241, .int .u8 241, .int .u8 241, .int .u8 241, .int .u8 241, .int .u8 241, .int .u8 241, .int .u8 241, .int .u8 241, .int .u8 241, .int .u8 241, .int .u8 241, .int .u8 241, .int .u8 241, .int .u8 241, .int .u8 241, .int .u8 241, .int .u8 241, .int .u8 241, .int .u8 241, .int .u8 241, .int .u8 241, .int .u8 241, .int .u8 241, .int .u8 241, .int .u8 241, .int .u8 241, .int .u8 241, .int .u8 241, .int .u8 241, .int .u8 241, .int .u8 241, .int .u8 241, .int .u8 241, .int .u8 241, .int .u8 241, .int .u8 241, .int .u8 241, .int .u8 2, .int .u8 2, .int .u8 2, .int .u8 2, .int .u8 2, .int .u8 2, .int .u8 2, .int .u8 2, .int .u8 2, .int .u8 2, .int .u8 2, .int .u8 2, .int .u8 2, .int .u8 2, .int .u8 2, .int .u8 2, .int .u8 2, .int .u8 2, .int .u8 2, .int .u8 2, .int .u8 2, .int .u8 2, .int .u8 2, .int .u8 2, .int .u8 2, .int .u8 2, .int .u8 2, .int .u8 2, .int .u8 2, .int .u8 2, .int .u8 19, .int .u8 3, .int .u8 3, .int .u8 3, .int .u8 3, .int .u8 3, .int .u8 3, .int .u8 3, .int .u8 3, .int .u8 3, .int .u8 3, .int .u8 3, .int .u8 3, .int .u8 35, .int .u8 3, .int .u8 3, .int .u8 52, .int .u8 4, .int .u8 4, .int .u8 4, .int .u8 68, .int .u8 241, .int .u8 241, .int .u8 241, .int .u8 241, .int .u8 241, .int .u8 241, .int .u8 241, .int .u8 241, .int .u8 241, .int .u8 241, .int .u8 241]
def glAccept : List AV := [.int .u8 128, .int .u8 191, .int .u8 160, .int .u8 191, .int .u8 128, .int .u8 159, .int .u8 144, .int .u8 191, .int .u8 128, .int .u8 143, .int .u8 0, .int .u8 0, .int .u8 0, .int .u8 0, .int .u8 0, .int .u8 0, .int .u8 0, .int .u8 0, .int .u8 0, .int .u8 0, .int .u8 0, .int .u8 0, .int .u8 0, .int .u8 0, .int .u8 0, .int .u8 0, .int .u8 0, .int .u8 0, .int .u8 0, .int .u8 0, .int .u8 0, .int .u8 0]
def glOwn : List AV := [.str [116, 111, 107], .str [114, 117, 108, 101], .str [105, 110, 116], .str [99, 97, 108, 108], .str [114, 101, 116], .str [102, 114, 101, 101]]
def gl : List Blk := [.cells glOwn .ro, .cells glFirst .ro, .cells glAccept .ro, .dead, .dead, .dead, .dead, .dead, .dead]
/-- Other variables that stay. -/
def glExtra : List (Nat × Blk) := [(0, .cells glOwn .ro)]
theorem glExtra_lt : ∀ p ∈ glExtra, p.1 < 3 := fun p hp => by simp [glExtra] at hp; subst hp; decide
theorem gl_ok : gl.all glBlk = true := by kernel_rfl
theorem gl_len : gl.length = Tryz.prog.globals.size := by kernel_rfl
/-- Does it come to 'true'? -/
def retB : Option (Ev.End × Heap) → Bool
  | some (.ret (.bool b), _) => b
  | _ => false
theorem retB_some {x : Option (Ev.End × Heap)} (h : retB x = true) : ∃ H, x = some (.ret (.bool true), H) := by
  unfold retB at h
  split at h
  · subst h; exact ⟨_, rfl⟩
  · cases h
theorem callOK (n B : Nat) : CallOK Tryz.prog B (evFn bt.get n) := fn_sound table (drawn_all _) n
end Go.Ev
/- Bytes to runes: what it is, plainly; what utf8.DecodeRune comes to. -/
namespace Go.Ev
open Go
/-- The tables of unicode/utf8 lie there. -/
def GlH (H : Heap) : Prop := 3 ≤ H.size ∧ H.get 1 = .cells glFirst .ro ∧ H.get 2 = .cells glAccept .ro ∧ ∀ p ∈ glExtra, H.get p.1 = p.2
theorem GlH.ext {n0 : Nat} {H H' : Heap} (h : GlH H) (hn : 3 ≤ n0) (e : Ext n0 H H') : GlH H' := ⟨Nat.le_trans h.1 e.1, by rw [e.2 1 (by omega), h.2.1], by rw [e.2 2 (by omega), h.2.2.1], fun p hp => by rw [e.2 p.1 (Nat.lt_of_lt_of_le (glExtra_lt p hp) hn), h.2.2.2 p hp]⟩
def longN (n : Nat) : Nat := if n < 128 then 1 else if 194 ≤ n ∧ n ≤ 223 then 2 else if 224 ≤ n ∧ n ≤ 239 then 3 else if 240 ≤ n ∧ n ≤ 244 then 4 else 0
def longB (c : UInt8) : Nat := longN c.toNat
def secLo (n : Nat) : Nat := if n = 224 then 160 else if n = 240 then 144 else 128
def secHi (n : Nat) : Nat := if n = 237 then 159 else if n = 244 then 143 else 191
/-- May a byte stand behind those that are held? -/
def okB (held : List UInt8) (c : UInt8) : Bool := match held with
  | [] => decide (longB c ≠ 0)
  | [h] => decide (secLo h.toNat ≤ c.toNat ∧ c.toNat ≤ secHi h.toNat)
  | _ => decide (128 ≤ c.toNat ∧ c.toNat ≤ 191)
/-- The rune of a whole sequence. -/
def decR : List UInt8 → Nat
  | [a] => a.toNat
  | [a, b] => (a.toNat % 32) * 64 + b.toNat % 64
  | [a, b, c] => (a.toNat % 16) * 4096 + (b.toNat % 64) * 64 + c.toNat % 64
  | [a, b, c, d] => (a.toNat % 8) * 262144 + (b.toNat % 64) * 4096 + (c.toNat % 64) * 64 + d.toNat % 64
  | _ => 65533
/-- Whole sequences. -/
def whole : List UInt8 → Bool
  | [a] => longB a == 1
  | [a, b] => longB a == 2 && okB [a] b
  | [a, b, c] => longB a == 3 && okB [a] b && okB [a, b] c
  | [a, b, c, d] => longB a == 4 && okB [a] b && okB [a, b] c && okB [a, b, c] d
  | _ => false
def firstN (n : Nat) : Nat := if n < 128 then 240 else if n < 194 then 241 else if n < 224 then 2 else if n = 224 then 19 else if n = 237 then 35 else if n < 240 then 3 else if n = 240 then 52 else if n < 244 then 4 else if n = 244 then 68 else 241
theorem first_all : ((List.range 256).all fun n => match glFirst[n]? with | some v => AV.beq v (.int .u8 (firstN n)) | none => false) = true := by kernel_rfl
theorem first_at (c : UInt8) : glFirst[c.toNat]? = some (.int .u8 (firstN c.toNat)) := by
  have h := List.all_eq_true.1 first_all c.toNat (List.mem_range.2 c.toNat_lt)
  split at h
  · rename_i v hv; rw [hv, AV.beq_eq _ _ h]
  · cases h
def u8and (n m : Int) : Int := IntKind.u8.wrap (BitVec.ofInt 8 n &&& BitVec.ofInt 8 m).toNat
theorem intBin_u8and {n m : Int} : intBin .and .u8 n m = some (.int .u8 (u8and n m)) := rfl
theorem u8and_all : ((List.range 256).all fun n => decide (u8and n 31 = (n % 32 : Nat)) && decide (u8and n 15 = (n % 16 : Nat)) && decide (u8and n 7 = (n % 8 : Nat)) && decide (u8and n 63 = (n % 64 : Nat))) = true := by kernel_rfl
theorem u8and_at (c : UInt8) : u8and c.toNat 31 = (c.toNat % 32 : Nat) ∧ u8and c.toNat 15 = (c.toNat % 16 : Nat) ∧ u8and c.toNat 7 = (c.toNat % 8 : Nat) ∧ u8and c.toNat 63 = (c.toNat % 64 : Nat) := by
  have h := List.all_eq_true.1 u8and_all c.toNat (List.mem_range.2 c.toNat_lt)
  simp only [Bool.and_eq_true, decide_eq_true_eq] at h
  exact ⟨h.1.1.1, h.1.1.2, h.1.2, h.2⟩
theorem wi32 {x : Int} (h0 : -2147483648 ≤ x) (h1 : x ≤ 2147483647) : IntKind.i32.wrap x = x := by rw [IntKind.wrap_i32]; omega
theorem shl_i32 {a : Nat} {k : Nat} (hk : k ≤ 32) (h : a * 2 ^ k ≤ 2147483647) : shiftA .shl .i32 (a : Int) (k : Int) = some (.int .i32 ((a * 2 ^ k : Nat) : Int)) := by
  have e : min ((k : Int).toNat) IntKind.i32.bits = k := by simp only [Int.toNat_natCast]; exact Nat.min_eq_left hk
  simp only [shiftA, if_neg (show ¬((k : Int) < 0) by omega), e]
  have e2 : (a : Int) * 2 ^ k = ((a * 2 ^ k : Nat) : Int) := by rw [Int.natCast_mul, Int.natCast_pow]; rfl
  rw [e2]
  generalize a * 2 ^ k = z at h ⊢
  rw [wi32 (by omega) (by omega)]
theorem or_i32 {a b k : Nat} (hb : b < 2 ^ k) (h : 2 ^ k * a + b ≤ 2147483647) : intBin .or .i32 ((2 ^ k * a : Nat) : Int) (b : Int) = some (.int .i32 ((2 ^ k * a + b : Nat) : Int)) := by
  have e : (BitVec.ofInt 32 ((2 ^ k * a : Nat) : Int) ||| BitVec.ofInt 32 (b : Int)).toNat = 2 ^ k * a + b := by
    rw [BitVec.toNat_or, BitVec.ofInt_natCast, BitVec.ofInt_natCast, BitVec.toNat_ofNat, BitVec.toNat_ofNat, Nat.mod_eq_of_lt (by omega), Nat.mod_eq_of_lt (by omega), Nat.two_pow_add_eq_or_of_lt hb]
  show some (AV.int .i32 (IntKind.i32.wrap ((BitVec.ofInt 32 ((2 ^ k * a : Nat) : Int) ||| BitVec.ofInt 32 (b : Int)).toNat : Int))) = _
  rw [e, wi32 (by omega) (by omega)]
/- Package runes: numbers of scalar values. -/
open Go.Ev renaming seqK_normal → zA, blockK_normal → zB, blockK_exit → zC
open Nat renaming reduceEqDiff → zD, reduceAdd → zE, reduceSub → zF, reduceMul → zG, reduceLeDiff → zH, reduceLT → zI
open Int renaming reduceToNat → zJ, reduceLT → zK, reduceLE → zL, reduceEq → zM, reduceAdd → zN, reduceSub → zO, reduceMul → zP
set_option maxRecDepth 8000
def isR (r : Int) : Bool := (decide (0 ≤ r) && decide (r < 55296)) || (decide (57343 < r) && decide (r ≤ 1114111))
def numN (r : Int) : Nat := if r < 0 then 0 else if r < 55296 then r.toNat else if r ≤ 57343 then 55296 else if 1114112 < r then 1112064 else r.toNat - 2048
def behN (r : Int) : Nat := if isR r then numN r + 1 else numN r
def valN (n : Nat) : Nat := if n < 55296 then n else n + 2048
/-- A number of 32 bits. -/
def I32 (r : Int) : Prop := -2147483648 ≤ r ∧ r ≤ 2147483647
theorem numN_le (r : Int) : numN r ≤ 1112064 := by
  unfold numN
  repeat' split
  all_goals omega
theorem behN_le (r : Int) : behN r ≤ 1112065 := by
  have := numN_le r
  unfold behN
  split <;> omega
section
variable {o : CallF} (ho : OvOnly o)
include ho
theorem r_number {r : Int} (hr : I32 r) {H : Heap} {Q : End → Heap → Prop} (h : Q (.ret (.int .i64 (numN r : Int))) H) : wpf ⟨bt.get, o⟩ F_runes_number [.int .i32 r] H Q := by
  rw [fn_runes_number (ho _ _ _ (by decide))]
  obtain ⟨r1, r2⟩ := hr
  have fin : ∀ k : Int, (numN r : Int) = k → Q (.ret (.int .i64 k)) H := fun k e => by rw [← e]; exact h
  have w1 : IntKind.i64.wrap r = r := wi64 (by omega) (by omega)
  by_cases h1 : r < 0
  · simp only [bd_runes_number, go_sem, zA, zB, zC, reduceIte, zD, zE, zF, zG, zH, zI, reduceCtorEq, zJ, zK, zL, zM, zN, zO, zP, h1]
    exact fin 0 (by simp only [numN, if_pos h1]; rfl)
  · by_cases h2 : r < 55296
    · simp only [bd_runes_number, go_sem, zA, zB, zC, reduceIte, zD, zE, zF, zG, zH, zI, reduceCtorEq, zJ, zK, zL, zM, zN, zO, zP, h1, h2, w1]
      exact fin r (by simp only [numN, if_neg h1, if_pos h2]; omega)
    · by_cases h3 : r ≤ 57343
      · simp only [bd_runes_number, go_sem, zA, zB, zC, reduceIte, zD, zE, zF, zG, zH, zI, reduceCtorEq, zJ, zK, zL, zM, zN, zO, zP, h1, h2, h3]
        exact fin 55296 (by simp only [numN, if_neg h1, if_neg h2, if_pos h3]; rfl)
      · by_cases h4 : 1114112 < r
        · have w2 : IntKind.i64.wrap 1112064 = 1112064 := by rfl
          simp only [bd_runes_number, go_sem, zA, zB, zC, reduceIte, zD, zE, zF, zG, zH, zI, reduceCtorEq, zJ, zK, zL, zM, zN, zO, zP, h1, h2, h3, w1, minmaxA, h4, w2]
          exact fin 1112064 (by simp only [numN, if_neg h1, if_neg h2, if_neg h3, if_pos h4]; rfl)
        · have w2 : IntKind.i64.wrap (r - 2048) = r - 2048 := wi64 (by omega) (by omega)
          simp only [bd_runes_number, go_sem, zA, zB, zC, reduceIte, zD, zE, zF, zG, zH, zI, reduceCtorEq, zJ, zK, zL, zM, zN, zO, zP, h1, h2, h3, w1, minmaxA, h4, w2]
          exact fin (r - 2048) (by simp only [numN, if_neg h1, if_neg h2, if_neg h3, if_neg h4]; omega)
theorem r_is {r : Int} {H : Heap} {Q : End → Heap → Prop} (h : Q (.ret (.bool (isR r))) H) : wpf ⟨bt.get, o⟩ F_runes_is [.int .i32 r] H Q := by
  rw [fn_runes_is (ho _ _ _ (by decide))]
  have fin : ∀ k : Bool, isR r = k → Q (.ret (.bool k)) H := fun k e => by rw [← e]; exact h
  by_cases h1 : 0 ≤ r
  · by_cases h2 : r < 55296
    · simp only [bd_runes_is, go_sem, zA, zB, zC, reduceIte, zD, zE, zF, zG, zH, zI, reduceCtorEq, zJ, zK, zL, zM, zN, zO, zP, h1, h2]
      exact fin true (by simp [isR, h1, h2])
    · by_cases h3 : 57343 < r
      · by_cases h4 : r ≤ 1114111
        · simp only [bd_runes_is, go_sem, zA, zB, zC, reduceIte, zD, zE, zF, zG, zH, zI, reduceCtorEq, zJ, zK, zL, zM, zN, zO, zP, h1, h2, h3, h4]
          exact fin true (by simp [isR, h3, h4])
        · simp only [bd_runes_is, go_sem, zA, zB, zC, reduceIte, zD, zE, zF, zG, zH, zI, reduceCtorEq, zJ, zK, zL, zM, zN, zO, zP, h1, h2, h3, h4]
          exact fin false (by simp [isR, h2, h4])
      · simp only [bd_runes_is, go_sem, zA, zB, zC, reduceIte, zD, zE, zF, zG, zH, zI, reduceCtorEq, zJ, zK, zL, zM, zN, zO, zP, h1, h2, h3]
        exact fin false (by simp [isR, h2, h3])
  · have h3 : ¬ 57343 < r := by omega
    simp only [bd_runes_is, go_sem, zA, zB, zC, reduceIte, zD, zE, zF, zG, zH, zI, reduceCtorEq, zJ, zK, zL, zM, zN, zO, zP, h1, h3]
    exact fin false (by simp [isR, h1, h3])
theorem r_behind {r : Int} (hr : I32 r) {H : Heap} {Q : End → Heap → Prop} (h : Q (.ret (.int .i64 (behN r : Int))) H) : wpf ⟨bt.get, o⟩ F_runes_behind [.int .i32 r] H Q := by
  rw [fn_runes_behind (ho _ _ _ (by decide))]
  have hle := numN_le r
  simp only [bd_runes_behind, go_sem, zA, zB, zC, reduceIte, zD, zE, zF, zG, zH, zI, reduceCtorEq, zJ, zK, zL, zM, zN, zO, zP]
  refine r_number ho hr ?_
  simp only [go_sem, zA, zB, zC, reduceIte, zD, zE, zF, zG, zH, zI, reduceCtorEq, zJ, zK, zL, zM, zN, zO, zP]
  refine r_is ho ?_
  cases hi : isR r
  · simp only [go_sem, zA, zB, zC, reduceIte, zD, zE, zF, zG, zH, zI, reduceCtorEq, zJ, zK, zL, zM, zN, zO, zP]
    simpa [behN, hi] using h
  · simp only [go_sem, zA, zB, zC, reduceIte, zD, zE, zF, zG, zH, zI, reduceCtorEq, zJ, zK, zL, zM, zN, zO, zP, wsucc (show numN r ≤ 1000000000 by omega)]
    simpa [behN, hi] using h
theorem r_value {n : Nat} (hn : n ≤ 2000000) {H : Heap} {Q : End → Heap → Prop} (h : Q (.ret (.int .i32 (valN n : Int))) H) : wpf ⟨bt.get, o⟩ F_runes_value [.int .i64 (n : Int)] H Q := by
  rw [fn_runes_value (ho _ _ _ (by decide))]
  by_cases h1 : n < 55296
  · have h1' : (n : Int) < 55296 := by omega
    have w1 : IntKind.i32.wrap (n : Int) = (n : Int) := wi32 (by omega) (by omega)
    simp only [bd_runes_value, go_sem, zA, zB, zC, reduceIte, zD, zE, zF, zG, zH, zI, reduceCtorEq, zJ, zK, zL, zM, zN, zO, zP, h1', w1]
    simpa [valN, h1] using h
  · have h1' : ¬ (n : Int) < 55296 := by omega
    have w0 : IntKind.i64.wrap ((n : Int) + 2048) = (n : Int) + 2048 := wi64 (by omega) (by omega)
    have w1 : IntKind.i32.wrap ((n : Int) + 2048) = ((n + 2048 : Nat) : Int) := by rw [wi32 (by omega) (by omega)]; rfl
    simp only [bd_runes_value, go_sem, zA, zB, zC, reduceIte, zD, zE, zF, zG, zH, zI, reduceCtorEq, zJ, zK, zL, zM, zN, zO, zP, h1', w0, w1]
    simpa [valN, h1] using h
end
/- Sorting of spans: what insertionSortCmpFunc comes to. -/
set_option maxRecDepth 8000
def cmpZ (a b : Int) : Int := if a < b then -1 else if b < a then 1 else 0
theorem cmpZ_lt (a b : Int) : (cmpZ a b < 0) = (a < b) := by
  unfold cmpZ
  repeat' split
  all_goals simp <;> omega
theorem cmpZ_lt' (a b : Nat) : (cmpZ (a : Int) (b : Int) < 0) = (a < b) := by rw [cmpZ_lt]; simp
theorem wpred {n : Nat} (h0 : 0 < n) (h : n ≤ 1000000000) : IntKind.i64.wrap ((n : Int) - 1) = ((n - 1 : Nat) : Int) := by
  rw [wi64 (by omega) (by omega)]; omega
section
variable {o : CallF} (ho : OvOnly o)
include ho
theorem c_Compare {a b : Int} {H : Heap} {Q : End → Heap → Prop} (h : Q (.ret (.int .i64 (cmpZ a b))) H) : wpf ⟨bt.get, o⟩ F_cmp_Compare_int [.int .i64 a, .int .i64 b] H Q := by
  rw [fn_cmp_Compare_int (ho _ _ _ (by decide))]
  simp only [bd_cmp_Compare_int, go_sem, zA, zB, zC, reduceIte, zD, zE, zF, zG, zH, zI, reduceCtorEq, zJ, zK, zL, zM, zN, zO, zP]
  rw [fn_cmp_isNaN_int (ho _ _ _ (by decide))]
  simp only [bd_cmp_isNaN_int, go_sem, zA, zB, zC, reduceIte, zD, zE, zF, zG, zH, zI, reduceCtorEq, zJ, zK, zL, zM, zN, zO, zP]
  rw [fn_cmp_isNaN_int (ho _ _ _ (by decide))]
  simp only [bd_cmp_isNaN_int, go_sem, zA, zB, zC, reduceIte, zD, zE, zF, zG, zH, zI, reduceCtorEq, zJ, zK, zL, zM, zN, zO, zP]
  by_cases h1 : a < b
  · simp only [go_sem, zA, zB, zC, reduceIte, zD, zE, zF, zG, zH, zI, reduceCtorEq, zJ, zK, zL, zM, zN, zO, zP, h1]
    simpa only [cmpZ, if_pos h1] using h
  · by_cases h2 : b < a
    · simp only [go_sem, zA, zB, zC, reduceIte, zD, zE, zF, zG, zH, zI, reduceCtorEq, zJ, zK, zL, zM, zN, zO, zP, h1, h2]
      simpa only [cmpZ, if_neg h1, if_pos h2] using h
    · simp only [go_sem, zA, zB, zC, reduceIte, zD, zE, zF, zG, zH, zI, reduceCtorEq, zJ, zK, zL, zM, zN, zO, zP, h1, h2]
      simpa only [cmpZ, if_neg h1, if_neg h2] using h
theorem c_cmp {a b : S} {H : Heap} {Q : End → Heap → Prop} (h : ∀ H', Ext H.size H H' → Q (.ret (.int .i64 (cmpZ a.1 b.1))) H') : wpf ⟨bt.get, o⟩ F_runes_spans_1 [.agg a.cells, .agg b.cells] H Q := by
  rw [fn_runes_spans_1 (ho _ _ _ (by decide))]
  have e1 : ((H.push (.cells [.int .i64 a.1, .int .i64 a.2] .own)).push (.cells [.int .i64 b.1, .int .i64 b.2] .own)).get H.size = .cells [.int .i64 a.1, .int .i64 a.2] .own := by
    rw [Heap.get_push_lt (by rw [Heap.size_push]; omega), Heap.get_push_self]
  have e2 : ((H.push (.cells [.int .i64 a.1, .int .i64 a.2] .own)).push (.cells [.int .i64 b.1, .int .i64 b.2] .own)).get (H.size + 1) = .cells [.int .i64 b.1, .int .i64 b.2] .own := by
    rw [Heap.get_push_eq (by rw [Heap.size_push])]
  simp only [bd_runes_spans_1, go_sem, zA, zB, zC, reduceIte, zD, zE, zF, zG, zH, zI, reduceCtorEq, zJ, zK, zL, zM, zN, zO, zP, S.cells, e1, e2]
  refine c_Compare ho ?_
  simp only [go_sem, zA, zB, zC, reduceIte, zD, zE, zF, zG, zH, zI, reduceCtorEq, zJ, zK, zL, zM, zN, zO, zP]
  exact h _ ((Ext.push (Nat.le_refl _)).trans (Ext.push (by rw [Heap.size_push]; omega)))
abbrev cmpV : AV := .fn F_runes_spans_1 []
/-- The arguments of the sorting functions: a slice of spans. -/
abbrev slV (sb n : Nat) : AV := .osl 2 sb 0 n
theorem ins_loop0 {n a b i sb : Nat} (hn : n ≤ 1000000) {Q : Ctl → St → Prop} : ∀ (j : Nat) (l : List S) (H : Heap), a ≤ j → j ≤ i → i < n → l.length = n → H.get sb = .cells (scells l) .own →
    (∀ p q, a ≤ p → p < q → q ≤ i → p ≠ j → q ≠ j → key l p ≤ key l q) → (∀ q, j < q → q ≤ i → key l j ≤ key l q) →
    (∀ l' H' j' x t, PermOn a (i + 1) l l' → SortedOn a (i + 1) l' → Fr sb .nils H H' → H'.get sb = .cells (scells l') .own → Q (.exit 2) { p := [(0, slV sb n), (1, .int .i64 a), (2, .int .i64 b), (3, cmpV), (8, .int .i64 i), (9, j'), (34, x)], t := t, H := H', d := [], u := .norm }) →
    wpl ⟨bt.get, o⟩ [0, 1, 2, 3, 8, 9] lb_slices_insertionSortCmpFunc_runes_span_0 { p := [(0, slV sb n), (1, .int .i64 a), (2, .int .i64 b), (3, cmpV), (8, .int .i64 i), (9, .int .i64 j)], t := [], H := H, d := [], u := .norm } Q := by
  intro j
  induction j with
  | zero =>
    intro l H h1 h2 h3 hl hg hA hB hQ
    rw [wpl_step]
    have c1 : ¬ ((a : Int) < ((0 : Nat) : Int)) := by omega
    have a0 : a = 0 := by omega
    subst a0
    simp only [lb_slices_insertionSortCmpFunc_runes_span_0, go_sem, zA, zB, zC, reduceIte, zD, zE, zF, zG, zH, zI, reduceCtorEq, zJ, zK, zL, zM, zN, zO, zP]
    refine hQ l H _ _ _ PermOn.refl (fun p q g1 g2 g3 => ?_) ⟨Nat.le_refl _, fun _ _ _ _ => rfl⟩ hg
    by_cases e : p = 0
    · subst e; exact hB q (by omega) (by omega)
    · exact hA p q g1 g2 (by omega) e (by omega)
  | succ j ih =>
    intro l H h1 h2 h3 hl hg hA hB hQ
    rw [wpl_step]
    by_cases ha : a = j + 1
    · have c1 : ¬ ((a : Int) < ((j + 1 : Nat) : Int)) := by omega
      simp only [lb_slices_insertionSortCmpFunc_runes_span_0, go_sem, zA, zB, zC, reduceIte, zD, zE, zF, zG, zH, zI, reduceCtorEq, zJ, zK, zL, zM, zN, zO, zP, c1]
      refine hQ l H _ _ _ PermOn.refl (fun p q g1 g2 g3 => ?_) ⟨Nat.le_refl _, fun _ _ _ _ => rfl⟩ hg
      by_cases e : p = j + 1
      · subst e; exact hB q (by omega) (by omega)
      · exact hA p q g1 g2 (by omega) e (by omega)
    · have c1 : ((a : Int) < ((j + 1 : Nat) : Int)) := by omega
      have c2 : ((j + 1 : Nat) : Int) < (n : Int) := by omega
      have c3 : (j : Int) < (n : Int) := by omega
      have wp := wpred (n := j + 1) (by omega) (by omega)
      rw [Nat.add_sub_cancel] at wp
      have g1 := get_of (l := l) (i := j + 1) (by omega)
      have g0 := get_of (l := l) (i := j) (by omega)
      obtain ⟨s1, s1'⟩ := scells_at g1
      obtain ⟨s0, s0'⟩ := scells_at g0
      simp only [lb_slices_insertionSortCmpFunc_runes_span_0, go_sem, zA, zB, zC, reduceIte, zD, zE, zF, zG, zH, zI, reduceCtorEq, zJ, zK, zL, zM, zN, zO, zP, c1, c2, c3, wp, hg, s0, s1, s0', s1']
      refine c_cmp ho fun H1 hx1 => ?_
      have hlt : sb < H.size := Heap.lt_of_get (by rw [hg]; simp)
      have hg1 : H1.get sb = .cells (scells l) .own := by rw [hx1.2 sb hlt, hg]
      have hlt1 : sb < H1.size := Heap.lt_of_get (by rw [hg1]; simp)
      have fr1 : Fr sb .nils H H1 := ⟨hx1.1, fun c hc _ _ => hx1.2 c hc⟩
      simp only [go_sem, zA, zB, zC, reduceIte, zD, zE, zF, zG, zH, zI, reduceCtorEq, zJ, zK, zL, zM, zN, zO, zP, cmpZ_lt']
      by_cases hc : (l.getD (j + 1) (0, 0)).1 < (l.getD j (0, 0)).1
      · have x0 := scells_setS (l := l) (i := j + 1) (l.getD j (0, 0)) (by omega)
        have x1 := scells_setS (l := l.set (j + 1) (l.getD j (0, 0))) (i := j) (l.getD (j + 1) (0, 0)) (by simp; omega)
        have y0 : j * 2 + 2 ≤ (scells (l.set (j + 1) (l.getD j (0, 0)))).length := by rw [scells_len, List.length_set]; omega
        simp only [go_sem, zA, zB, zC, reduceIte, zD, zE, zF, zG, zH, zI, reduceCtorEq, zJ, zK, zL, zM, zN, zO, zP, hc, c2, c3, wp, hg1, s0, s1, s0', s1', S.cells, Heap.get_set_self hlt1, List.length_set, x0, x1, y0]
        have ks := key_swp (l := l) (i := j + 1) (j := j) (by omega) (by omega)
        have kc : key l (j + 1) < key l j := hc
        refine ih (swp l (j + 1) j) _ (by omega) (by omega) h3 (by rw [swp_len]; exact hl) (Heap.get_set_self hlt1) (fun p q g1 g2 g3 g4 g5 => ?_) (fun q g1 g2 => ?_) fun l' H' j' x t k1 k2 k3 k4 => hQ l' H' j' x t ((PermOn.swp (by omega) (by omega) (by omega) (by omega) (by omega)).trans k1) k2 (fr1.trans (Fr.set.trans k3)) k4
        · rw [ks, ks, if_neg g4, if_neg g5]
          by_cases e1 : p = j + 1
          · rw [if_pos e1, if_neg (by omega)]
            exact hA j q (by omega) (by omega) g3 (by omega) (by omega)
          · rw [if_neg e1]
            by_cases e2 : q = j + 1
            · rw [if_pos e2]
              exact hA p j g1 (by omega) (by omega) e1 (by omega)
            · rw [if_neg e2]
              exact hA p q g1 g2 g3 e1 e2
        · rw [ks, ks, if_pos rfl, if_neg (by omega)]
          by_cases e2 : q = j + 1
          · rw [if_pos e2]; omega
          · rw [if_neg e2]
            exact hB q (by omega) g2
      · simp only [go_sem, zA, zB, zC, reduceIte, zD, zE, zF, zG, zH, zI, reduceCtorEq, zJ, zK, zL, zM, zN, zO, zP, hc]
        refine hQ l H1 _ _ _ PermOn.refl (fun p q g1 g2 g3 => ?_) fr1 hg1
        have hk : key l j ≤ key l (j + 1) := by unfold key; omega
        by_cases e : p = j + 1
        · subst e; exact hB q (by omega) (by omega)
        · by_cases e2 : q = j + 1
          · subst e2
            by_cases e3 : p = j
            · subst e3; exact hk
            · exact Nat.le_trans (hA p j g1 (by omega) (by omega) e (by omega)) hk
          · exact hA p q g1 g2 (by omega) e e2
theorem ins_loop1 {n a b sb : Nat} (hn : n ≤ 1000000) (hb : b ≤ n) {Q : Ctl → St → Prop} : ∀ (m i : Nat) (l : List S) (H : Heap), b - i ≤ m → a < i → l.length = n → H.get sb = .cells (scells l) .own → SortedOn a i l →
    (∀ l' H' i' x t, PermOn a b l l' → SortedOn a b l' → Fr sb .nils H H' → H'.get sb = .cells (scells l') .own → Q (.exit 0) { p := [(0, slV sb n), (1, .int .i64 a), (2, .int .i64 b), (3, cmpV), (8, i'), (14, x)], t := t, H := H', d := [], u := .norm }) →
    wpl ⟨bt.get, o⟩ [0, 1, 2, 3, 8] lb_slices_insertionSortCmpFunc_runes_span_1 { p := [(0, slV sb n), (1, .int .i64 a), (2, .int .i64 b), (3, cmpV), (8, .int .i64 i)], t := [], H := H, d := [], u := .norm } Q := by
  intro m
  induction m with
  | zero =>
    intro i l H h1 h2 hl hg hS hQ
    rw [wpl_step]
    have c1 : ¬ ((i : Int) < (b : Int)) := by omega
    simp only [lb_slices_insertionSortCmpFunc_runes_span_1, go_sem, zA, zB, zC, reduceIte, zD, zE, zF, zG, zH, zI, reduceCtorEq, zJ, zK, zL, zM, zN, zO, zP, c1]
    exact hQ l H _ _ _ PermOn.refl (fun p q g1 g2 g3 => hS p q g1 g2 (by omega)) Fr.refl hg
  | succ m ih =>
    intro i l H h1 h2 hl hg hS hQ
    rw [wpl_step]
    by_cases c : i < b
    · have c1 : ((i : Int) < (b : Int)) := by omega
      simp only [lb_slices_insertionSortCmpFunc_runes_span_1, go_sem, zA, zB, zC, reduceIte, zD, zE, zF, zG, zH, zI, reduceCtorEq, zJ, zK, zL, zM, zN, zO, zP, c1]
      refine ins_loop0 ho hn i l H (by omega) (Nat.le_refl _) (by omega) hl hg (fun p q g1 g2 g3 g4 g5 => hS p q g1 g2 (by omega)) (fun q g1 g2 => by omega) fun l' H' j' x t k1 k2 k3 k4 => ?_
      simp only [go_sem, zA, zB, zC, reduceIte, zD, zE, zF, zG, zH, zI, reduceCtorEq, zJ, zK, zL, zM, zN, zO, zP, wsucc (show i ≤ 1000000000 by omega)]
      refine ih (i + 1) l' H' (by omega) (by omega) (by rw [k1.len]; exact hl) k4 k2 fun l2 H2 i2 x2 t2 g1 g2 g3 g4 => hQ l2 H2 i2 x2 t2 ((k1.widen (Nat.le_refl _) (by omega)).trans g1) g2 (k3.trans g3) g4
    · have c1 : ¬ ((i : Int) < (b : Int)) := by omega
      simp only [lb_slices_insertionSortCmpFunc_runes_span_1, go_sem, zA, zB, zC, reduceIte, zD, zE, zF, zG, zH, zI, reduceCtorEq, zJ, zK, zL, zM, zN, zO, zP, c1]
      exact hQ l H _ _ _ PermOn.refl (fun p q g1 g2 g3 => hS p q g1 g2 (by omega)) Fr.refl hg
theorem ins_sort {n a b sb : Nat} (hn : n ≤ 1000000) (hb : b ≤ n) {l : List S} {H : Heap} (hl : l.length = n) (hg : H.get sb = .cells (scells l) .own) (ha : a ≤ 1000000) {Q : End → Heap → Prop}
    (hQ : ∀ l' H', PermOn a b l l' → SortedOn a b l' → Fr sb .nils H H' → H'.get sb = .cells (scells l') .own → Q (.ret (.tup [])) H') :
    wpf ⟨bt.get, o⟩ F_slices_insertionSortCmpFunc_runes_span [slV sb n, .int .i64 a, .int .i64 b, cmpV] H Q := by
  rw [fn_slices_insertionSortCmpFunc_runes_span (ho _ _ _ (by decide))]
  simp only [bd_slices_insertionSortCmpFunc_runes_span, go_sem, zA, zB, zC, reduceIte, zD, zE, zF, zG, zH, zI, reduceCtorEq, zJ, zK, zL, zM, zN, zO, zP, wsucc (show a ≤ 1000000000 by omega)]
  refine ins_loop1 ho hn hb _ (a + 1) l H (Nat.le_refl _) (by omega) hl hg (fun p q g1 g2 g3 => by omega) fun l' H' i' x t k1 k2 k3 k4 => ?_
  simp only [go_sem, zA, zB, zC, reduceIte, zD, zE, zF, zG, zH, zI, reduceCtorEq, zJ, zK, zL, zM, zN, zO, zP]
  exact hQ l' H' k1 k2 k3 k4
end
/- Sorting of few spans: what slices.SortFunc comes to. -/
set_option maxRecDepth 8000
theorem wu8 {x : Int} (h0 : 0 ≤ x) (h1 : x ≤ 255) : IntKind.u8.wrap x = x := by
  simp only [IntKind.wrap]
  simp [IntKind.signed, IntKind.bits]
  omega
theorem wu64' {x : Int} (h0 : 0 ≤ x) (h1 : x ≤ 1000000000) : IntKind.u64.wrap x = x := by
  simp only [IntKind.wrap]
  simp [IntKind.signed, IntKind.bits]
  omega
section
variable {o : CallF} (ho : OvOnly o)
include ho
theorem b_Len {n : Nat} (hn : n < 65536) {H : Heap} {Q : End → Heap → Prop} (h : ∀ k : Nat, k ≤ 300 → Q (.ret (.int .i64 (k : Int))) H) : wpf ⟨bt.get, o⟩ F_bits_Len [.int .u64 (n : Int)] H Q := by
  rw [fn_bits_Len (ho _ _ _ (by decide))]
  simp only [bd_bits_Len, go_sem, zA, zB, zC, reduceIte, zD, zE, zF, zG, zH, zI, reduceCtorEq, zJ, zK, zL, zM, zN, zO, zP]
  rw [fn_bits_Len64 (ho _ _ _ (by decide))]
  have c1 : ¬ ((4294967296 : Int) ≤ (n : Int)) := by omega
  have c2 : ¬ ((65536 : Int) ≤ (n : Int)) := by omega
  by_cases c : 256 ≤ n
  · have c3 : ((256 : Int) ≤ (n : Int)) := by omega
    have e1 : shiftA .shr .u64 (n : Int) 8 = some (.int .u64 ((n / 256 : Nat) : Int)) := by
      show some (AV.int .u64 ((n : Int).fdiv (2 ^ (min (8 : Int).toNat 64)))) = _
      have : (2 : Int) ^ (min (8 : Int).toNat 64) = 256 := by decide
      rw [this, Int.fdiv_eq_ediv_of_nonneg _ (by omega)]; rfl
    have e2 : IntKind.u8.wrap ((n / 256 : Nat) : Int) = ((n / 256 : Nat) : Int) := wu8 (by omega) (by omega)
    simp only [bd_bits_Len64, go_sem, zA, zB, zC, reduceIte, zD, zE, zF, zG, zH, zI, reduceCtorEq, zJ, zK, zL, zM, zN, zO, zP, c1, c2, c3, e1, e2]
    split
    · rename_i b hb
      have hb2 : b.toNat < 256 := b.toNat_lt
      have e3 : IntKind.i64.wrap (b.toNat : Int) = (b.toNat : Int) := wi64 (by omega) (by omega)
      have e5 : IntKind.i64.wrap (8 + (b.toNat : Int)) = ((8 + b.toNat : Nat) : Int) := by rw [wi64 (by omega) (by omega)]; rfl
      have e4 : IntKind.i64.wrap 8 = 8 := by rfl
      simp only [go_sem, zA, zB, zC, reduceIte, zD, zE, zF, zG, zH, zI, reduceCtorEq, zJ, zK, zL, zM, zN, zO, zP, e3, e4, e5]
      exact h _ (by omega)
    · rename_i hb
      have h2 : 256 ≤ n / 256 := List.getElem?_eq_none_iff.1 hb
      omega
  · have c3 : ¬ ((256 : Int) ≤ (n : Int)) := by omega
    have e2 : IntKind.u8.wrap (n : Int) = (n : Int) := wu8 (by omega) (by omega)
    simp only [bd_bits_Len64, go_sem, zA, zB, zC, reduceIte, zD, zE, zF, zG, zH, zI, reduceCtorEq, zJ, zK, zL, zM, zN, zO, zP, c1, c2, c3, e2]
    split
    · rename_i b hb
      have hb2 : b.toNat < 256 := b.toNat_lt
      have e3 : IntKind.i64.wrap (b.toNat : Int) = (b.toNat : Int) := wi64 (by omega) (by omega)
      simp only [go_sem, zA, zB, zC, reduceIte, zD, zE, zF, zG, zH, zI, reduceCtorEq, zJ, zK, zL, zM, zN, zO, zP, e3]
      exact h _ (by omega)
    · rename_i hb
      have h2 : 256 ≤ n := List.getElem?_eq_none_iff.1 hb
      omega
theorem p_small {n sb k : Nat} (hn : n ≤ 12) {l : List S} {H : Heap} (hl : l.length = n) (hg : H.get sb = .cells (scells l) .own) {Q : End → Heap → Prop}
    (hQ : ∀ l' H', PermOn 0 n l l' → SortedOn 0 n l' → Fr sb .nils H H' → H'.get sb = .cells (scells l') .own → Q (.ret (.tup [])) H') :
    wpf ⟨bt.get, o⟩ F_slices_pdqsortCmpFunc_runes_span [slV sb n, .int .i64 0, .int .i64 n, .int .i64 (k : Int), cmpV] H Q := by
  rw [fn_slices_pdqsortCmpFunc_runes_span (ho _ _ _ (by decide))]
  simp only [bd_slices_pdqsortCmpFunc_runes_span, go_sem, zA, zB, zC, reduceIte, zD, zE, zF, zG, zH, zI, reduceCtorEq, zJ, zK, zL, zM, zN, zO, zP]
  rw [wpl_step]
  have e1 : IntKind.i64.wrap ((n : Int) - 0) = (n : Int) := by rw [Int.sub_zero]; exact wi64 (by omega) (by omega)
  have e2 : (n : Int) ≤ 12 := by omega
  simp only [lb_slices_pdqsortCmpFunc_runes_span_0, go_sem, zA, zB, zC, reduceIte, zD, zE, zF, zG, zH, zI, reduceCtorEq, zJ, zK, zL, zM, zN, zO, zP, e1, e2]
  refine ins_sort ho (a := 0) (by omega) (Nat.le_refl _) hl hg (by omega) fun l' H' k1 k2 k3 k4 => ?_
  simp only [go_sem, zA, zB, zC, reduceIte, zD, zE, zF, zG, zH, zI, reduceCtorEq, zJ, zK, zL, zM, zN, zO, zP]
  exact hQ l' H' k1 k2 k3 k4
theorem s_Sort12 {n sb : Nat} (hn : n ≤ 12) {l : List S} {H : Heap} (hl : l.length = n) (hg : H.get sb = .cells (scells l) .own) {Q : End → Heap → Prop}
    (hQ : ∀ l' H', PermOn 0 n l l' → SortedOn 0 n l' → Fr sb .nils H H' → H'.get sb = .cells (scells l') .own → Q (.ret (.tup [])) H') :
    wpf ⟨bt.get, o⟩ F_slices_SortFunc_runes_span_runes_span [slV sb n, cmpV] H Q := by
  rw [fn_slices_SortFunc_runes_span_runes_span (ho _ _ _ (by decide))]
  have e1 : IntKind.u64.wrap (n : Int) = (n : Int) := wu64' (by omega) (by omega)
  simp only [bd_slices_SortFunc_runes_span_runes_span, go_sem, zA, zB, zC, reduceIte, zD, zE, zF, zG, zH, zI, reduceCtorEq, zJ, zK, zL, zM, zN, zO, zP, e1]
  refine b_Len ho (by omega) fun k hk => ?_
  simp only [go_sem, zA, zB, zC, reduceIte, zD, zE, zF, zG, zH, zI, reduceCtorEq, zJ, zK, zL, zM, zN, zO, zP]
  refine p_small ho hn hl hg fun l' H' k1 k2 k3 k4 => ?_
  simp only [go_sem, zA, zB, zC, reduceIte, zD, zE, zF, zG, zH, zI, reduceCtorEq, zJ, zK, zL, zM, zN, zO, zP]
  exact hQ l' H' k1 k2 k3 k4
theorem s_Sort0 {H : Heap} {Q : End → Heap → Prop} (hQ : Q (.ret (.tup [])) H) :
    wpf ⟨bt.get, o⟩ F_slices_SortFunc_runes_span_runes_span [.nils, cmpV] H Q := by
  rw [fn_slices_SortFunc_runes_span_runes_span (ho _ _ _ (by decide))]
  have e1 : IntKind.u64.wrap 0 = ((0 : Nat) : Int) := wu64' (by omega) (by omega)
  simp only [bd_slices_SortFunc_runes_span_runes_span, go_sem, zA, zB, zC, reduceIte, zD, zE, zF, zG, zH, zI, reduceCtorEq, zJ, zK, zL, zM, zN, zO, zP, e1]
  refine b_Len ho (n := 0) (by omega) fun k hk => ?_
  simp only [go_sem, zA, zB, zC, reduceIte, zD, zE, zF, zG, zH, zI, reduceCtorEq, zJ, zK, zL, zM, zN, zO, zP]
  rw [fn_slices_pdqsortCmpFunc_runes_span (ho _ _ _ (by decide))]
  simp only [bd_slices_pdqsortCmpFunc_runes_span, go_sem, zA, zB, zC, reduceIte, zD, zE, zF, zG, zH, zI, reduceCtorEq, zJ, zK, zL, zM, zN, zO, zP]
  rw [wpl_step]
  have e2 : IntKind.i64.wrap 0 = 0 := by rfl
  simp only [lb_slices_pdqsortCmpFunc_runes_span_0, go_sem, zA, zB, zC, reduceIte, zD, zE, zF, zG, zH, zI, reduceCtorEq, zJ, zK, zL, zM, zN, zO, zP, e2]
  rw [fn_slices_insertionSortCmpFunc_runes_span (ho _ _ _ (by decide))]
  have e4 : IntKind.i64.wrap (0 + 1) = 1 := by rfl
  have e5 : IntKind.i64.wrap 1 = 1 := by rfl
  simp only [bd_slices_insertionSortCmpFunc_runes_span, go_sem, zA, zB, zC, reduceIte, zD, zE, zF, zG, zH, zI, reduceCtorEq, zJ, zK, zL, zM, zN, zO, zP, e4, e5]
  rw [wpl_step]
  simp only [lb_slices_insertionSortCmpFunc_runes_span_1, go_sem, zA, zB, zC, reduceIte, zD, zE, zF, zG, zH, zI, reduceCtorEq, zJ, zK, zL, zM, zN, zO, zP]
  exact hQ
end
/- How long a list of spans may be that is sorted: twelve (no more is needed here). -/
def capN : Nat := 12
theorem capN_le : capN ≤ 50000 := by decide
theorem capN_12 : 12 ≤ capN := Nat.le_refl _
section
variable {o : CallF} (ho : OvOnly o)
include ho
theorem s_SortC {n sb : Nat} (hn : n ≤ capN) (h0 : 0 < n) {l : List S} {H : Heap} (hl : l.length = n) (hg : H.get sb = .cells (scells l) .own) {Q : End → Heap → Prop}
    (hQ : ∀ l' H', PermOn 0 n l l' → SortedOn 0 n l' → Fr sb .nils H H' → H'.get sb = .cells (scells l') .own → Q (.ret (.tup [])) H') :
    wpf ⟨bt.get, o⟩ F_slices_SortFunc_runes_span_runes_span [slV sb n, cmpV] H Q := s_Sort12 ho hn hl hg hQ
end
end Go.Ev
