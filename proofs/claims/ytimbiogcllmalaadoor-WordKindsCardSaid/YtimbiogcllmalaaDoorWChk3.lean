/- Each printed function is the program's: printed by gen.py. -/
import Derived.Test.YtimbiogcllmalaaDoorWTab
import Derived.Test.YtimbiogcllmalaaDoorEvX
import Derived.KernelRfl
import Derived.Test.YtimbiogcllmalaaDoorProg
namespace Go.Ev
open Go Go.Proofs
theorem chk_decode_long : chkFn Tryd.prog chkDrawn Tryd.f76 cf_decode_long = true := by kernel_rfl
theorem at_decode_long : Tryd.prog.funcs[F_decode_long]? = some Tryd.f76 := by kernel_rfl
theorem chk_utf8_decodeRuneSlow : chkFn Tryd.prog chkDrawn Tryd.f77 cf_utf8_decodeRuneSlow = true := by kernel_rfl
theorem at_utf8_decodeRuneSlow : Tryd.prog.funcs[F_utf8_decodeRuneSlow]? = some Tryd.f77 := by kernel_rfl
theorem chk_slices_siftDownCmpFunc_runes_span : chkFn Tryd.prog chkDrawn Tryd.f78 cf_slices_siftDownCmpFunc_runes_span = true := by kernel_rfl
theorem at_slices_siftDownCmpFunc_runes_span : Tryd.prog.funcs[F_slices_siftDownCmpFunc_runes_span]? = some Tryd.f78 := by kernel_rfl
theorem chk_slices_nextPowerOfTwo : chkFn Tryd.prog chkDrawn Tryd.f79 cf_slices_nextPowerOfTwo = true := by kernel_rfl
theorem at_slices_nextPowerOfTwo : Tryd.prog.funcs[F_slices_nextPowerOfTwo]? = some Tryd.f79 := by kernel_rfl
theorem chk_slices_xorshift_Next : chkFn Tryd.prog chkDrawn Tryd.f80 cf_slices_xorshift_Next = true := by kernel_rfl
theorem at_slices_xorshift_Next : Tryd.prog.funcs[F_slices_xorshift_Next]? = some Tryd.f80 := by kernel_rfl
theorem chk_slices_medianAdjacentCmpFunc_runes_span : chkFn Tryd.prog chkDrawn Tryd.f81 cf_slices_medianAdjacentCmpFunc_runes_span = true := by kernel_rfl
theorem at_slices_medianAdjacentCmpFunc_runes_span : Tryd.prog.funcs[F_slices_medianAdjacentCmpFunc_runes_span]? = some Tryd.f81 := by kernel_rfl
theorem chk_slices_medianCmpFunc_runes_span : chkFn Tryd.prog chkDrawn Tryd.f82 cf_slices_medianCmpFunc_runes_span = true := by kernel_rfl
theorem at_slices_medianCmpFunc_runes_span : Tryd.prog.funcs[F_slices_medianCmpFunc_runes_span]? = some Tryd.f82 := by kernel_rfl
theorem chk_decode_second : chkFn Tryd.prog chkDrawn Tryd.f83 cf_decode_second = true := by kernel_rfl
theorem at_decode_second : Tryd.prog.funcs[F_decode_second]? = some Tryd.f83 := by kernel_rfl
theorem chk_slices_Clone_byte_byte : chkFn Tryd.prog chkDrawn Tryd.f84 cf_slices_Clone_byte_byte = true := by kernel_rfl
theorem at_slices_Clone_byte_byte : Tryd.prog.funcs[F_slices_Clone_byte_byte]? = some Tryd.f84 := by kernel_rfl
theorem chk_slices_order2CmpFunc_runes_span : chkFn Tryd.prog chkDrawn Tryd.f85 cf_slices_order2CmpFunc_runes_span = true := by kernel_rfl
theorem at_slices_order2CmpFunc_runes_span : Tryd.prog.funcs[F_slices_order2CmpFunc_runes_span]? = some Tryd.f85 := by kernel_rfl
end Go.Ev
