/- The compiled code of the functions, part 6. -/
import Derived.Test.YtghidedifiolbaaGreatK14
import Derived.Test.YtghidedifiolbaaGreatK15
import Derived.Test.YtghidedifiolbaaGreatK16
import Derived.Test.YtghidedifiolbaaGreatK17
import Derived.Test.YtghidedifiolbaaGreatK18
import Derived.Test.YtghidedifiolbaaGreatK19
import Derived.Test.YtghidedifiolbaaGreatK20
import Derived.Test.YtghidedifiolbaaGreatK07
set_option linter.unusedVariables false
set_option linter.unusedSimpArgs false
set_option maxRecDepth 100000
namespace Go.Proofs.YtghidedifiolbaaGreat
open Go.AM
/-- (*fathom/fathomref04.reader).branches -/
def c140 : AFn := ⟨51, .seq (.region [⟨some 9, .mov (.t 1), none⟩, ⟨some 10, .nck (.t 9), none⟩, ⟨some 11, .fa 0 (.t 10), none⟩, ⟨none, .st 1 (.t 11) (.c (.int .i64 20)), none⟩]) (.seq (.region [⟨some 12, .mov (.t 0), none⟩, ⟨some 13, .call 125 [(.t 12)], none⟩, ⟨some 4, .alloc [(.int .i64 0), (.str []), (.str []), (.int .i64 0), (.cplx 0 0), .nl, (.int .i64 0)], none⟩, ⟨none, .st 7 (.t 4) (.t 13), none⟩]) (.seq (.region [⟨some 14, .mov (.t 0), none⟩, ⟨some 15, .call 122 [(.t 14), (.c (.str [111, 102]))], none⟩]) (.seq (.region [⟨some 16, .mov (.t 0), none⟩, ⟨some 17, .call 122 [(.t 16), (.c (.str [110, 105, 108]))], none⟩]) (.seq (.region [⟨some 18, .mov (.t 0), none⟩, ⟨some 19, .call 122 [(.t 18), (.c (.str [45, 62]))], none⟩]) (.seq (.region [⟨some 20, .mov (.t 0), none⟩, ⟨some 21, .call 125 [(.t 20)], none⟩, ⟨some 5, .alloc [(.int .i64 0), (.str []), (.str []), (.int .i64 0), (.cplx 0 0), .nl, (.int .i64 0)], none⟩, ⟨none, .st 7 (.t 5) (.t 21), none⟩]) (.seq (.region [⟨some 22, .mov (.t 0), none⟩, ⟨some 23, .call 122 [(.t 22), (.c (.str [124]))], none⟩]) (.seq (.region [⟨some 24, .mov (.t 0), none⟩, ⟨some 25, .call 121 [(.t 24)], none⟩, ⟨some 6, .alloc [(.int .i64 0), (.str []), (.cplx 0 0), (.int .i64 0)], none⟩, ⟨none, .st 4 (.t 6) (.t 25), none⟩]) (.seq (.region [⟨some 26, .mov (.t 0), none⟩, ⟨some 27, .call 122 [(.t 26), (.c (.str [58]))], none⟩]) (.seq (.region [⟨some 28, .mov (.t 0), none⟩, ⟨some 29, .call 121 [(.t 28)], none⟩, ⟨some 7, .alloc [(.int .i64 0), (.str []), (.cplx 0 0), (.int .i64 0)], none⟩, ⟨none, .st 4 (.t 7) (.t 29), none⟩]) (.seq (.region [⟨some 30, .mov (.t 0), none⟩, ⟨some 31, .call 122 [(.t 30), (.c (.str [45, 62]))], none⟩]) (.seq (.region [⟨some 32, .mov (.t 0), none⟩, ⟨some 33, .call 125 [(.t 32)], none⟩, ⟨some 8, .alloc [(.int .i64 0), (.str []), (.str []), (.int .i64 0), (.cplx 0 0), .nl, (.int .i64 0)], none⟩, ⟨none, .st 7 (.t 8) (.t 33), none⟩]) (.seq (.region [⟨some 34, .mov (.t 1), none⟩, ⟨some 35, .fa 1 (.t 6), none⟩, ⟨some 36, .ldc (.t 35), none⟩, ⟨some 37, .nck (.t 34), none⟩, ⟨some 38, .fa 1 (.t 37), none⟩, ⟨none, .st 1 (.t 38) (.t 36), none⟩]) (.seq (.region [⟨some 39, .mov (.t 1), none⟩, ⟨some 40, .fa 1 (.t 7), none⟩, ⟨some 41, .ldc (.t 40), none⟩, ⟨some 42, .nck (.t 39), none⟩, ⟨some 43, .fa 2 (.t 42), none⟩, ⟨none, .st 1 (.t 43) (.t 41), none⟩]) (.region [⟨some 44, .mov (.t 1), none⟩, ⟨some 45, .lda 7 (.t 4), none⟩, ⟨some 46, .lda 7 (.t 5), none⟩, ⟨some 47, .lda 7 (.t 8), none⟩, ⟨some 48, .bsl 44 7 [(.t 45), (.t 46), (.t 47)], none⟩, ⟨some 49, .nck (.t 44), none⟩, ⟨some 50, .fa 5 (.t 49), none⟩, ⟨none, .st 1 (.t 50) (.t 48), none⟩])))))))))))))), []⟩
theorem comp140 : compFn Tryz.prog quiet Tryz.f140 = some c140 := by kernel_rfl

/-- fathom/scope.bound -/
def c141 : AFn := ⟨32, .seq (.region [⟨some 2, .box (.t 0), none⟩, ⟨some 4, .mov (.c .nl), none⟩]) (.seq (.block 0 (.seq (.seq (.region [⟨some 6, .fa 0 (.t 2), none⟩, ⟨some 7, .ldc (.t 6), none⟩, ⟨some 8, .bin .eql (.t 7) (.c (.int .i64 21)), none⟩, ⟨some 5, .mov (.t 8), none⟩]) (.cond (.t 5) (.skip) (.region [⟨some 9, .fa 0 (.t 2), none⟩, ⟨some 10, .ldc (.t 9), none⟩, ⟨some 11, .bin .eql (.t 10) (.c (.int .i64 22)), none⟩, ⟨some 12, .mov (.t 11), none⟩, ⟨some 13, .mov (.t 1), (some (12, true))⟩, ⟨some 14, .bin .eql (.t 13) (.c (.int .i64 1)), (some (12, true))⟩, ⟨some 15, .pick (.t 12) (.t 14) (.c (.bool false)), none⟩, ⟨some 5, .mov (.t 15), none⟩]))) (.cond (.t 5) (.seq (.region [⟨some 16, .fa 1 (.t 2), none⟩, ⟨some 17, .ldc (.t 16), none⟩, ⟨some 18, .bsl 9 1 [(.t 17)], none⟩, ⟨some 4, .mov (.t 18), none⟩]) (.ret)) (.seq (.region [⟨some 20, .fa 0 (.t 2), none⟩, ⟨some 21, .ldc (.t 20), none⟩, ⟨some 22, .bin .eql (.t 21) (.c (.int .i64 20)), none⟩, ⟨some 23, .mov (.t 22), none⟩, ⟨some 24, .mov (.t 1), (some (23, true))⟩, ⟨some 25, .bin .eql (.t 24) (.c (.int .i64 2)), (some (23, true))⟩, ⟨some 26, .pick (.t 23) (.t 25) (.c (.bool false)), none⟩, ⟨some 19, .mov (.t 26), none⟩]) (.cond (.t 19) (.seq (.region [⟨some 27, .fa 1 (.t 2), none⟩, ⟨some 28, .ldc (.t 27), none⟩, ⟨some 29, .fa 2 (.t 2), none⟩, ⟨some 30, .ldc (.t 29), none⟩, ⟨some 31, .bsl 9 1 [(.t 28), (.t 30)], none⟩, ⟨some 4, .mov (.t 31), none⟩]) (.ret)) (.skip)))))) (.seq (.region [⟨some 4, .mov (.c .nl), none⟩]) (.ret))), [.t 4]⟩
theorem comp141 : compFn Tryz.prog quiet Tryz.f141 = some c141 := by kernel_rfl

/-- fathom/fathomref01.digits -/
def c142 : AFn := ⟨24, .seq (.region [⟨some 2, .mov (.c (.str [])), none⟩]) (.seq (.seq (.region [⟨some 4, .mov (.t 0), none⟩, ⟨some 5, .bin .lss (.t 4) (.c (.int .i64 0)), none⟩]) (.cond (.t 5) (.seq (.region [⟨some 6, .mov (.t 0), none⟩, ⟨some 7, .un .neg (.t 6), none⟩, ⟨some 8, .call 142 [(.t 7)], none⟩, ⟨some 9, .bin .add (.c (.str [45])) (.t 8), none⟩, ⟨some 2, .mov (.t 9), none⟩]) (.ret)) (.skip))) (.seq (.region [⟨some 10, .mov (.t 0), none⟩, ⟨some 11, .bin .rem (.t 10) (.c (.int .i64 10)), none⟩, ⟨some 12, .bin .add (.c (.int .i64 48)) (.t 11), none⟩, ⟨some 13, .cvi .u8 (.t 12), none⟩, ⟨some 14, .bsl 5 1 [(.t 13)], none⟩, ⟨some 15, .b2s (.t 14), none⟩, ⟨some 3, .mov (.t 15), none⟩]) (.seq (.seq (.region [⟨some 16, .mov (.t 0), none⟩, ⟨some 17, .bin .geq (.t 16) (.c (.int .i64 10)), none⟩]) (.cond (.t 17) (.region [⟨some 18, .mov (.t 0), none⟩, ⟨some 19, .bin .quo (.t 18) (.c (.int .i64 10)), none⟩, ⟨some 20, .call 142 [(.t 19)], none⟩, ⟨some 21, .mov (.t 3), none⟩, ⟨some 22, .bin .add (.t 20) (.t 21), none⟩, ⟨some 3, .mov (.t 22), none⟩]) (.skip))) (.seq (.region [⟨some 23, .mov (.t 3), none⟩, ⟨some 2, .mov (.t 23), none⟩]) (.ret))))), [.t 2]⟩
theorem comp142 : compFn Tryz.prog quiet Tryz.f142 = some c142 := by kernel_rfl

/-- (*fathom/fathomref04.reader).comp -/
def c143 : AFn := ⟨29, .seq (.region [⟨some 2, .alloc [(.int .i64 0), (.str []), (.str []), (.int .i64 0), (.cplx 0 0), .nl, (.int .i64 0)], none⟩]) (.seq (.region [⟨some 7, .mov (.t 0), none⟩, ⟨some 8, .call 145 [(.t 7)], none⟩, ⟨some 3, .alloc [(.int .i64 0), (.str []), (.str []), (.int .i64 0), (.cplx 0 0), .nl, (.int .i64 0)], none⟩, ⟨none, .st 7 (.t 3) (.t 8), none⟩]) (.seq (.region [⟨some 9, .mov (.t 0), none⟩, ⟨some 10, .call 91 [(.t 9)], none⟩, ⟨some 4, .alloc [(.int .i64 0), (.str []), (.cplx 0 0), (.int .i64 0)], none⟩, ⟨none, .st 4 (.t 4) (.t 10), none⟩]) (.seq (.region [⟨some 5, .mov (.c (.int .i64 12)), none⟩]) (.seq (.seq (.region [⟨some 11, .mov (.t 0), none⟩, ⟨some 12, .call 123 [(.t 11), (.c (.str [60]))], none⟩]) (.cond (.t 12) (.region [⟨some 5, .mov (.c (.int .i64 13)), none⟩]) (.skip))) (.seq (.seq (.region [⟨some 13, .mov (.t 0), none⟩, ⟨some 14, .call 137 [(.t 13), (.c (.str [61, 61]))], none⟩, ⟨some 15, .un .not (.t 14), none⟩, ⟨some 16, .mov (.t 15), none⟩, ⟨some 17, .mov (.t 0), (some (16, true))⟩, ⟨some 18, .call 137 [(.t 17), (.c (.str [60]))], (some (16, true))⟩, ⟨some 19, .un .not (.t 18), (some (16, true))⟩, ⟨some 20, .pick (.t 16) (.t 19) (.c (.bool false)), none⟩]) (.cond (.t 20) (.seq (.region [⟨some 21, .lda 7 (.t 3), none⟩, ⟨none, .st 7 (.t 2) (.t 21), none⟩]) (.ret)) (.skip))) (.seq (.region [⟨some 22, .mov (.t 0), none⟩, ⟨some 23, .call 145 [(.t 22)], none⟩, ⟨some 6, .alloc [(.int .i64 0), (.str []), (.str []), (.int .i64 0), (.cplx 0 0), .nl, (.int .i64 0)], none⟩, ⟨none, .st 7 (.t 6) (.t 23), none⟩]) (.seq (.region [⟨some 24, .mov (.t 5), none⟩, ⟨some 25, .lda 7 (.t 3), none⟩, ⟨some 26, .lda 7 (.t 6), none⟩, ⟨some 27, .lda 4 (.t 4), none⟩, ⟨some 28, .call 144 [(.t 24), (.t 25), (.t 26), (.t 27)], none⟩, ⟨none, .st 7 (.t 2) (.t 28), none⟩]) (.ret)))))))), [.many 7 2]⟩
theorem comp143 : compFn Tryz.prog quiet Tryz.f143 = some c143 := by kernel_rfl

/-- fathom/fathomref04.two -/
def c144 : AFn := ⟨16, .seq (.region [⟨some 5, .box (.t 1), none⟩, ⟨some 6, .box (.t 2), none⟩, ⟨some 7, .box (.t 3), none⟩, ⟨some 8, .alloc [(.int .i64 0), (.str []), (.str []), (.int .i64 0), (.cplx 0 0), .nl, (.int .i64 0)], none⟩]) (.seq (.region [⟨some 9, .mov (.t 0), none⟩, ⟨some 10, .lda 7 (.t 5), none⟩, ⟨some 11, .lda 7 (.t 6), none⟩, ⟨some 12, .bsl 44 7 [(.t 10), (.t 11)], none⟩, ⟨some 13, .fa 3 (.t 7), none⟩, ⟨some 14, .ldc (.t 13), none⟩, ⟨some 15, .build [(.int .i64 0), (.str []), (.str []), (.int .i64 0), (.cplx 0 0), .nl, (.int .i64 0)] [(0, 1, (.t 9)), (5, 1, (.t 12)), (6, 1, (.t 14))], none⟩, ⟨none, .st 7 (.t 8) (.t 15), none⟩]) (.ret)), [.many 7 8]⟩
theorem comp144 : compFn Tryz.prog quiet Tryz.f144 = some c144 := by kernel_rfl

/-- (*fathom/fathomref04.reader).sum -/
def c145 : AFn := ⟨35, .seq (.region [⟨some 2, .alloc [(.int .i64 0), (.str []), (.str []), (.int .i64 0), (.cplx 0 0), .nl, (.int .i64 0)], none⟩]) (.seq (.region [⟨some 7, .mov (.t 0), none⟩, ⟨some 8, .call 146 [(.t 7)], none⟩, ⟨some 3, .alloc [(.int .i64 0), (.str []), (.str []), (.int .i64 0), (.cplx 0 0), .nl, (.int .i64 0)], none⟩, ⟨none, .st 7 (.t 3) (.t 8), none⟩]) (.seq (.block 0 (.loop (.seq (.seq (.region [⟨some 9, .mov (.t 0), none⟩, ⟨some 10, .call 123 [(.t 9), (.c (.str [43]))], none⟩, ⟨some 11, .mov (.t 10), none⟩, ⟨some 12, .mov (.t 0), (some (11, false))⟩, ⟨some 13, .call 123 [(.t 12), (.c (.str [45]))], (some (11, false))⟩, ⟨some 14, .pick (.t 11) (.c (.bool true)) (.t 13), none⟩]) (.cond (.t 14) (.skip) (.exit 0))) (.block 1 (.seq (.region [⟨some 15, .mov (.t 0), none⟩, ⟨some 16, .call 91 [(.t 15)], none⟩, ⟨some 4, .alloc [(.int .i64 0), (.str []), (.cplx 0 0), (.int .i64 0)], none⟩, ⟨none, .st 4 (.t 4) (.t 16), none⟩]) (.seq (.region [⟨some 17, .mov (.t 0), none⟩, ⟨some 18, .nck (.t 17), none⟩, ⟨some 19, .fa 1 (.t 18), none⟩, ⟨some 20, .ldc (.t 19), none⟩, ⟨some 21, .bin .add (.t 20) (.c (.int .i64 1)), none⟩, ⟨some 22, .nck (.t 17), none⟩, ⟨some 23, .fa 1 (.t 22), none⟩, ⟨none, .st 1 (.t 23) (.t 21), none⟩]) (.seq (.region [⟨some 24, .mov (.t 0), none⟩, ⟨some 25, .call 146 [(.t 24)], none⟩, ⟨some 5, .alloc [(.int .i64 0), (.str []), (.str []), (.int .i64 0), (.cplx 0 0), .nl, (.int .i64 0)], none⟩, ⟨none, .st 7 (.t 5) (.t 25), none⟩]) (.seq (.region [⟨some 6, .mov (.c (.int .i64 8)), none⟩]) (.seq (.seq (.region [⟨some 26, .fa 1 (.t 4), none⟩, ⟨some 27, .ldc (.t 26), none⟩, ⟨some 28, .bin .eql (.t 27) (.c (.str [45])), none⟩]) (.cond (.t 28) (.region [⟨some 6, .mov (.c (.int .i64 9)), none⟩]) (.skip))) (.region [⟨some 29, .mov (.t 6), none⟩, ⟨some 30, .lda 7 (.t 3), none⟩, ⟨some 31, .lda 7 (.t 5), none⟩, ⟨some 32, .lda 4 (.t 4), none⟩, ⟨some 33, .call 144 [(.t 29), (.t 30), (.t 31), (.t 32)], none⟩, ⟨none, .st 7 (.t 3) (.t 33), none⟩])))))))))) (.seq (.region [⟨some 34, .lda 7 (.t 3), none⟩, ⟨none, .st 7 (.t 2) (.t 34), none⟩]) (.ret)))), [.many 7 2]⟩
theorem comp145 : compFn Tryz.prog quiet Tryz.f145 = some c145 := by kernel_rfl

/-- (*fathom/fathomref04.reader).term -/
def c146 : AFn := ⟨35, .seq (.region [⟨some 2, .alloc [(.int .i64 0), (.str []), (.str []), (.int .i64 0), (.cplx 0 0), .nl, (.int .i64 0)], none⟩]) (.seq (.region [⟨some 7, .mov (.t 0), none⟩, ⟨some 8, .call 147 [(.t 7)], none⟩, ⟨some 3, .alloc [(.int .i64 0), (.str []), (.str []), (.int .i64 0), (.cplx 0 0), .nl, (.int .i64 0)], none⟩, ⟨none, .st 7 (.t 3) (.t 8), none⟩]) (.seq (.block 0 (.loop (.seq (.seq (.region [⟨some 9, .mov (.t 0), none⟩, ⟨some 10, .call 123 [(.t 9), (.c (.str [42]))], none⟩, ⟨some 11, .mov (.t 10), none⟩, ⟨some 12, .mov (.t 0), (some (11, false))⟩, ⟨some 13, .call 123 [(.t 12), (.c (.str [47]))], (some (11, false))⟩, ⟨some 14, .pick (.t 11) (.c (.bool true)) (.t 13), none⟩]) (.cond (.t 14) (.skip) (.exit 0))) (.block 1 (.seq (.region [⟨some 15, .mov (.t 0), none⟩, ⟨some 16, .call 91 [(.t 15)], none⟩, ⟨some 4, .alloc [(.int .i64 0), (.str []), (.cplx 0 0), (.int .i64 0)], none⟩, ⟨none, .st 4 (.t 4) (.t 16), none⟩]) (.seq (.region [⟨some 17, .mov (.t 0), none⟩, ⟨some 18, .nck (.t 17), none⟩, ⟨some 19, .fa 1 (.t 18), none⟩, ⟨some 20, .ldc (.t 19), none⟩, ⟨some 21, .bin .add (.t 20) (.c (.int .i64 1)), none⟩, ⟨some 22, .nck (.t 17), none⟩, ⟨some 23, .fa 1 (.t 22), none⟩, ⟨none, .st 1 (.t 23) (.t 21), none⟩]) (.seq (.region [⟨some 24, .mov (.t 0), none⟩, ⟨some 25, .call 147 [(.t 24)], none⟩, ⟨some 5, .alloc [(.int .i64 0), (.str []), (.str []), (.int .i64 0), (.cplx 0 0), .nl, (.int .i64 0)], none⟩, ⟨none, .st 7 (.t 5) (.t 25), none⟩]) (.seq (.region [⟨some 6, .mov (.c (.int .i64 10)), none⟩]) (.seq (.seq (.region [⟨some 26, .fa 1 (.t 4), none⟩, ⟨some 27, .ldc (.t 26), none⟩, ⟨some 28, .bin .eql (.t 27) (.c (.str [47])), none⟩]) (.cond (.t 28) (.region [⟨some 6, .mov (.c (.int .i64 11)), none⟩]) (.skip))) (.region [⟨some 29, .mov (.t 6), none⟩, ⟨some 30, .lda 7 (.t 3), none⟩, ⟨some 31, .lda 7 (.t 5), none⟩, ⟨some 32, .lda 4 (.t 4), none⟩, ⟨some 33, .call 144 [(.t 29), (.t 30), (.t 31), (.t 32)], none⟩, ⟨none, .st 7 (.t 3) (.t 33), none⟩])))))))))) (.seq (.region [⟨some 34, .lda 7 (.t 3), none⟩, ⟨none, .st 7 (.t 2) (.t 34), none⟩]) (.ret)))), [.many 7 2]⟩
theorem comp146 : compFn Tryz.prog quiet Tryz.f146 = some c146 := by kernel_rfl

/-- (*fathom/fathomref04.reader).unit -/
def c147 : AFn := ⟨101, .seq (.region [⟨some 2, .alloc [(.int .i64 0), (.str []), (.str []), (.int .i64 0), (.cplx 0 0), .nl, (.int .i64 0)], none⟩]) (.seq (.region [⟨some 7, .mov (.t 0), none⟩, ⟨some 8, .call 91 [(.t 7)], none⟩, ⟨some 3, .alloc [(.int .i64 0), (.str []), (.cplx 0 0), (.int .i64 0)], none⟩, ⟨none, .st 4 (.t 3) (.t 8), none⟩]) (.seq (.seq (.region [⟨some 9, .mov (.t 0), none⟩, ⟨some 10, .nck (.t 9), none⟩, ⟨some 11, .fa 2 (.t 10), none⟩, ⟨some 12, .ldc (.t 11), none⟩, ⟨some 13, .bin .neq (.t 12) (.c (.int .i64 0)), none⟩]) (.cond (.t 13) (.seq (.region [⟨some 14, .build [(.int .i64 0), (.str []), (.str []), (.int .i64 0), (.cplx 0 0), .nl, (.int .i64 0)] [], none⟩, ⟨none, .st 7 (.t 2) (.t 14), none⟩]) (.ret)) (.skip))) (.seq (.block 0 (.seq (.region [⟨some 16, .fa 0 (.t 3), none⟩, ⟨some 17, .ldc (.t 16), none⟩, ⟨some 18, .bin .eql (.t 17) (.c (.int .i64 2)), none⟩, ⟨some 15, .mov (.t 18), none⟩]) (.cond (.t 15) (.seq (.region [⟨some 19, .mov (.t 0), none⟩, ⟨some 20, .nck (.t 19), none⟩, ⟨some 21, .fa 1 (.t 20), none⟩, ⟨some 22, .ldc (.t 21), none⟩, ⟨some 23, .bin .add (.t 22) (.c (.int .i64 1)), none⟩, ⟨some 24, .nck (.t 19), none⟩, ⟨some 25, .fa 1 (.t 24), none⟩, ⟨none, .st 1 (.t 25) (.t 23), none⟩]) (.seq (.region [⟨some 26, .fa 2 (.t 3), none⟩, ⟨some 27, .ldc (.t 26), none⟩, ⟨some 28, .fa 3 (.t 3), none⟩, ⟨some 29, .ldc (.t 28), none⟩, ⟨some 30, .build [(.int .i64 0), (.str []), (.str []), (.int .i64 0), (.cplx 0 0), .nl, (.int .i64 0)] [(0, 1, (.c (.int .i64 1))), (4, 1, (.t 27)), (6, 1, (.t 29))], none⟩, ⟨none, .st 7 (.t 2) (.t 30), none⟩]) (.ret))) (.seq (.region [⟨some 32, .fa 0 (.t 3), none⟩, ⟨some 33, .ldc (.t 32), none⟩, ⟨some 34, .bin .eql (.t 33) (.c (.int .i64 0)), none⟩, ⟨some 31, .mov (.t 34), none⟩]) (.cond (.t 31) (.seq (.region [⟨some 35, .mov (.t 0), none⟩, ⟨some 36, .nck (.t 35), none⟩, ⟨some 37, .fa 1 (.t 36), none⟩, ⟨some 38, .ldc (.t 37), none⟩, ⟨some 39, .bin .add (.t 38) (.c (.int .i64 1)), none⟩, ⟨some 40, .nck (.t 35), none⟩, ⟨some 41, .fa 1 (.t 40), none⟩, ⟨none, .st 1 (.t 41) (.t 39), none⟩]) (.seq (.region [⟨some 42, .mov (.t 0), none⟩, ⟨some 43, .lda 4 (.t 3), none⟩, ⟨some 44, .call 148 [(.t 42), (.t 43)], none⟩, ⟨none, .st 7 (.t 2) (.t 44), none⟩]) (.ret))) (.seq (.region [⟨some 46, .mov (.t 0), none⟩, ⟨some 47, .call 137 [(.t 46), (.c (.str [40]))], none⟩, ⟨some 45, .mov (.t 47), none⟩]) (.cond (.t 45) (.seq (.region [⟨some 48, .mov (.t 0), none⟩, ⟨some 49, .call 125 [(.t 48)], none⟩, ⟨some 4, .alloc [(.int .i64 0), (.str []), (.str []), (.int .i64 0), (.cplx 0 0), .nl, (.int .i64 0)], none⟩, ⟨none, .st 7 (.t 4) (.t 49), none⟩]) (.seq (.region [⟨some 50, .mov (.t 0), none⟩, ⟨some 51, .call 122 [(.t 50), (.c (.str [41]))], none⟩]) (.seq (.region [⟨some 52, .lda 7 (.t 4), none⟩, ⟨none, .st 7 (.t 2) (.t 52), none⟩]) (.ret)))) (.seq (.region [⟨some 54, .fa 0 (.t 3), none⟩, ⟨some 55, .ldc (.t 54), none⟩, ⟨some 56, .bin .neq (.t 55) (.c (.int .i64 1)), none⟩, ⟨some 57, .mov (.t 56), none⟩, ⟨some 58, .fa 1 (.t 3), (some (57, false))⟩, ⟨some 59, .ldc (.t 58), (some (57, false))⟩, ⟨some 60, .call 149 [(.t 59)], (some (57, false))⟩, ⟨some 61, .bin .eql (.t 60) (.c (.int .i64 0)), (some (57, false))⟩, ⟨some 62, .pick (.t 57) (.c (.bool true)) (.t 61), none⟩, ⟨some 53, .mov (.t 62), none⟩]) (.cond (.t 53) (.seq (.region [⟨some 63, .mov (.t 0), none⟩, ⟨some 64, .call 120 [(.t 63), (.c (.int .i64 21))], none⟩]) (.seq (.region [⟨some 65, .build [(.int .i64 0), (.str []), (.str []), (.int .i64 0), (.cplx 0 0), .nl, (.int .i64 0)] [], none⟩, ⟨none, .st 7 (.t 2) (.t 65), none⟩]) (.ret))) (.skip)))))))))) (.seq (.region [⟨some 66, .mov (.t 0), none⟩, ⟨some 67, .nck (.t 66), none⟩, ⟨some 68, .fa 1 (.t 67), none⟩, ⟨some 69, .ldc (.t 68), none⟩, ⟨some 70, .bin .add (.t 69) (.c (.int .i64 1)), none⟩, ⟨some 71, .nck (.t 66), none⟩, ⟨some 72, .fa 1 (.t 71), none⟩, ⟨none, .st 1 (.t 72) (.t 70), none⟩]) (.seq (.draw [⟨⟨some 73, .fa 1 (.t 3), none⟩, false, []⟩, ⟨⟨some 74, .ldc (.t 73), none⟩, false, []⟩, ⟨⟨some 75, .call 149 [(.t 74)], none⟩, false, []⟩, ⟨⟨some 76, .fa 3 (.t 3), none⟩, false, []⟩, ⟨⟨some 77, .ldc (.t 76), none⟩, false, []⟩, ⟨⟨some 78, .build [(.int .i64 0), (.str []), (.str []), (.int .i64 0), (.cplx 0 0), .nl, (.int .i64 0)] [(0, 1, (.t 75)), (6, 1, (.t 77))], none⟩, false, []⟩, ⟨⟨some 5, .alloc [(.int .i64 0), (.str []), (.str []), (.int .i64 0), (.cplx 0 0), .nl, (.int .i64 0)], none⟩, true, [⟨some 74, .ldc (.t 73), none⟩, ⟨some 75, .call 149 [(.t 74)], none⟩, ⟨some 77, .ldc (.t 76), none⟩]⟩, ⟨⟨none, .st 7 (.t 5) (.t 78), none⟩, true, []⟩]) (.seq (.seq (.region [⟨some 79, .fa 0 (.t 5), none⟩, ⟨some 80, .ldc (.t 79), none⟩]) (.block 1 (.seq (.region [⟨some 82, .bin .eql (.t 80) (.c (.int .i64 5)), none⟩, ⟨some 81, .mov (.t 82), none⟩]) (.cond (.t 81) (.region [⟨some 83, .mov (.t 0), none⟩, ⟨some 84, .call 124 [(.t 83)], none⟩, ⟨some 85, .fa 3 (.t 5), none⟩, ⟨none, .st 1 (.t 85) (.t 84), none⟩]) (.seq (.seq (.region [⟨some 87, .bin .eql (.t 80) (.c (.int .i64 14)), none⟩, ⟨some 86, .mov (.t 87), none⟩]) (.cond (.t 86) (.skip) (.seq (.region [⟨some 88, .bin .eql (.t 80) (.c (.int .i64 15)), none⟩, ⟨some 86, .mov (.t 88), none⟩]) (.cond (.t 86) (.skip) (.seq (.region [⟨some 89, .bin .eql (.t 80) (.c (.int .i64 16)), none⟩, ⟨some 86, .mov (.t 89), none⟩]) (.cond (.t 86) (.skip) (.region [⟨some 90, .bin .eql (.t 80) (.c (.int .i64 17)), none⟩, ⟨some 86, .mov (.t 90), none⟩]))))))) (.cond (.t 86) (.seq (.region [⟨some 91, .mov (.t 0), none⟩, ⟨some 92, .call 122 [(.t 91), (.c (.str [40]))], none⟩]) (.seq (.region [⟨some 93, .mov (.t 0), none⟩, ⟨some 94, .call 125 [(.t 93)], none⟩, ⟨some 6, .alloc [(.int .i64 0), (.str []), (.str []), (.int .i64 0), (.cplx 0 0), .nl, (.int .i64 0)], none⟩, ⟨none, .st 7 (.t 6) (.t 94), none⟩]) (.seq (.region [⟨some 95, .mov (.t 0), none⟩, ⟨some 96, .call 122 [(.t 95), (.c (.str [41]))], none⟩]) (.region [⟨some 97, .lda 7 (.t 6), none⟩, ⟨some 98, .bsl 44 7 [(.t 97)], none⟩, ⟨some 99, .fa 5 (.t 5), none⟩, ⟨none, .st 1 (.t 99) (.t 98), none⟩])))) (.skip))))))) (.seq (.region [⟨some 100, .lda 7 (.t 5), none⟩, ⟨none, .st 7 (.t 2) (.t 100), none⟩]) (.ret)))))))), [.many 7 2]⟩
theorem comp147 : compFn Tryz.prog quiet Tryz.f147 = some c147 := by kernel_rfl

/-- (*fathom/fathomref04.reader).named -/
def c148 : AFn := ⟨47, .seq (.region [⟨some 3, .box (.t 1), none⟩, ⟨some 4, .alloc [(.int .i64 0), (.str []), (.str []), (.int .i64 0), (.cplx 0 0), .nl, (.int .i64 0)], none⟩]) (.seq (.seq (.region [⟨some 7, .mov (.t 0), none⟩, ⟨some 8, .call 137 [(.t 7), (.c (.str [40]))], none⟩, ⟨some 9, .un .not (.t 8), none⟩]) (.cond (.t 9) (.seq (.region [⟨some 10, .fa 1 (.t 3), none⟩, ⟨some 11, .ldc (.t 10), none⟩, ⟨some 12, .fa 3 (.t 3), none⟩, ⟨some 13, .ldc (.t 12), none⟩, ⟨some 14, .build [(.int .i64 0), (.str []), (.str []), (.int .i64 0), (.cplx 0 0), .nl, (.int .i64 0)] [(0, 1, (.c (.int .i64 6))), (1, 1, (.t 11)), (6, 1, (.t 13))], none⟩, ⟨none, .st 7 (.t 4) (.t 14), none⟩]) (.ret)) (.skip))) (.seq (.region [⟨some 15, .fa 1 (.t 3), none⟩, ⟨some 16, .ldc (.t 15), none⟩, ⟨some 17, .fa 3 (.t 3), none⟩, ⟨some 18, .ldc (.t 17), none⟩, ⟨some 19, .build [(.int .i64 0), (.str []), (.str []), (.int .i64 0), (.cplx 0 0), .nl, (.int .i64 0)] [(0, 1, (.c (.int .i64 7))), (1, 1, (.t 16)), (6, 1, (.t 18))], none⟩, ⟨some 5, .alloc [(.int .i64 0), (.str []), (.str []), (.int .i64 0), (.cplx 0 0), .nl, (.int .i64 0)], none⟩, ⟨none, .st 7 (.t 5) (.t 19), none⟩]) (.seq (.block 0 (.loop (.seq (.seq (.region [⟨some 20, .mov (.t 0), none⟩, ⟨some 21, .nck (.t 20), none⟩, ⟨some 22, .fa 2 (.t 21), none⟩, ⟨some 23, .ldc (.t 22), none⟩, ⟨some 24, .bin .eql (.t 23) (.c (.int .i64 0)), none⟩, ⟨some 25, .mov (.t 24), none⟩, ⟨some 26, .mov (.t 0), (some (25, true))⟩, ⟨some 27, .call 123 [(.t 26), (.c (.str [41]))], (some (25, true))⟩, ⟨some 28, .un .not (.t 27), (some (25, true))⟩, ⟨some 29, .pick (.t 25) (.t 28) (.c (.bool false)), none⟩]) (.cond (.t 29) (.skip) (.exit 0))) (.block 1 (.seq (.seq (.region [⟨some 30, .fa 5 (.t 5), none⟩, ⟨some 31, .ldc (.t 30), none⟩, ⟨some 32, .len .sl (.t 31), none⟩, ⟨some 33, .bin .gtr (.t 32) (.c (.int .i64 0)), none⟩]) (.cond (.t 33) (.region [⟨some 34, .mov (.t 0), none⟩, ⟨some 35, .call 122 [(.t 34), (.c (.str [44]))], none⟩]) (.skip))) (.seq (.region [⟨some 36, .mov (.t 0), none⟩, ⟨some 37, .call 125 [(.t 36)], none⟩, ⟨some 6, .alloc [(.int .i64 0), (.str []), (.str []), (.int .i64 0), (.cplx 0 0), .nl, (.int .i64 0)], none⟩, ⟨none, .st 7 (.t 6) (.t 37), none⟩]) (.region [⟨some 38, .fa 5 (.t 5), none⟩, ⟨some 39, .ldc (.t 38), none⟩, ⟨some 40, .lda 7 (.t 6), none⟩, ⟨some 41, .bsl 44 7 [(.t 40)], none⟩, ⟨some 42, .app 44 7 96 (.t 39) (.t 41), none⟩, ⟨some 43, .fa 5 (.t 5), none⟩, ⟨none, .st 1 (.t 43) (.t 42), none⟩]))))))) (.seq (.region [⟨some 44, .mov (.t 0), none⟩, ⟨some 45, .call 122 [(.t 44), (.c (.str [41]))], none⟩]) (.seq (.region [⟨some 46, .lda 7 (.t 5), none⟩, ⟨none, .st 7 (.t 4) (.t 46), none⟩]) (.ret)))))), [.many 7 4]⟩
theorem comp148 : compFn Tryz.prog quiet Tryz.f148 = some c148 := by kernel_rfl

/-- fathom/fathomref04.word -/
def c149 : AFn := ⟨20, .seq (.region [⟨some 2, .mov (.c (.int .i64 0)), none⟩]) (.seq (.seq (.region [⟨some 3, .mov (.t 0), none⟩]) (.block 0 (.seq (.region [⟨some 5, .bin .eql (.t 3) (.c (.str [116, 114, 117, 101])), none⟩, ⟨some 4, .mov (.t 5), none⟩]) (.cond (.t 4) (.seq (.region [⟨some 2, .mov (.c (.int .i64 2)), none⟩]) (.ret)) (.seq (.region [⟨some 7, .bin .eql (.t 3) (.c (.str [102, 97, 108, 115, 101])), none⟩, ⟨some 6, .mov (.t 7), none⟩]) (.cond (.t 6) (.seq (.region [⟨some 2, .mov (.c (.int .i64 3)), none⟩]) (.ret)) (.seq (.region [⟨some 9, .bin .eql (.t 3) (.c (.str [110, 105, 108])), none⟩, ⟨some 8, .mov (.t 9), none⟩]) (.cond (.t 8) (.seq (.region [⟨some 2, .mov (.c (.int .i64 4)), none⟩]) (.ret)) (.seq (.region [⟨some 11, .bin .eql (.t 3) (.c (.str [102, 97, 105, 108])), none⟩, ⟨some 10, .mov (.t 11), none⟩]) (.cond (.t 10) (.seq (.region [⟨some 2, .mov (.c (.int .i64 5)), none⟩]) (.ret)) (.seq (.region [⟨some 13, .bin .eql (.t 3) (.c (.str [110, 111, 116])), none⟩, ⟨some 12, .mov (.t 13), none⟩]) (.cond (.t 12) (.seq (.region [⟨some 2, .mov (.c (.int .i64 14)), none⟩]) (.ret)) (.seq (.region [⟨some 15, .bin .eql (.t 3) (.c (.str [114, 101])), none⟩, ⟨some 14, .mov (.t 15), none⟩]) (.cond (.t 14) (.seq (.region [⟨some 2, .mov (.c (.int .i64 15)), none⟩]) (.ret)) (.seq (.region [⟨some 17, .bin .eql (.t 3) (.c (.str [105, 109])), none⟩, ⟨some 16, .mov (.t 17), none⟩]) (.cond (.t 16) (.seq (.region [⟨some 2, .mov (.c (.int .i64 16)), none⟩]) (.ret)) (.seq (.region [⟨some 19, .bin .eql (.t 3) (.c (.str [99, 111, 110, 106])), none⟩, ⟨some 18, .mov (.t 19), none⟩]) (.cond (.t 18) (.seq (.region [⟨some 2, .mov (.c (.int .i64 17)), none⟩]) (.ret)) (.skip))))))))))))))))))) (.seq (.region [⟨some 2, .mov (.c (.int .i64 0)), none⟩]) (.ret))), [.t 2]⟩
theorem comp149 : compFn Tryz.prog quiet Tryz.f149 = some c149 := by kernel_rfl
end Go.Proofs.YtghidedifiolbaaGreat

/- The compiled code of all functions. -/

/- The reader's first rules: next, fail, is, take, want, name, typ. -/
namespace Go.Proofs.YtghidedifiolbaaGreat
open Go.AM
variable {h : Hp} {rid : Nat} {ms : List Mk} {s : St} {K : AV → Hp → Prop}

theorem next_ok (hh : h rid = .cells (rdCells ms s)) (ha : s.at_ < ms.length) (hK : K (.agg (nx ms s).cells) h) : ACalls Tryz.prog 91 [.ptr rid 0] h K := by
  refine calls_of mixed Tryz.func91 comp91 (Nat.le_of_ble_eq_true rfl) ?_
  simp -dsimp [c91]
  intro id hd
  obtain ⟨hne, hne1⟩ := rd_ne hh hd
  simp -dsimp [hne, hh, rdCells, nx_some ha]
  exact Gives.sub (Sub.drop hd) hK

theorem fail_ok {w : Int} (hh : h rid = .cells (rdCells ms s)) (ha : s.at_ < ms.length) (hK : K (.tup []) (hset h rid (.cells (rdCells ms (failS ms s w))))) : ACalls Tryz.prog 120 [.ptr rid 0, .int .i64 w] h K := by
  refine calls_of mixed Tryz.func120 comp120 (Nat.le_of_ble_eq_true rfl) ?_
  by_cases hw : s.why = 0
  · simp [c120, hh, rdCells, hw]
    refine next_ok (s := { s with why := w }) (by simp [rdCells]) ha ?_
    simp -dsimp [Mk.cells, rdCells]
    refine Gives.same ?_
    simpa [failS, hw, rdCells, nx] using hK
  · simp [c120, hh, rdCells, hw]
    refine Gives.same ?_
    rw [show failS ms s w = s by simp [failS, hw], hset_self hh] at hK
    exact hK

theorem is_ok {t : Bytes} (hh : h rid = .cells (rdCells ms s)) (ha : s.at_ < ms.length) (hK : K (.bool (isB ms s t)) h) : ACalls Tryz.prog 123 [.ptr rid 0, .str t] h K := by
  refine calls_of mixed Tryz.func123 comp123 (Nat.le_of_ble_eq_true rfl) ?_
  simp -dsimp [c123]
  refine next_ok hh ha ?_
  simp -dsimp
  intro id hd
  obtain ⟨hne, hne1⟩ := rd_ne hh hd
  simp -dsimp [hne, hh, rdCells, Mk.cells]
  by_cases h1 : s.why = 0
  · by_cases h2 : (nx ms s).kind = 1
    · simp -dsimp [h1, h2, isB] at hK ⊢
      exact Gives.sub (Sub.drop hd) hK
    · by_cases h3 : (nx ms s).kind = 3
      · simp -dsimp [h1, h2, h3, isB] at hK ⊢
        exact Gives.sub (Sub.drop hd) hK
      · simp -dsimp [h1, h2, h3, isB] at hK ⊢
        exact Gives.sub (Sub.drop hd) hK
  · simp -dsimp [h1, isB] at hK ⊢
    exact Gives.sub (Sub.drop hd) hK

theorem take_ok {t : Bytes} (hg : Good ms) (hh : h rid = .cells (rdCells ms s)) (ha : s.at_ < ms.length) (hK : K (.bool (isB ms s t)) (hset h rid (.cells (rdCells ms (takeS ms s t))))) : ACalls Tryz.prog 137 [.ptr rid 0, .str t] h K := by
  refine calls_of mixed Tryz.func137 comp137 (Nat.le_of_ble_eq_true rfl) ?_
  simp -dsimp [c137]
  refine is_ok hh ha ?_
  have hl := hg.le
  have hw : IntKind.i64.wrap (↑s.at_ + 1) = ↑s.at_ + 1 := wrap_i64 (by omega) (by omega)
  by_cases hb : isB ms s t = true
  · simp [hb, hh, rdCells, hw]
    refine Gives.same ?_
    simpa [takeS, hb, adv, rdCells] using hK
  · simp [hb]
    refine Gives.same ?_
    rw [show takeS ms s t = s by simp [takeS, hb], hset_self hh] at hK
    simpa [hb] using hK

theorem want_ok {t : Bytes} (hg : Good ms) (hh : h rid = .cells (rdCells ms s)) (ha : s.at_ < ms.length) (hK : K (.tup []) (hset h rid (.cells (rdCells ms (wantS ms s t))))) : ACalls Tryz.prog 122 [.ptr rid 0, .str t] h K := by
  refine calls_of mixed Tryz.func122 comp122 (Nat.le_of_ble_eq_true rfl) ?_
  simp -dsimp [c122]
  refine take_ok hg hh ha ?_
  by_cases hb : isB ms s t = true
  · simp [hb]
    refine Gives.same ?_
    simpa [takeS, wantS, hb] using hK
  · simp [hb, takeS]
    refine fail_ok (s := s) (by simp) ha ?_
    simp -dsimp
    refine Gives.same ?_
    simpa [wantS, hb] using hK

theorem name_ok (hg : Good ms) (hh : h rid = .cells (rdCells ms s)) (ha : s.at_ < ms.length) (hK : K (.agg (nameS ms s).1.cells) (hset h rid (.cells (rdCells ms (nameS ms s).2)))) : ACalls Tryz.prog 121 [.ptr rid 0] h K := by
  refine calls_of mixed Tryz.func121 comp121 (Nat.le_of_ble_eq_true rfl) ?_
  simp -dsimp [c121]
  intro id hd
  obtain ⟨hne, hne1⟩ := rd_ne hh hd
  simp -dsimp
  refine next_ok (s := s) (by simp [hne, hh]) ha ?_
  simp -dsimp
  intro id2 hd2
  simp at hd2
  obtain ⟨hne2, hne3⟩ := rd_ne hh hd2.2.2
  have hl := hg.le
  have hw : IntKind.i64.wrap (↑s.at_ + 1) = ↑s.at_ + 1 := wrap_i64 (by omega) (by omega)
  have n12 := hd2.1
  have n21 := hd2.2.1
  by_cases h1 : s.why = 0
  · by_cases h2 : (nx ms s).kind = 0
    · simp -dsimp [hne, hne2, hh, rdCells, Mk.cells, h1, h2, n12, n21, hw, hne3, hne1]
      rw [show nameS ms s = (nx ms s, adv s) by simp [nameS, h1, h2]] at hK
      simp only [adv, rdCells, Mk.cells, h1, h2] at hK
      refine Gives.sub (by repeat first | exact Sub.refl _ | refine Sub.put ?_ | refine Sub.dropr ?_ (by simp [*])) hK
    · simp -dsimp [hne, hne2, hh, rdCells, Mk.cells, h1, h2, n12, n21]
      rw [show nameS ms s = (mk0, failS ms s 21) by simp [nameS, h1, h2]] at hK
      refine fail_ok (s := s) (by simp [hne, hne2, hh]) ha ?_
      simp -dsimp [hne, hne1, n12, n21]
      refine Gives.sub (by repeat first | exact Sub.refl _ | refine Sub.put ?_ | refine Sub.dropr ?_ (by simp [*])) hK
  · simp -dsimp [hne, hne2, hh, rdCells, Mk.cells, h1, n12, n21]
    rw [show nameS ms s = (mk0, failS ms s 21) by simp [nameS, h1]] at hK
    refine fail_ok (s := s) (by simp [hne, hne2, hh]) ha ?_
    simp -dsimp [hne, hne1, n12, n21]
    refine Gives.sub (by repeat first | exact Sub.refl _ | refine Sub.put ?_ | refine Sub.dropr ?_ (by simp [*])) hK

theorem typ_ok (hg : Good ms) (hh : h rid = .cells (rdCells ms s)) (ha : s.at_ < ms.length) (hK : K (.int .i64 (typS ms s).1) (hset h rid (.cells (rdCells ms (typS ms s).2)))) : ACalls Tryz.prog 124 [.ptr rid 0] h K := by
  refine calls_of mixed Tryz.func124 comp124 (Nat.le_of_ble_eq_true rfl) ?_
  simp -dsimp [c124]
  intro id hd
  obtain ⟨hne, hne1⟩ := rd_ne hh hd
  simp -dsimp
  refine ALoop.start (fun n tm h' => ∃ i : Nat, i + n = 4 ∧ tm 0 = .ptr rid 0 ∧ tm 3 = .sl id 0 3 ∧ tm 4 = .int .i64 i ∧ h' = hset h id (.arr 9 1 [[.str [78]], [.str [66]], [.str [76]]]) ∧
    (i ≤ 3) ∧ (1 ≤ i → isB ms s [78] = false) ∧ (2 ≤ i → isB ms s [66] = false) ∧ (3 ≤ i → isB ms s [76] = false)) 4 ⟨0, by simp⟩ ?_
  rintro n tm h' ⟨i, hi, t0, t3, t4, rfl, hi3, h1, h2, h3⟩
  rcases (show i = 0 ∨ i = 1 ∨ i = 2 ∨ i = 3 by omega) with rfl | rfl | rfl | rfl
  · simp -dsimp [t0, t3, t4]
    refine take_ok (s := s) hg (by simp [hne, hh]) ha ?_
    by_cases hb : isB ms s [78] = true
    · simp -dsimp [hb, t0, t3, t4]
      rw [show typS ms s = (1, adv s) by simp [typS, hb]] at hK
      simp only [takeS, hb, if_true]
      exact Gives.sub (by repeat first | exact Sub.refl _ | refine Sub.put ?_ | refine Sub.dropr ?_ (by simp [*])) hK
    · simp -dsimp [hb, t0, t3, t4, takeS]
      exact Again.same (m := 3) (by omega) ⟨1, by simp [*, hset_self]⟩
  · simp -dsimp [t0, t3, t4]
    refine take_ok (s := s) hg (by simp [hne, hh]) ha ?_
    have hb0 := h1 (by omega)
    by_cases hb : isB ms s [66] = true
    · simp -dsimp [hb, t0, t3, t4]
      rw [show typS ms s = (2, adv s) by simp [typS, hb, hb0]] at hK
      simp only [takeS, hb, if_true]
      exact Gives.sub (by repeat first | exact Sub.refl _ | refine Sub.put ?_ | refine Sub.dropr ?_ (by simp [*])) hK
    · simp -dsimp [hb, t0, t3, t4, takeS]
      exact Again.same (m := 2) (by omega) ⟨2, by simp [*, hset_self]⟩
  · simp -dsimp [t0, t3, t4]
    refine take_ok (s := s) hg (by simp [hne, hh]) ha ?_
    have hb0 := h1 (by omega)
    have hb1 := h2 (by omega)
    by_cases hb : isB ms s [76] = true
    · simp -dsimp [hb, t0, t3, t4]
      rw [show typS ms s = (3, adv s) by simp [typS, hb, hb0, hb1]] at hK
      simp only [takeS, hb, if_true]
      exact Gives.sub (by repeat first | exact Sub.refl _ | refine Sub.put ?_ | refine Sub.dropr ?_ (by simp [*])) hK
    · simp -dsimp [hb, t0, t3, t4, takeS]
      exact Again.same (m := 1) (by omega) ⟨3, by simp [*, hset_self]⟩
  · simp -dsimp [t0, t3, t4]
    have hb0 := h1 (by omega)
    have hb1 := h2 (by omega)
    have hb2 := h3 (by omega)
    refine fail_ok (s := s) (by simp [hne, hh]) ha ?_
    simp -dsimp
    rw [show typS ms s = (0, failS ms s 21) by simp [typS, hb0, hb1, hb2]] at hK
    exact Gives.sub (by repeat first | exact Sub.refl _ | refine Sub.put ?_ | refine Sub.dropr ?_ (by simp [*])) hK

end Go.Proofs.YtghidedifiolbaaGreat

/- The marks' first functions: bytes, runs, signs. -/
namespace Go.Proofs.YtghidedifiolbaaGreat
open Go.AM
variable {h : Hp} {K : AV → Hp → Prop}

theorem digit_ok {c : UInt8} (hK : K (.bool (digitB c)) h) : ACalls Tryz.prog 115 [.int .u8 c.toNat] h K := by
  refine calls_of mixed Tryz.func115 comp115 (Nat.le_of_ble_eq_true rfl) ?_
  by_cases h1 : (48 : Int) ≤ c.toNat <;> by_cases h2 : (c.toNat : Int) ≤ 57 <;> simp -dsimp [c115, h1, h2] <;>
    exact Gives.same (by simpa [digitB, h1, h2] using hK)

theorem letter_ok {c : UInt8} (hK : K (.bool (letterB c)) h) : ACalls Tryz.prog 132 [.int .u8 c.toNat] h K := by
  refine calls_of mixed Tryz.func132 comp132 (Nat.le_of_ble_eq_true rfl) ?_
  by_cases h1 : (65 : Int) ≤ c.toNat <;> by_cases h2 : (c.toNat : Int) ≤ 90 <;> by_cases h3 : (97 : Int) ≤ c.toNat <;> by_cases h4 : (c.toNat : Int) ≤ 122 <;> simp -dsimp [c132, h1, h2, h3, h4] <;>
    exact Gives.same (by simpa [letterB, h1, h2, h3, h4] using hK)

theorem blank_ok {c : UInt8} (hK : K (.bool (blankB c)) h) : ACalls Tryz.prog 89 [.int .u8 c.toNat] h K := by
  refine calls_of mixed Tryz.func89 comp89 (Nat.le_of_ble_eq_true rfl) ?_
  by_cases h1 : (c.toNat : Int) = 9
  · simp -dsimp [c89, h1]
    exact Gives.same (by simpa [blankB, h1] using hK)
  by_cases h2 : (c.toNat : Int) = 10
  · simp -dsimp [c89, h2]
    exact Gives.same (by simpa [blankB, h2] using hK)
  by_cases h3 : (c.toNat : Int) = 13
  · simp -dsimp [c89, h3]
    exact Gives.same (by simpa [blankB, h3] using hK)
  by_cases h4 : (c.toNat : Int) = 32
  · simp -dsimp [c89, h4]
    exact Gives.same (by simpa [blankB, h4] using hK)
  simp -dsimp [c89, h1, h2, h3, h4]
  exact Gives.same (by simpa [blankB, h1, h2, h3, h4] using hK)

theorem run_ok {b : Bytes} {p : Nat} (hb : b.length ≤ 40000) (hp : p ≤ b.length) (hK : K (.int .i64 (wRun b p)) h) : ACalls Tryz.prog 114 [.fz (bytesAV b), .int .i64 p] h K := by
  refine calls_of mixed Tryz.func114 comp114 (Nat.le_of_ble_eq_true rfl) ?_
  simp -dsimp [c114]
  have hle := wRun_le b hp
  refine ALoop.start (fun n tm h' => ∃ i : Nat, i + n = wRun b p ∧ tm 0 = .fz (bytesAV b) ∧ tm 1 = .int .i64 p ∧ tm 5 = .int .i64 i ∧ h' = h) (wRun b p) ⟨0, by simp⟩ ?_
  rintro n tm h' ⟨i, hi, t0, t1, t5, rfl⟩
  have hw : IntKind.i64.wrap (↑p + ↑i) = ((p + i : Nat) : Int) := by rw [wrap_i64] <;> omega
  have hw1 : IntKind.i64.wrap (↑i + 1) = ((i + 1 : Nat) : Int) := by rw [wrap_i64] <;> omega
  by_cases hl : p + i < b.length
  · have hl' : (p : Int) + i < b.length := by omega
    simp -dsimp [-Int.natCast_add, t0, t1, t5, hw, hl, bytesAV_at hl]
    refine letter_ok ?_
    have hcase : wordB (byteAt b (p + i)) = true → i < wRun b p := by
      intro hwb
      rcases Nat.lt_or_ge i (wRun b p) with h | h
      · exact h
      · have : i = wRun b p := by omega
        subst this
        have := wRun_out hl
        rw [this] at hwb
        cases hwb
    have hcase2 : wordB (byteAt b (p + i)) = false → i = wRun b p := by
      intro hwb
      rcases Nat.lt_or_ge i (wRun b p) with h | h
      · have := (wRun_in h).2
        rw [this] at hwb
        cases hwb
      · omega
    cases hlt : letterB (byteAt b (p + i))
    · simp -dsimp [-Int.natCast_add, t0, t1, t5, hw, hl, bytesAV_at hl]
      refine digit_ok ?_
      cases hdg : digitB (byteAt b (p + i))
      · by_cases h95 : ((byteAt b (p + i)).toNat : Int) = 95
        · have := hcase (by simp [wordB, hlt, hdg, h95])
          simp -dsimp [-Int.natCast_add, t0, t1, t5, hw, hw1, hl, bytesAV_at hl, h95]
          exact Again.same (m := n - 1) (by omega) ⟨i + 1, by omega, by simp [*]⟩
        · have := hcase2 (by simp [wordB, hlt, hdg, h95])
          simp -dsimp [-Int.natCast_add, t0, t1, t5, hw, hl, bytesAV_at hl, h95]
          exact Gives.same (by rw [this]; exact hK)
      · have := hcase (by simp [wordB, hdg])
        simp -dsimp [-Int.natCast_add, t0, t1, t5, hw, hw1, hl]
        exact Again.same (m := n - 1) (by omega) ⟨i + 1, by omega, by simp [*]⟩
    · have := hcase (by simp [wordB, hlt])
      simp -dsimp [-Int.natCast_add, t0, t1, t5, hw, hw1, hl]
      exact Again.same (m := n - 1) (by omega) ⟨i + 1, by omega, by simp [*]⟩
  · have : i = wRun b p := by omega
    simp -dsimp [-Int.natCast_add, t0, t1, t5, hw, hl]
    exact Gives.same (by rw [this]; exact hK)
end Go.Proofs.YtghidedifiolbaaGreat

/- The numbers of the document's answer. -/
namespace Go.Proofs.YtghidedifiolbaaGreat
open Go.AM
variable {h : Hp} {K : AV → Hp → Prop}

theorem in_ok {re im : Int} (hK : K (.tup [.agg [.int .i64 (inS re im).1.1, .int .i64 (inS re im).1.2], .int .i64 (inS re im).2]) h) : ACalls Tryz.prog 134 [.agg [.int .i64 re, .int .i64 im]] h K := by
  refine calls_of mixed Tryz.func134 comp134 (Nat.le_of_ble_eq_true rfl) ?_
  simp -dsimp [c134]
  intro id hd
  simp -dsimp
  intro id2 hd2
  simp at hd2
  obtain ⟨n1, n2, hd2⟩ := hd2
  by_cases h1 : re < -16777216
  · simp -dsimp [h1, n1, n2]
    refine Gives.sub (h' := h) (by repeat first | exact Sub.refl _ | refine Sub.put ?_ | refine Sub.dropr ?_ (by simp [*])) ?_
    simpa [inS, h1] using hK
  by_cases h2 : 16777216 < re
  · simp -dsimp [h1, h2, n1, n2]
    refine Gives.sub (h' := h) (by repeat first | exact Sub.refl _ | refine Sub.put ?_ | refine Sub.dropr ?_ (by simp [*])) ?_
    simpa [inS, h1, h2] using hK
  by_cases h3 : im < -16777216
  · simp -dsimp [h1, h2, h3, n1, n2]
    refine Gives.sub (h' := h) (by repeat first | exact Sub.refl _ | refine Sub.put ?_ | refine Sub.dropr ?_ (by simp [*])) ?_
    simpa [inS, h1, h2, h3] using hK
  by_cases h4 : 16777216 < im
  · simp -dsimp [h1, h2, h3, h4, n1, n2]
    refine Gives.sub (h' := h) (by repeat first | exact Sub.refl _ | refine Sub.put ?_ | refine Sub.dropr ?_ (by simp [*])) ?_
    simpa [inS, h1, h2, h3, h4] using hK
  simp -dsimp [h1, h2, h3, h4, n1, n2]
  refine Gives.sub (h' := h) (by repeat first | exact Sub.refl _ | refine Sub.put ?_ | refine Sub.dropr ?_ (by simp [*])) ?_
  simpa [inS, h1, h2, h3, h4] using hK

theorem digits_nat : ∀ (k n : Nat), k ≤ 20 → 0 < k → n < 10 ^ k → n ≤ 1000000000 → ∀ {h : Hp} {K : AV → Hp → Prop}, K (.str (digS k n)) h → ACalls Tryz.prog 142 [.int .i64 n] h K
  | 0, n, _, h0, _, _, _, _, _ => by omega
  | k + 1, n, hk, _, hlt, hn, h, K, hK => by
    refine calls_of mixed Tryz.func142 comp142 (Nat.le_of_ble_eq_true rfl) ?_
    have hm : (n : Int).tmod 10 = ((n % 10 : Nat) : Int) := by rw [Int.tmod_eq_emod_of_nonneg (by omega)]; omega
    have hd : (n : Int).tdiv 10 = ((n / 10 : Nat) : Int) := by rw [Int.tdiv_eq_ediv_of_nonneg (by omega)]; omega
    have hw : IntKind.i64.wrap (48 + ((n % 10 : Nat) : Int)) = ((48 + n % 10 : Nat) : Int) := by rw [wrap_i64] <;> omega
    have hw2 : IntKind.u8.wrap ((48 + n % 10 : Nat) : Int) = ((48 + n % 10 : Nat) : Int) := by simp [IntKind.wrap, IntKind.bits, IntKind.signed]; omega
    have hw3 : IntKind.i64.wrap ((n / 10 : Nat) : Int) = ((n / 10 : Nat) : Int) := by rw [wrap_i64] <;> omega
    have hnn : ¬ (n : Int) < 0 := by omega
    have hln := digS_len k (n / 10)
    have hl2 : (digS k (n / 10)).length + 1 ≤ 4611686018427387904 := by omega
    simp -dsimp [c142, -Int.natCast_add, -Int.natCast_emod, -Int.natCast_ediv, hm, hd, hw, hw2, hw3, hnn]
    intro id hdd
    by_cases h10 : 10 ≤ n
    · have h10' : (10 : Int) ≤ n := by omega
      simp -dsimp [-Int.natCast_add, -Int.natCast_emod, -Int.natCast_ediv, hm, hd, hw, hw2, hw3, h10']
      have hk0 : 0 < k := by
        rcases Nat.eq_zero_or_pos k with e | e
        · subst e; simp at hlt; omega
        · exact e
      refine digits_nat k (n / 10) (by omega) hk0 (by rw [Nat.pow_succ] at hlt; omega) (by omega) ?_
      simp -dsimp [-Int.natCast_add, -Int.natCast_emod, -Int.natCast_ediv, hl2]
      refine Gives.sub (h' := h) (Sub.drop hdd) ?_
      simpa [digS, h10] using hK
    · have h10' : ¬ (10 : Int) ≤ n := by omega
      simp -dsimp [-Int.natCast_add, -Int.natCast_emod, -Int.natCast_ediv, hm, hd, hw, hw2, hw3, h10']
      refine Gives.sub (h' := h) (Sub.drop hdd) ?_
      simpa [digS, h10] using hK

theorem digits_ok {n : Int} (h1 : -100000000 ≤ n) (h2 : n ≤ 100000000) (hK : K (.str (digI n)) h) : ACalls Tryz.prog 142 [.int .i64 n] h K := by
  by_cases hn : n < 0
  · refine calls_of mixed Tryz.func142 comp142 (Nat.le_of_ble_eq_true rfl) ?_
    have hw : IntKind.i64.wrap (0 - n) = ((n.natAbs : Nat) : Int) := by rw [wrap_i64] <;> omega
    simp -dsimp [c142, hn, -Int.zero_sub, hw]
    refine digits_nat 10 n.natAbs (by omega) (by omega) (by omega) (by omega) ?_
    have hl := digS_len 10 n.natAbs
    have hl2 : 1 + (digS 10 n.natAbs).length ≤ 4611686018427387904 := by omega
    simp -dsimp [hl2]
    exact Gives.same (by simpa [digI, hn] using hK)
  · have e : n = ((n.natAbs : Nat) : Int) := by omega
    rw [e]
    refine digits_nat 10 n.natAbs (by omega) (by omega) (by omega) (by omega) ?_
    simpa [digI, hn] using hK

theorem text_ok {re im : Int} (h1 : -100000000 ≤ re) (h2 : re ≤ 100000000) (h3 : -100000000 ≤ im) (h4 : im ≤ 100000000) (hK : K (.str (textS re im)) h) : ACalls Tryz.prog 135 [.agg [.int .i64 re, .int .i64 im]] h K := by
  refine calls_of mixed Tryz.func135 comp135 (Nat.le_of_ble_eq_true rfl) ?_
  simp -dsimp [c135]
  intro id hd
  have l1 := digI_len re
  have l2 := digI_len im
  have a1 : (digI im).length + 1 ≤ 4611686018427387904 := by omega
  have a2 : (digI re).length + 1 ≤ 4611686018427387904 := by omega
  have a3 : (digI re).length + (digI im).length ≤ 4611686018427387904 := by omega
  have a4 : (digI re).length + (digI im).length + 1 ≤ 4611686018427387904 := by omega
  have a5 : (digI re).length + 1 + (digI im).length ≤ 4611686018427387904 := by omega
  have a6 : (digI re).length + 1 + (digI im).length + 1 ≤ 4611686018427387904 := by omega
  have a7 : (digI re).length + ((digI im).length + 1) ≤ 4611686018427387903 := by omega
  have a8 : (digI re).length + ((digI im).length + 1) ≤ 4611686018427387904 := by omega
  by_cases e1 : im = 0
  · simp -dsimp [e1]
    refine digits_ok h1 h2 ?_
    simp -dsimp
    refine Gives.sub (h' := h) (Sub.drop hd) ?_
    simpa [textS, e1] using hK
  by_cases e2 : re = 0
  · simp -dsimp [e1, e2]
    refine digits_ok h3 h4 ?_
    simp -dsimp [a1]
    refine Gives.sub (h' := h) (Sub.drop hd) ?_
    simpa [textS, e1, e2] using hK
  by_cases e3 : 0 < im
  · simp -dsimp [e1, e2, e3]
    refine digits_ok h1 h2 ?_
    simp -dsimp [Stable, AIns.wants, QStep, a2]
    refine digits_ok h3 h4 ?_
    simp -dsimp [a2, a5, a6, a7, a8]
    refine Gives.sub (h' := h) (Sub.drop hd) ?_
    simpa [textS, e1, e2, e3] using hK
  · simp -dsimp [e1, e2, e3]
    refine digits_ok h1 h2 ?_
    simp -dsimp [Stable, AIns.wants, QStep]
    refine digits_ok h3 h4 ?_
    simp -dsimp [a3, a4, a7, a8]
    refine Gives.sub (h' := h) (Sub.drop hd) ?_
    simpa [textS, e1, e2, e3] using hK
end Go.Proofs.YtghidedifiolbaaGreat

/- Reading numbers; signs and words. -/
namespace Go.Proofs.YtghidedifiolbaaGreat
open Go.AM
variable {h : Hp} {K : AV → Hp → Prop}

theorem whole_ok {s : Bytes} (hs : s.length ≤ 40000) (hK : K (.tup [.int .i64 (wholeS s).1, .int .i64 (wholeS s).2]) h) : ACalls Tryz.prog 133 [.str s] h K := by
  refine calls_of mixed Tryz.func133 comp133 (Nat.le_of_ble_eq_true rfl) ?_
  have hle := digRun_le s
  have loop : ∀ (tm : Tm), tm 0 = .str s → tm 4 = .int .i64 (negAt s) → AW Tryz.prog (match c133.code with | .seq _ (.seq _ (.seq _ x)) => x | _ => .skip) (fun e tm h' => match e with | .exit _ => False | _ => Gives K (resOf c133.res tm h') h') tm h := by
    intro tm0 u0 u4
    simp -dsimp [c133, u0, u4]
    refine ALoop.start (fun n tm h' => ∃ i : Nat, i + n = (digRun s).length ∧ tm 0 = .str s ∧ tm 4 = .int .i64 (negAt s) ∧ tm 5 = .int .i64 (((digRun s).take i).foldl numFold 0) ∧ tm 6 = .int .i64 ((negAt s + i : Nat) : Int) ∧ h' = h) (digRun s).length ⟨0, by simp [u0, u4]⟩ ?_
    rintro n tm h' ⟨i, hi, t0, t4, t5, t6, rfl⟩
    have hw1 : IntKind.i64.wrap (((negAt s + i : Nat) : Int) + 1) = ((negAt s + (i + 1) : Nat) : Int) := by rw [wrap_i64] <;> omega
    have hf := fold_in ((digRun s).take i) (fun c hc => digRun_digits s c (List.mem_of_mem_take hc)) 0 (by omega) (by omega)
    rcases Nat.lt_or_ge i (digRun s).length with hlt | hge
    · obtain ⟨g1, g2, g3⟩ := digRun_in hlt
      have g4 := g2
      simp [digitB] at g4
      have hfold : ((digRun s).take (i + 1)).foldl numFold 0 = numFold (((digRun s).take i).foldl numFold 0) (byteAt s (negAt s + i)) := by
        rw [List.take_add_one, g3]; simp
      generalize hF : ((digRun s).take i).foldl numFold 0 = F at *
      generalize hC : byteAt s (negAt s + i) = c at *
      have w1 : IntKind.i64.wrap (10 * F) = 10 * F := by rw [wrap_i64] <;> omega
      have w2 : IntKind.u8.wrap ((c.toNat : Int) - 48) = (c.toNat : Int) - 48 := by simp [IntKind.wrap, IntKind.bits, IntKind.signed]; omega
      have w3 : IntKind.i64.wrap ((c.toNat : Int) - 48) = (c.toNat : Int) - 48 := by rw [wrap_i64] <;> omega
      have w4 : IntKind.i64.wrap (10 * F + ((c.toNat : Int) - 48)) = 10 * F + ((c.toNat : Int) - 48) := by rw [wrap_i64] <;> omega
      have g5 : (48 : Int) ≤ c.toNat := by omega
      have g6 : (c.toNat : Int) ≤ 57 := by omega
      simp -dsimp [-Int.natCast_add, t0, t4, t5, t6, g1, hC, g5, g6, w1, w2, w3, w4, hw1]
      refine Again.same (m := n - 1) (by omega) ⟨i + 1, by omega, by simp [t0], by simp [t4], ?_, by simp [-Int.natCast_add], rfl⟩
      simp [hfold, numFold]
    · have he : i = (digRun s).length := by omega
      subst he
      rw [List.take_length] at t5 hf
      by_cases z : (digRun s).length = 0
      · have hK' : K (.tup [.int .i64 0, .int .i64 0]) h' := by simpa [wholeS, z] using hK
        by_cases hlen : negAt s + (digRun s).length < s.length
        · have hd := digRun_out hlen
          simp [digitB] at hd
          by_cases c1 : (48 : Int) ≤ (byteAt s (negAt s + (digRun s).length)).toNat
          · have c2 : ¬ ((byteAt s (negAt s + (digRun s).length)).toNat : Int) ≤ 57 := by omega
            rw [z] at t6 hlen c1 c2
            simp only [Nat.add_zero] at t6 hlen c1 c2
            simp -dsimp [-Int.natCast_add, t0, t4, t5, t6, hlen, c1, c2]
            exact Gives.same hK'
          · rw [z] at t6 hlen c1
            simp only [Nat.add_zero] at t6 hlen c1
            simp -dsimp [-Int.natCast_add, t0, t4, t5, t6, hlen, c1]
            exact Gives.same hK'
        · rw [z] at t6 hlen
          simp only [Nat.add_zero] at t6 hlen
          simp -dsimp [-Int.natCast_add, t0, t4, t5, t6, hlen]
          exact Gives.same hK'
      · have zz : ¬ ((negAt s + (digRun s).length : Nat) : Int) = (negAt s : Int) := by omega
        have zn : ¬ digRun s = [] := by intro e; rw [e] at z; simp at z
        generalize hF : (digRun s).foldl numFold 0 = F at *
        have w5 : IntKind.i64.wrap (0 - F) = 0 - F := by rw [wrap_i64] <;> omega
        have hK' : K (.tup [.int .i64 (if negAt s = 1 then 0 - F else F), .int .i64 ((negAt s + (digRun s).length : Nat) : Int)]) h' := by
          simp only [wholeS, if_neg z, hF] at hK; exact hK
        have n1 : (negAt s : Int) = 1 ↔ negAt s = 1 := by omega
        by_cases hlen : negAt s + (digRun s).length < s.length
        · have hd := digRun_out hlen
          simp [digitB] at hd
          by_cases c1 : (48 : Int) ≤ (byteAt s (negAt s + (digRun s).length)).toNat
          · have c2 : ¬ ((byteAt s (negAt s + (digRun s).length)).toNat : Int) ≤ 57 := by omega
            rcases Decidable.em (negAt s = 1) with ng | ng
            · simp -dsimp [-Int.natCast_add, -Int.zero_sub, t0, t4, t5, t6, hlen, c1, c2, zz, n1, z, zn, eq_true ng, w5]
              exact Gives.same (by simpa [-Int.natCast_add, ng] using hK')
            · simp -dsimp [-Int.natCast_add, -Int.zero_sub, t0, t4, t5, t6, hlen, c1, c2, zz, n1, z, zn, ng, w5]
              exact Gives.same (by simpa [-Int.natCast_add, ng] using hK')
          · rcases Decidable.em (negAt s = 1) with ng | ng
            · simp -dsimp [-Int.natCast_add, -Int.zero_sub, t0, t4, t5, t6, hlen, c1, zz, n1, z, zn, eq_true ng, w5]
              exact Gives.same (by simpa [-Int.natCast_add, ng] using hK')
            · simp -dsimp [-Int.natCast_add, -Int.zero_sub, t0, t4, t5, t6, hlen, c1, zz, n1, z, zn, ng, w5]
              exact Gives.same (by simpa [-Int.natCast_add, ng] using hK')
        · rcases Decidable.em (negAt s = 1) with ng | ng
          · simp -dsimp [-Int.natCast_add, -Int.zero_sub, t0, t4, t5, t6, hlen, zz, n1, z, zn, eq_true ng, w5]
            exact Gives.same (by simpa [-Int.natCast_add, ng] using hK')
          · simp -dsimp [-Int.natCast_add, -Int.zero_sub, t0, t4, t5, t6, hlen, zz, n1, z, zn, ng, w5]
            exact Gives.same (by simpa [-Int.natCast_add, ng] using hK')
  by_cases c0 : 0 < s.length
  · have hne : ¬ s = [] := by intro e; rw [e] at c0; simp at c0
    by_cases c1 : ((byteAt s 0).toNat : Int) = 45
    · have hn : negAt s = 1 := by simp only [negAt]; rw [if_pos ⟨c0, c1⟩]
      simp -dsimp [c133, c0, c1, hne]
      exact loop _ (by simp) (by simp [hn])
    · have hn : negAt s = 0 := by simp [negAt, c1]
      simp -dsimp [c133, c0, c1, hne]
      exact loop _ (by simp) (by simp [hn])
  · have hn : negAt s = 0 := by simp [negAt, c0]
    have hne : s = [] := by simpa using c0
    simp -dsimp [c133, c0, hne]
    exact loop _ (by simp [hne]) (by simp [hn])
end Go.Proofs.YtghidedifiolbaaGreat

/- Reading numbers: the whole; signs and words. -/
namespace Go.Proofs.YtghidedifiolbaaGreat
open Go.AM
variable {h : Hp} {K : AV → Hp → Prop}

theorem z_ok {re im : Int} (hK : K (.cplx (FloatKind.f64.nearest re) (FloatKind.f64.nearest im)) h) : ACalls Tryz.prog 117 [.agg [.int .i64 re, .int .i64 im]] h K := by
  refine calls_of mixed Tryz.func117 comp117 (Nat.le_of_ble_eq_true rfl) ?_
  simp -dsimp [c117]
  intro id hd
  simp -dsimp
  exact Gives.sub (h' := h) (Sub.drop hd) hK

theorem sign_ok {b : Bytes} {p : Nat} (hb : b.length ≤ 40000) (hp : p < b.length) (hK : K (.int .i64 (signN b p)) h) : ACalls Tryz.prog 119 [.fz (bytesAV b), .int .i64 p] h K := by
  refine calls_of mixed Tryz.func119 comp119 (Nat.le_of_ble_eq_true rfl) ?_
  have hw : IntKind.i64.wrap ((p : Int) + 1) = ((p + 1 : Nat) : Int) := by rw [wrap_i64] <;> omega
  have tail : ¬ (p + 1 < b.length ∧ (((byteAt b p).toNat = 45 ∧ (byteAt b (p + 1)).toNat = 62) ∨ ((byteAt b p).toNat = 61 ∧ (byteAt b (p + 1)).toNat = 61))) →
      ∀ tm : Tm, tm 0 = .fz (bytesAV b) → tm 1 = .int .i64 p → AW Tryz.prog (match c119.code with | .seq _ (.seq _ x) => x | _ => .skip) (fun e tm h' => match e with | .exit _ => False | _ => Gives K (resOf c119.res tm h') h') tm h := by
    intro hno tm t0 t1
    have hs : signN b p = if oneSign (byteAt b p) then 1 else 0 := by simp only [signN, if_neg hno]
    rw [hs] at hK
    generalize hC : byteAt b p = c at *
    have hyes : oneSign c = true → K (.int .i64 1) h := by intro e; simpa [e] using hK
    have hnot : oneSign c = false → K (.int .i64 0) h := by intro e; simpa [e] using hK
    clear hK hs hno
    simp only [oneSign] at hyes hnot
    simp -dsimp [-Int.natCast_add, c119, t0, t1, hp, hC]
    by_cases e1 : (c.toNat : Int) = 40
    · simp -dsimp [e1]; exact Gives.same (hyes (by simp; omega))
    by_cases e2 : (c.toNat : Int) = 41
    · simp -dsimp [e2]; exact Gives.same (hyes (by simp; omega))
    by_cases e3 : (c.toNat : Int) = 44
    · simp -dsimp [e3]; exact Gives.same (hyes (by simp; omega))
    by_cases e4 : (c.toNat : Int) = 58
    · simp -dsimp [e4]; exact Gives.same (hyes (by simp; omega))
    by_cases e5 : (c.toNat : Int) = 59
    · simp -dsimp [e5]; exact Gives.same (hyes (by simp; omega))
    by_cases e6 : (c.toNat : Int) = 61
    · simp -dsimp [e6]; exact Gives.same (hyes (by simp; omega))
    by_cases e7 : (c.toNat : Int) = 43
    · simp -dsimp [e7]; exact Gives.same (hyes (by simp; omega))
    by_cases e8 : (c.toNat : Int) = 45
    · simp -dsimp [e8]; exact Gives.same (hyes (by simp; omega))
    by_cases e9 : (c.toNat : Int) = 42
    · simp -dsimp [e9]; exact Gives.same (hyes (by simp; omega))
    by_cases e10 : (c.toNat : Int) = 47
    · simp -dsimp [e10]; exact Gives.same (hyes (by simp; omega))
    by_cases e11 : (c.toNat : Int) = 60
    · simp -dsimp [e11]; exact Gives.same (hyes (by simp; omega))
    by_cases e12 : (c.toNat : Int) = 124
    · simp -dsimp [e12]; exact Gives.same (hyes (by simp; omega))
    simp -dsimp [e1, e2, e3, e4, e5, e6, e7, e8, e9, e10, e11, e12]
    exact Gives.same (hnot (by simp; omega))
  have hsplit : c119 = ⟨57, .seq (match c119.code with | .seq a _ => a | _ => .skip) (.seq (match c119.code with | .seq _ (.seq b _) => b | _ => .skip) (match c119.code with | .seq _ (.seq _ x) => x | _ => .skip)), [.t 4]⟩ := rfl
  have hres : c119.res = [.t 4] := rfl
  rw [hres] at tail
  rw [hsplit]
  generalize (match c119.code with | .seq _ (.seq _ x) => x | _ => .skip) = T at *
  by_cases hl : p + 1 < b.length
  · by_cases a1 : ((byteAt b p).toNat : Int) = 45
    · by_cases a2 : ((byteAt b (p + 1)).toNat : Int) = 62
      · simp -dsimp [-Int.natCast_add, c119, hw, hp, hl, a1, a2]
        refine Gives.same ?_
        have : signN b p = 2 := by simp only [signN]; rw [if_pos ⟨hl, .inl ⟨by omega, by omega⟩⟩]
        rw [this] at hK; exact hK
      · simp -dsimp [-Int.natCast_add, c119, hw, hp, hl, a1, a2]
        exact tail (by omega) _ (by simp) (by simp)
    · by_cases a3 : ((byteAt b p).toNat : Int) = 61
      · by_cases a4 : ((byteAt b (p + 1)).toNat : Int) = 61
        · simp -dsimp [-Int.natCast_add, c119, hw, hp, hl, a1, a3, a4]
          refine Gives.same ?_
          have : signN b p = 2 := by simp only [signN]; rw [if_pos ⟨hl, .inr ⟨by omega, by omega⟩⟩]
          rw [this] at hK; exact hK
        · simp -dsimp [-Int.natCast_add, c119, hw, hp, hl, a1, a3, a4]
          exact tail (by omega) _ (by simp) (by simp)
      · simp -dsimp [-Int.natCast_add, c119, hw, hp, hl, a1, a3]
        exact tail (by omega) _ (by simp) (by simp)
  · simp -dsimp [-Int.natCast_add, c119, hw, hp, hl]
    exact tail (by omega) _ (by simp) (by simp)
end Go.Proofs.YtghidedifiolbaaGreat
