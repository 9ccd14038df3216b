/- Integers: where a wrap does nothing. -/
import Derived.Test.YtbkcpddedpmenaaVcG
namespace Go.Vc
open Go
theorem wrap64 {n : Int} (h : -9223372036854775808 ≤ n) (h' : n ≤ 9223372036854775807) : IntKind.wrap .i64 n = n := by
  unfold IntKind.wrap
  simp only [IntKind.bits, IntKind.signed]
  simp
  omega
theorem wrap8 {n : Int} (h : 0 ≤ n) (h' : n ≤ 255) : IntKind.wrap .u8 n = n := by
  unfold IntKind.wrap
  simp [IntKind.bits, IntKind.signed]
  omega
theorem wrap32 {n : Int} (h : 0 ≤ n) (h' : n ≤ 4294967295) : IntKind.wrap .u32 n = n := by
  unfold IntKind.wrap
  simp [IntKind.bits, IntKind.signed]
  omega
theorem wrapu64 {n : Int} (h : 0 ≤ n) (h' : n ≤ 18446744073709551615) : IntKind.wrap .u64 n = n := by
  unfold IntKind.wrap
  simp [IntKind.bits, IntKind.signed]
  omega
theorem wrap8_mod (n : Int) : IntKind.wrap .u8 n = n % 256 := by
  unfold IntKind.wrap
  simp [IntKind.bits, IntKind.signed]
end Go.Vc
