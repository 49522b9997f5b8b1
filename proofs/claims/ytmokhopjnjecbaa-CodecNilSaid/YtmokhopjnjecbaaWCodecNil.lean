/- The law on a nil In and a nil Out: reckoned. -/
import Derived.Test.YtmokhopjnjecbaaCdCodec
import Derived.Test.YtmokhopjnjecbaaCdFrame
namespace Go.Proofs.Ytmokhopjnjecbaa
open Go.Ev
set_option maxRecDepth 100000
theorem codecNil_calls (most : Int) (_h : -9223372036854775808 ≤ most ∧ most < 9223372036854775808) : PCalls Try.prog F_law01_CodecNil [.int .i64 most] (.bool true) :=
  evalF_calls (T := tabOf (tab_CdCodec ++ tab_CdFrame)) (n := 300) (tab_append tok_CdCodec tok_CdFrame) (by kernel_rfl)
end Go.Proofs.Ytmokhopjnjecbaa
