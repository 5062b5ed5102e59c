/- The package variables that this seat's rows list: robot.kindNames, block 0; internal/strconv.uint64pow10, block 1. -/
import GoSem.Core.World
namespace Eng
open Go
def GLV : List (Nat × List Value) := [(0, [.string ⟨#[102, 105, 120, 101, 100]⟩, .string ⟨#[116, 117, 114, 110, 120]⟩, .string ⟨#[116, 117, 114, 110, 121]⟩, .string ⟨#[116, 117, 114, 110, 122]⟩, .string ⟨#[115, 108, 105, 100, 101, 120]⟩, .string ⟨#[115, 108, 105, 100, 101, 121]⟩, .string ⟨#[115, 108, 105, 100, 101, 122]⟩]), (1, [.int .u64 1, .int .u64 10, .int .u64 100, .int .u64 1000, .int .u64 10000, .int .u64 100000, .int .u64 1000000, .int .u64 10000000, .int .u64 100000000, .int .u64 1000000000, .int .u64 10000000000, .int .u64 100000000000, .int .u64 1000000000000, .int .u64 10000000000000, .int .u64 100000000000000, .int .u64 1000000000000000, .int .u64 10000000000000000, .int .u64 100000000000000000, .int .u64 1000000000000000000, .int .u64 10000000000000000000])]
end Eng
