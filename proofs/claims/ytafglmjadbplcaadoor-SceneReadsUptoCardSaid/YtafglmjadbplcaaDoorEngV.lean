/- The package variables that this seat's rows list: robot.kindNames, block 0. -/
import GoSem.Core.World
namespace Eng
open Go
def GLV : List (Nat × List Value) := [(0, [.string ⟨#[102, 105, 120, 101, 100]⟩, .string ⟨#[116, 117, 114, 110, 120]⟩, .string ⟨#[116, 117, 114, 110, 121]⟩, .string ⟨#[116, 117, 114, 110, 122]⟩, .string ⟨#[115, 108, 105, 100, 101, 120]⟩, .string ⟨#[115, 108, 105, 100, 101, 121]⟩, .string ⟨#[115, 108, 105, 100, 101, 122]⟩])]
end Eng
