/- The package variables of plain values that a seat's rows list: block and values. None here. -/
import GoSem.Core.World
namespace Eng
open Go
def GLV : List (Nat × List Value) := []
end Eng
