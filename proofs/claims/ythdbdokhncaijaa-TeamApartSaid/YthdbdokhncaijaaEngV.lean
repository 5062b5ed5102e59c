/- The package variables of texts that a seat's rows list: block and texts. None here. -/
namespace Eng
def GLV : List (Nat × List ByteArray) := []
end Eng
