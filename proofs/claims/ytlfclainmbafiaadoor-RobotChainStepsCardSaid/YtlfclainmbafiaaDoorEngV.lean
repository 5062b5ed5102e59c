/- The package variables of texts that this seat's rows list: robot.kindNames, block 0. -/
namespace Eng
def GLV : List (Nat × List ByteArray) := [(0, [⟨#[102, 105, 120, 101, 100]⟩, ⟨#[116, 117, 114, 110, 120]⟩, ⟨#[116, 117, 114, 110, 121]⟩, ⟨#[116, 117, 114, 110, 122]⟩, ⟨#[115, 108, 105, 100, 101, 120]⟩, ⟨#[115, 108, 105, 100, 101, 121]⟩, ⟨#[115, 108, 105, 100, 101, 122]⟩])]
end Eng
