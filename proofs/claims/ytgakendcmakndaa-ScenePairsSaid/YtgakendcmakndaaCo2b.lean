/- Variables that hold robots and scenes. -/
import Derived.Test.YtgakendcmakndaaCo2
namespace Go.Proofs.Ytgakendcmakndaa
open Eng
abbrev bRo (r : Robot) : Box := .vars Y.Robot [.dv (dJs r.joints), .dv (dMs r.masses)]
abbrev bSc (s : Scene) : Box := .vars Y.Scene [.dv (dJs s.robot.joints), .dv (dMs s.robot.masses), .dv (dShs s.shapes), .dv (dSks s.skips)]
end Go.Proofs.Ytgakendcmakndaa
