/- Laws of my own that LaneRights alone leans on. -/
import Derived.Test.YtglfdihomfhmmaaGreatDoorR7
set_option linter.unusedVariables false
set_option linter.unusedSimpArgs false
open List (length replicate getD drop take)
open Option.some (inj injEq)
open Int (toNat)
open Go.IntKind (wrap)
