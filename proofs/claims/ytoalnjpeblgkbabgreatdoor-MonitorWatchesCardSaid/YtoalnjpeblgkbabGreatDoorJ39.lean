/- The law MonitorOnce, whatever its arguments: the walk. -/
import Derived.Test.YtoalnjpeblgkbabGreatDoorJ34
import Derived.Test.YtoalnjpeblgkbabGreatDoorJ38
set_option linter.unusedVariables false
set_option linter.unusedSimpArgs false
namespace Go.Proofs.YtoalnjpeblgkbabGreatDoor
open Go.RowKit
theorem RegsL.more {w w':World} {rb o:Nat} {v:Value} {l:List Int} {b:Nat} (h:RegsL w rb o v l) (hf:FrS [b] w w') (hb:l≠[]→rb≠b):RegsL w' rb o v l:=h.fr hf (fun e q=>hb e (List.mem_singleton.1 q))
end Go.Proofs.YtoalnjpeblgkbabGreatDoor
