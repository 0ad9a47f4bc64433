/- The plans in one table, and that they are right. Printed by a small program. -/
import Derived.Test.YtbnegbjaoiplmaaTz
namespace Go.Proofs.Ytbnegbjaoiplmaa
open Go Go.Am

def tabOf : List (Nat × List (Nat × Plan)) → Nat → List (Nat × Plan)
  | [], _ => []
  | (k, p) :: r, g => if k = g then p else tabOf r g
def tab : Nat → List (Nat × Plan) := tabOf [(3, pl3), (4, pl4), (9, pl9), (13, pl13), (14, pl14), (16, pl16), (20, pl20), (21, pl21), (26, pl26), (34, pl34), (35, pl35), (36, pl36), (39, pl39), (41, pl41), (42, pl42), (43, pl43), (44, pl44), (51, pl51), (53, pl53), (54, pl54), (56, pl56), (58, pl58), (69, pl69), (73, pl73), (79, pl79), (80, pl80), (81, pl81), (82, pl82), (83, pl83), (88, pl88), (89, pl89), (90, pl90), (92, pl92), (94, pl94), (98, pl98), (104, pl104), (105, pl105)]

theorem tabOk : plansOk Try.prog tab = true := by kernel_rfl

end Go.Proofs.Ytbnegbjaoiplmaa
