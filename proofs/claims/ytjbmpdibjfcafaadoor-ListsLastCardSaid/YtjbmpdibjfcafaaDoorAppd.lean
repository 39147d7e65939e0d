/- append, by a name that the walk does not open. Conditions: none. -/
import Derived.Test.YtjbmpdibjfcafaaDoorRep
namespace Go.Proofs.YtjbmpdibjfcafaaDoor
open Go.RowKit

/-- append, by a name that the walk does not open. -/
def Appd (ats : Array TypeId) (ty : TypeId) (args : Array Value) : Sem Value := Builtin.append_ ats ty args
theorem builtin_appd (ats : Array TypeId) (ty : TypeId) (cs : Array Bool) (args : Array Value) : builtin .append ats ty cs args = (do pure (.value (← Appd ats ty args))) := rfl
end Go.Proofs.YtjbmpdibjfcafaaDoor
