/- The laws of chapter 11, as the rows want them (plain). -/
import Derived.Test.YtdoceelfokmhfaaPRg6
import Derived.Test.YtdoceelfokmhfaaPLk13
namespace Go.Ab
set_option linter.unusedVariables false
theorem law11_RingTells_true (l : Locks) (t : Int) (o : okLocks l) (ot : okK .i64 t) (b : bkLocks l + 1 ≤ 1048576) : law11_RingTells l t = some true := ringTells (lok_of o (by omega)).1 t
theorem law11_RingSame_true (l : Locks) (t : Int) (o : okLocks l) (ot : okK .i64 t) (b : bkLocks l + 1 ≤ 1048576) : law11_RingSame l t = some true := ringSame (lok_of o (by omega)).1 t
theorem law11_RingNone_true (l : Locks) (t : Int) (o : okLocks l) (ot : okK .i64 t) (b : bkLocks l + 1 ≤ 1048576) : law11_RingNone l t = some true := ringNone (lok_of o (by omega)).1 t
theorem law11_RingVictim_true (l : Locks) (t : Int) (o : okLocks l) (ot : okK .i64 t) (b : bkLocks l + 1 ≤ 1048576) : law11_RingVictim l t = some true := ringVictim (lok_of o (by omega)).1 t
theorem law11_RingBreaks_true (l : Locks) (t p : Int) (o : okLocks l) (ot : okK .i64 t) (op : okK .i64 p) (b : bkLocks l + 1 + 1 ≤ 1048576) : law11_RingBreaks l t p = some true := ringBreaks (lok_of o (by omega)).1 t p
end Go.Ab
