/- The seat bears the functions of the library of which the primitives speak. -/
import Derived.Test.YtjoemiadbccljaaGreatHvP3
import Derived.Test.YtjoemiadbccljaaGreatHvP4
import Derived.Test.YtjoemiadbccljaaGreatProg
import Derived.KernelRfl
set_option maxRecDepth 100000
namespace Go.Hv.Tryz
open Go Go.Hv Go.RowKit Go.Shelf Go.Proofs

theorem mixed : Tryz.prog.follows .mixedOrders = true := by kernel_rfl

def renZ : Go.Shelf.Ren := ⟨fun | 10 => 224 | 11 => 286 | n => n, fun | 0 => 0 | 3 => 115 | 4 => 4 | 23 => 106 | 24 => 27 | 26 => 3 | 28 => 209 | 33 => 117 | n => n, fun n => n⟩
theorem layZ11 : SlLaysZI.n11 Tryz.prog renZ :=
  { mixed := mixed,
    f11 := ⟨Tryz.f286.name, by decide, Tryz.func286.trans (congrArg some (by kernel_rfl))⟩,
    t0 := Tryz.underlying0,
    a0 := Tryz.isAgg0,
    z0 := Tryz.sizeOf0,
    v0 := Tryz.zeroValue0,
    t24 := Tryz.underlying27,
    a24 := Tryz.isAgg27,
    z24 := Tryz.sizeOf27,
    v24 := Tryz.zeroValue27,
    t26 := Tryz.underlying3,
    a26 := Tryz.isAgg3,
    z26 := Tryz.sizeOf3,
    v26 := Tryz.zeroValue3,
    t28 := Tryz.underlying209,
    a28 := Tryz.isAgg209,
    z28 := Tryz.sizeOf209,
    v28 := Tryz.zeroValue209,
    i26 := by kernel_rfl }
theorem layZ10 : SlLaysZI.n10 Tryz.prog renZ :=
  { mixed := mixed,
    f10 := ⟨Tryz.f224.name, by decide, Tryz.func224.trans (congrArg some (by kernel_rfl))⟩,
    t0 := Tryz.underlying0,
    a0 := Tryz.isAgg0,
    z0 := Tryz.sizeOf0,
    v0 := Tryz.zeroValue0,
    t4 := Tryz.underlying4,
    a4 := Tryz.isAgg4,
    z4 := Tryz.sizeOf4,
    v4 := Tryz.zeroValue4,
    t23 := Tryz.underlying106,
    a23 := Tryz.isAgg106,
    z23 := Tryz.sizeOf106,
    v23 := Tryz.zeroValue106,
    t26 := Tryz.underlying3,
    a26 := Tryz.isAgg3,
    z26 := Tryz.sizeOf3,
    v26 := Tryz.zeroValue3,
    t33 := Tryz.underlying117,
    a33 := Tryz.isAgg117,
    z33 := Tryz.sizeOf117,
    v33 := Tryz.zeroValue117 }
def renB : Go.Shelf.Ren := ⟨fun | 169 => 169 | 240 => 260 | 276 => 344 | n => n, fun | 0 => 0 | 3 => 3 | 4 => 4 | 5 => 5 | 9 => 9 | 20 => 20 | 37 => 251 | 70 => 250 | 72 => 253 | 127 => 374 | 164 => 456 | n => n, fun n => n⟩
theorem layB240 : Lays.n240 Tryz.prog renB :=
  { mixed := mixed,
    f240 := Tryz.func260.trans (congrArg some (by kernel_rfl)),
    f276 := Tryz.func344.trans (congrArg some (by kernel_rfl)),
    t0 := Tryz.underlying0,
    a0 := Tryz.isAgg0,
    z0 := Tryz.sizeOf0,
    v0 := Tryz.zeroValue0,
    t4 := Tryz.underlying4,
    a4 := Tryz.isAgg4,
    z4 := Tryz.sizeOf4,
    v4 := Tryz.zeroValue4,
    t9 := Tryz.underlying9,
    a9 := Tryz.isAgg9,
    z9 := Tryz.sizeOf9,
    v9 := Tryz.zeroValue9,
    t20 := Tryz.underlying20,
    a20 := Tryz.isAgg20,
    z20 := Tryz.sizeOf20,
    v20 := Tryz.zeroValue20,
    t70 := Tryz.underlying250,
    a70 := Tryz.isAgg250,
    z70 := Tryz.sizeOf250,
    v70 := Tryz.zeroValue250,
    t72 := Tryz.underlying253,
    a72 := Tryz.isAgg253,
    z72 := Tryz.sizeOf253,
    v72 := Tryz.zeroValue253,
    t164 := Tryz.underlying456,
    a164 := Tryz.isAgg456,
    z164 := Tryz.sizeOf456,
    v164 := Tryz.zeroValue456 }
theorem layB169 : Lays.n169 Tryz.prog renB :=
  { mixed := mixed,
    f169 := Tryz.func169.trans (congrArg some (by kernel_rfl)),
    t0 := Tryz.underlying0,
    a0 := Tryz.isAgg0,
    z0 := Tryz.sizeOf0,
    v0 := Tryz.zeroValue0,
    t3 := Tryz.underlying3,
    a3 := Tryz.isAgg3,
    z3 := Tryz.sizeOf3,
    v3 := Tryz.zeroValue3,
    t9 := Tryz.underlying9,
    a9 := Tryz.isAgg9,
    z9 := Tryz.sizeOf9,
    v9 := Tryz.zeroValue9,
    t37 := Tryz.underlying251,
    a37 := Tryz.isAgg251,
    z37 := Tryz.sizeOf251,
    v37 := Tryz.zeroValue251,
    t70 := Tryz.underlying250,
    a70 := Tryz.isAgg250,
    z70 := Tryz.sizeOf250,
    v70 := Tryz.zeroValue250,
    t72 := Tryz.underlying253,
    a72 := Tryz.isAgg253,
    z72 := Tryz.sizeOf253,
    v72 := Tryz.zeroValue253,
    t127 := Tryz.underlying374,
    a127 := Tryz.isAgg374,
    z127 := Tryz.sizeOf374,
    v127 := Tryz.zeroValue374 }

theorem extraB : Builder.Extra Tryz.prog renB :=
  { sizeBuilder := by kernel_rfl,
    liesBuilder := by kernel_rfl,
    t5 := Tryz.underlying5,
    a5 := Tryz.isAgg5,
    z5 := Tryz.sizeOf5,
    v5 := Tryz.zeroValue5,
    infoByte := by kernel_rfl,
    cellsByte := by kernel_rfl,
    sizeByte := by kernel_rfl,
    neB5 := by decide }

theorem gathers : GathersNone Tryz.prog 286 224 := gathers_of layZ11 layZ10
theorem checks : Checks Tryz.prog 260 253 := checks_of layB240 extraB.toX72
theorem texts : Texts Tryz.prog 169 253 5 := texts_of layB169 extraB

theorem callable286 : Callable Tryz.prog 286 := ⟨_, Tryz.func286, by kernel_rfl, by kernel_rfl⟩
theorem callable260 : Callable Tryz.prog 260 := ⟨_, Tryz.func260, by kernel_rfl, by kernel_rfl⟩
theorem callable169 : Callable Tryz.prog 169 := ⟨_, Tryz.func169, by kernel_rfl, by kernel_rfl⟩

end Go.Hv.Tryz
