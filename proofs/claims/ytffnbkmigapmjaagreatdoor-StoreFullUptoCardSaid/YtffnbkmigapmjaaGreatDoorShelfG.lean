/-
  DERIVED: THE SHELF's CONTRACTS AT THIS DUMP, IN PLAIN WORDS (tools/lay-plain.mjs out of 'TryzShelfG.lean', which tools/lay-shelf.mjs wrote): THE SAME DECLARATIONS UNDER THE SAME NAMES: 'import', 'namespace', 'open', 'def', 'theorem' AND NOTHING ELSE: no command of the shelf's: FOR A HAND-IN. Each laying: the table of numbers ('.._ren') and one theorem, a field a fact of the dump's own or the kernel's comparison; each contract: ONE APPLICATION.
-/
import Derived.Shelf.SlMaps.Clone
import Derived.Shelf.SlIter.Nil
import Derived.Ground.SlmcProg
import Derived.Ground.GgzProg
import Derived.Test.YtffnbkmigapmjaaGreatDoorProg
namespace Go.Proofs
open Go.Shelf
def Tryz.cloneM_ren : Go.Shelf.Ren := ⟨fun | 5 => 72 | 7 => 120 | n => n, fun | 23 => 93 | 25 => 9 | 3 => 98 | 4 => 4 | 20 => 20 | n => n, fun | n => n⟩
theorem Tryz.cloneM : Go.Proofs.SlLaysW.n5 Tryz.prog Tryz.cloneM_ren := {
  mixed := by kernel_rfl
  f5 := ⟨Tryz.f72.name, by decide, Tryz.func72.trans (congrArg some (by kernel_rfl))⟩
  f7 := Tryz.func120.trans (congrArg some (by kernel_rfl))
  t4 := Tryz.underlying4
  a4 := Tryz.isAgg4
  z4 := Tryz.sizeOf4
  v4 := Tryz.zeroValue4
  t20 := Tryz.underlying20
  a20 := Tryz.isAgg20
  z20 := Tryz.sizeOf20
  v20 := Tryz.zeroValue20
  t23 := Tryz.underlying93
  a23 := Tryz.isAgg93
  z23 := Tryz.sizeOf93
  v23 := Tryz.zeroValue93 }
def Tryz.keysA_ren : Go.Shelf.Ren := ⟨fun | 7 => 138 | 10 => 184 | n => n, fun | 23 => 93 | 26 => 9 | 3 => 98 | 28 => 190 | 0 => 0 | 27 => 189 | 33 => 130 | 4 => 4 | n => n, fun | n => n⟩
theorem Tryz.keysA : Go.Proofs.SlLaysZ.n7 Tryz.prog Tryz.keysA_ren := {
  mixed := by kernel_rfl
  f7 := ⟨Tryz.f138.name, by decide, Tryz.func138.trans (congrArg some (by kernel_rfl))⟩
  f10 := ⟨Tryz.f184.name, by decide, Tryz.func184.trans (congrArg some (by kernel_rfl))⟩
  t0 := Tryz.underlying0
  a0 := Tryz.isAgg0
  z0 := Tryz.sizeOf0
  v0 := Tryz.zeroValue0
  t4 := Tryz.underlying4
  a4 := Tryz.isAgg4
  z4 := Tryz.sizeOf4
  v4 := Tryz.zeroValue4
  t23 := Tryz.underlying93
  a23 := Tryz.isAgg93
  z23 := Tryz.sizeOf93
  v23 := Tryz.zeroValue93
  t26 := Tryz.underlying9
  a26 := Tryz.isAgg9
  z26 := Tryz.sizeOf9
  v26 := Tryz.zeroValue9
  t27 := Tryz.underlying189
  a27 := Tryz.isAgg189
  z27 := Tryz.sizeOf189
  v27 := Tryz.zeroValue189
  t28 := Tryz.underlying190
  a28 := Tryz.isAgg190
  z28 := Tryz.sizeOf190
  v28 := Tryz.zeroValue190
  t33 := Tryz.underlying130
  a33 := Tryz.isAgg130
  z33 := Tryz.sizeOf130
  v33 := Tryz.zeroValue130 }
def Tryz.sortedA_ren : Go.Shelf.Ren := ⟨fun | 6 => 137 | 8 => 182 | 9 => 183 | 11 => 209 | 13 => 107 | 12 => 210 | 23 => 157 | 24 => 158 | 14 => 224 | 15 => 225 | 16 => 226 | 17 => 227 | 18 => 228 | 19 => 229 | 20 => 230 | 21 => 231 | 22 => 232 | 25 => 240 | 26 => 192 | 27 => 193 | 28 => 241 | 29 => 242 | 30 => 243 | 31 => 256 | n => n, fun | 26 => 9 | 28 => 190 | 24 => 27 | 0 => 0 | 3 => 3 | 37 => 132 | 48 => 144 | 50 => 146 | 4 => 4 | 40 => 204 | 39 => 203 | 45 => 186 | 5 => 5 | 9 => 9 | 51 => 235 | 55 => 233 | 57 => 254 | 58 => 255 | 33 => 130 | n => n, fun | n => n⟩
theorem Tryz.sortedA : Go.Proofs.SlLaysZ.n6 Tryz.prog Tryz.sortedA_ren := {
  mixed := by kernel_rfl
  f6 := ⟨Tryz.f137.name, by decide, Tryz.func137.trans (congrArg some (by kernel_rfl))⟩
  f8 := ⟨Tryz.f182.name, by decide, Tryz.func182.trans (congrArg some (by kernel_rfl))⟩
  f11 := ⟨Tryz.f209.name, by decide, Tryz.func209.trans (congrArg some (by kernel_rfl))⟩
  t0 := Tryz.underlying0
  a0 := Tryz.isAgg0
  z0 := Tryz.sizeOf0
  v0 := Tryz.zeroValue0
  t24 := Tryz.underlying27
  a24 := Tryz.isAgg27
  z24 := Tryz.sizeOf27
  v24 := Tryz.zeroValue27
  t26 := Tryz.underlying9
  a26 := Tryz.isAgg9
  z26 := Tryz.sizeOf9
  v26 := Tryz.zeroValue9
  t28 := Tryz.underlying190
  a28 := Tryz.isAgg190
  z28 := Tryz.sizeOf190
  v28 := Tryz.zeroValue190
  i26 := by kernel_rfl }
end Go.Proofs
