/- The library's contracts that the walks use, laid at this program's numbers. -/
import Derived.Shelf.Strings.Trim
import Derived.Shelf.Small.Utf8
import Derived.Shelf.Small.Strs
import Derived.Shelf.Strings.Search1
import Derived.Shelf.Unicode.Decode
import Derived.Shelf.Strings.Runes
import Derived.Shelf.Strings.AsciiSet
import Derived.Shelf.Unicode.DecodeSlow
import Derived.Shelf.Unicode.DecodeAny
import Derived.Shelf.Unicode.DecodeLast
import Derived.Shelf.Strings.FieldsFuncAny
import Derived.Ground.Names2Prog
import Derived.Shelf.Slices.Clone
import Derived.Ground.SlgnProg
import Derived.Shelf.SlicesE.Clone
import Derived.Ground.SlgfProg
import Derived.Shelf.SlicesE.IndexFunc
import Derived.Shelf.SlicesE.DeleteFunc
import Derived.Test.YtpjakdekaolmeaaDoorProg
namespace Go.Proofs.YtpjakdekaolmeaaDoor
open Go.Shelf
def Tryd.laysHas_ren : Go.Shelf.Ren := ⟨fun | 8 => 45 | 6 => 54 | n => n, fun | 22 => 44 | 23 => 9 | 25 => 27 | 4 => 4 | 3 => 3 | 0 => 0 | n => n, fun | n => n⟩
theorem Tryd.laysHas : Go.Proofs.SlLaysH.n8 Tryd.prog Tryd.laysHas_ren := {
  mixed := by kernel_rfl
  f6 := ⟨Tryd.f54.name, by decide, Tryd.func54.trans (congrArg some (by kernel_rfl))⟩
  f8 := ⟨Tryd.f45.name, by decide, Tryd.func45.trans (congrArg some (by kernel_rfl))⟩
  t0 := Tryd.underlying0
  a0 := Tryd.isAgg0
  z0 := Tryd.sizeOf0
  v0 := Tryd.zeroValue0
  t3 := Tryd.underlying3
  a3 := Tryd.isAgg3
  z3 := Tryd.sizeOf3
  v3 := Tryd.zeroValue3
  t4 := Tryd.underlying4
  a4 := Tryd.isAgg4
  z4 := Tryd.sizeOf4
  v4 := Tryd.zeroValue4
  t22 := Tryd.underlying44
  a22 := Tryd.isAgg44
  z22 := Tryd.sizeOf44
  v22 := Tryd.zeroValue44
  a23 := Tryd.isAgg9
  z23 := Tryd.sizeOf9
  t25 := Tryd.underlying27
  a25 := Tryd.isAgg27
  z25 := Tryd.sizeOf27
  v25 := Tryd.zeroValue27 }
def Tryd.laysDel_ren : Go.Shelf.Ren := ⟨fun | 10 => 50 | 6 => 54 | n => n, fun | 22 => 44 | 23 => 9 | 25 => 27 | 3 => 3 | 4 => 4 | 0 => 0 | n => n, fun | n => n⟩
theorem Tryd.laysDel : Go.Proofs.SlLaysH.n10 Tryd.prog Tryd.laysDel_ren := {
  mixed := by kernel_rfl
  f6 := ⟨Tryd.f54.name, by decide, Tryd.func54.trans (congrArg some (by kernel_rfl))⟩
  f10 := ⟨Tryd.f50.name, by decide, Tryd.func50.trans (congrArg some (by kernel_rfl))⟩
  t0 := Tryd.underlying0
  a0 := Tryd.isAgg0
  z0 := Tryd.sizeOf0
  v0 := Tryd.zeroValue0
  t3 := Tryd.underlying3
  a3 := Tryd.isAgg3
  z3 := Tryd.sizeOf3
  v3 := Tryd.zeroValue3
  t4 := Tryd.underlying4
  a4 := Tryd.isAgg4
  z4 := Tryd.sizeOf4
  v4 := Tryd.zeroValue4
  t22 := Tryd.underlying44
  a22 := Tryd.isAgg44
  z22 := Tryd.sizeOf44
  v22 := Tryd.zeroValue44
  a23 := Tryd.isAgg9
  z23 := Tryd.sizeOf9
  t25 := Tryd.underlying27
  a25 := Tryd.isAgg27
  z25 := Tryd.sizeOf27
  v25 := Tryd.zeroValue27 }
end Go.Proofs.YtpjakdekaolmeaaDoor
