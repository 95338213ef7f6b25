/- The library functions that are reached, by the contracts of the kit: printed by shelfx.py. -/
import Derived.Test.YtkgpjplncfginaaGreatDoorSy23
import Derived.Test.YtkgpjplncfginaaGreatDoorSy18
import Derived.Test.YtkgpjplncfginaaGreatDoorProg
namespace Go.Proofs
open Go.Shelf
def Tryz.lays105_ren : Go.Shelf.Ren := ⟨fun | 105 => 44 | 212 => 59 | 99 => 60 | 165 => 61 | 166 => 62 | 170 => 63 | 169 => 64 | 263 => 71 | 264 => 72 | 206 => 73 | 240 => 74 | 241 => 75 | 276 => 84 | 277 => 85 | n => n, fun | 9 => 9 | 3 => 3 | 4 => 4 | 20 => 20 | 0 => 0 | 46 => 68 | 109 => 89 | 5 => 5 | 72 => 94 | 76 => 97 | 51 => 101 | 146 => 106 | 53 => 85 | 148 => 108 | 70 => 92 | 37 => 71 | 75 => 96 | 127 => 110 | 164 => 118 | 80 => 78 | n => n, fun | n => n⟩
theorem Tryz.lays105 : Go.Proofs.Lays.n105 Tryz.prog Tryz.lays105_ren := {
  mixed := by kernel_rfl
  f99 := Tryz.func60.trans (congrArg some (by kernel_rfl))
  f105 := Tryz.func44.trans (congrArg some (by kernel_rfl))
  f165 := Tryz.func61.trans (congrArg some (by kernel_rfl))
  f166 := Tryz.func62.trans (congrArg some (by kernel_rfl))
  f169 := Tryz.func64.trans (congrArg some (by kernel_rfl))
  f170 := Tryz.func63.trans (congrArg some (by kernel_rfl))
  f206 := Tryz.func73.trans (congrArg some (by kernel_rfl))
  f212 := Tryz.func59.trans (congrArg some (by kernel_rfl))
  f240 := Tryz.func74.trans (congrArg some (by kernel_rfl))
  f241 := Tryz.func75.trans (congrArg some (by kernel_rfl))
  f263 := Tryz.func71.trans (congrArg some (by kernel_rfl))
  f264 := Tryz.func72.trans (congrArg some (by kernel_rfl))
  f276 := Tryz.func84.trans (congrArg some (by kernel_rfl))
  f277 := Tryz.func85.trans (congrArg some (by kernel_rfl))
  t0 := Tryz.underlying0
  a0 := Tryz.isAgg0
  z0 := Tryz.sizeOf0
  v0 := Tryz.zeroValue0
  t3 := Tryz.underlying3
  a3 := Tryz.isAgg3
  z3 := Tryz.sizeOf3
  v3 := Tryz.zeroValue3
  t4 := Tryz.underlying4
  a4 := Tryz.isAgg4
  z4 := Tryz.sizeOf4
  v4 := Tryz.zeroValue4
  t5 := Tryz.underlying5
  a5 := Tryz.isAgg5
  z5 := Tryz.sizeOf5
  v5 := Tryz.zeroValue5
  t9 := Tryz.underlying9
  a9 := Tryz.isAgg9
  z9 := Tryz.sizeOf9
  v9 := Tryz.zeroValue9
  t20 := Tryz.underlying20
  a20 := Tryz.isAgg20
  z20 := Tryz.sizeOf20
  v20 := Tryz.zeroValue20
  t37 := Tryz.underlying71
  a37 := Tryz.isAgg71
  z37 := Tryz.sizeOf71
  v37 := Tryz.zeroValue71
  t46 := Tryz.underlying68
  a46 := Tryz.isAgg68
  z46 := Tryz.sizeOf68
  v46 := Tryz.zeroValue68
  t51 := Tryz.underlying101
  a51 := Tryz.isAgg101
  z51 := Tryz.sizeOf101
  v51 := Tryz.zeroValue101
  t53 := Tryz.underlying85
  a53 := Tryz.isAgg85
  z53 := Tryz.sizeOf85
  v53 := Tryz.zeroValue85
  t70 := Tryz.underlying92
  a70 := Tryz.isAgg92
  z70 := Tryz.sizeOf92
  v70 := Tryz.zeroValue92
  t72 := Tryz.underlying94
  a72 := Tryz.isAgg94
  z72 := Tryz.sizeOf94
  v72 := Tryz.zeroValue94
  t75 := Tryz.underlying96
  a75 := Tryz.isAgg96
  z75 := Tryz.sizeOf96
  v75 := Tryz.zeroValue96
  t76 := Tryz.underlying97
  a76 := Tryz.isAgg97
  z76 := Tryz.sizeOf97
  v76 := Tryz.zeroValue97
  t109 := Tryz.underlying89
  a109 := Tryz.isAgg89
  z109 := Tryz.sizeOf89
  v109 := Tryz.zeroValue89
  t127 := Tryz.underlying110
  a127 := Tryz.isAgg110
  z127 := Tryz.sizeOf110
  v127 := Tryz.zeroValue110
  t146 := Tryz.underlying106
  a146 := Tryz.isAgg106
  z146 := Tryz.sizeOf106
  v146 := Tryz.zeroValue106
  t148 := Tryz.underlying108
  a148 := Tryz.isAgg108
  z148 := Tryz.sizeOf108
  v148 := Tryz.zeroValue108
  t164 := Tryz.underlying118
  a164 := Tryz.isAgg118
  z164 := Tryz.sizeOf118
  v164 := Tryz.zeroValue118 }
def Tryz.lays160_ren : Go.Shelf.Ren := ⟨fun | 160 => 70 | 232 => 78 | 231 => 77 | 227 => 79 | 234 => 81 | 233 => 80 | 236 => 83 | 235 => 82 | 228 => 89 | 271 => 92 | 151 => 91 | 197 => 90 | 120 => 96 | 152 => 95 | 260 => 94 | 137 => 98 | 119 => 99 | 224 => 100 | 225 => 101 | 217 => 103 | 266 => 104 | n => n, fun | 9 => 9 | 4 => 4 | 3 => 3 | 5 => 5 | 117 => 114 | 116 => 113 | 0 => 0 | 124 => 117 | 21 => 21 | 105 => 125 | 46 => 68 | 119 => 133 | 139 => 136 | 138 => 135 | n => n, fun | 3 => 4 | 4 => 5 | n => n⟩
theorem Tryz.lays160 : Go.Proofs.Lays.n160 Tryz.prog Tryz.lays160_ren := {
  mixed := by kernel_rfl
  f119 := Tryz.func99.trans (congrArg some (by kernel_rfl))
  f120 := Tryz.func96.trans (congrArg some (by kernel_rfl))
  f137 := Tryz.func98.trans (congrArg some (by kernel_rfl))
  f151 := Tryz.func91.trans (congrArg some (by kernel_rfl))
  f152 := Tryz.func95.trans (congrArg some (by kernel_rfl))
  f160 := Tryz.func70.trans (congrArg some (by kernel_rfl))
  f197 := Tryz.func90.trans (congrArg some (by kernel_rfl))
  f217 := Tryz.func103.trans (congrArg some (by kernel_rfl))
  f224 := Tryz.func100.trans (congrArg some (by kernel_rfl))
  f225 := Tryz.func101.trans (congrArg some (by kernel_rfl))
  f227 := Tryz.func79.trans (congrArg some (by kernel_rfl))
  f228 := Tryz.func89.trans (congrArg some (by kernel_rfl))
  f231 := Tryz.func77.trans (congrArg some (by kernel_rfl))
  f232 := Tryz.func78.trans (congrArg some (by kernel_rfl))
  f233 := Tryz.func80.trans (congrArg some (by kernel_rfl))
  f234 := Tryz.func81.trans (congrArg some (by kernel_rfl))
  f235 := Tryz.func82.trans (congrArg some (by kernel_rfl))
  f236 := Tryz.func83.trans (congrArg some (by kernel_rfl))
  f260 := Tryz.func94.trans (congrArg some (by kernel_rfl))
  f266 := Tryz.func104.trans (congrArg some (by kernel_rfl))
  f271 := Tryz.func92.trans (congrArg some (by kernel_rfl))
  t0 := Tryz.underlying0
  a0 := Tryz.isAgg0
  z0 := Tryz.sizeOf0
  v0 := Tryz.zeroValue0
  t3 := Tryz.underlying3
  a3 := Tryz.isAgg3
  z3 := Tryz.sizeOf3
  v3 := Tryz.zeroValue3
  t4 := Tryz.underlying4
  a4 := Tryz.isAgg4
  z4 := Tryz.sizeOf4
  v4 := Tryz.zeroValue4
  t5 := Tryz.underlying5
  a5 := Tryz.isAgg5
  z5 := Tryz.sizeOf5
  v5 := Tryz.zeroValue5
  t9 := Tryz.underlying9
  a9 := Tryz.isAgg9
  z9 := Tryz.sizeOf9
  v9 := Tryz.zeroValue9
  t21 := Tryz.underlying21
  a21 := Tryz.isAgg21
  z21 := Tryz.sizeOf21
  v21 := Tryz.zeroValue21
  t46 := Tryz.underlying68
  a46 := Tryz.isAgg68
  z46 := Tryz.sizeOf68
  v46 := Tryz.zeroValue68
  t105 := Tryz.underlying125
  a105 := Tryz.isAgg125
  z105 := Tryz.sizeOf125
  v105 := Tryz.zeroValue125
  t116 := Tryz.underlying113
  a116 := Tryz.isAgg113
  z116 := Tryz.sizeOf113
  t117 := Tryz.underlying114
  a117 := Tryz.isAgg114
  z117 := Tryz.sizeOf114
  v117 := Tryz.zeroValue114
  t119 := Tryz.underlying133
  a119 := Tryz.isAgg133
  z119 := Tryz.sizeOf133
  t124 := Tryz.underlying117
  a124 := Tryz.isAgg117
  z124 := Tryz.sizeOf117
  v124 := Tryz.zeroValue117
  t138 := Tryz.underlying135
  a138 := Tryz.isAgg135
  z138 := Tryz.sizeOf135
  v138 := Tryz.zeroValue135
  t139 := Tryz.underlying136
  a139 := Tryz.isAgg136
  z139 := Tryz.sizeOf136
  v139 := Tryz.zeroValue136
  g3 := by kernel_rfl
  g4 := by kernel_rfl }
end Go.Proofs
namespace Go.Proofs.YtkgpjplncfginaaGreatDoor.Sy
open Go Go.Proofs Go.RowKit
set_option linter.unusedVariables false
set_option linter.unusedSimpArgs false
namespace strings_Repeat
def f (k : Nat) (a : List Int) (b : Int) : Option (List Int) := shRepeat a b
def callee (k : Nat) : Callee := sigCallee [.data .str, .data (.int .i64)] [] (fun d _ => f k d.1 d.2.1) (fun t => .str t) (fun _ => [])
theorem fnIs : FnIs Tryz.prog 44 Tryz.f44 (bodyOf Tryz.f44) 125 := ⟨by kernel_rfl, by kernel_rfl, by kernel_rfl, by kernel_rfl⟩
theorem num : Go.Proofs.Tryz.lays105_ren.f 105 = 44 := by kernel_rfl
theorem extra : Builder.Extra Tryz.prog Go.Proofs.Tryz.lays105_ren := {
  sizeBuilder := by kernel_rfl
  liesBuilder := by kernel_rfl
  t5 := Go.Proofs.Tryz.lays105.t5
  a5 := Go.Proofs.Tryz.lays105.a5
  z5 := Go.Proofs.Tryz.lays105.z5
  v5 := Go.Proofs.Tryz.lays105.v5
  infoByte := by kernel_rfl
  cellsByte := by kernel_rfl
  sizeByte := by kernel_rfl
  neB5 := by decide }
theorem ok (k : Nat) : CalleeOK Tryz.prog 44 (callee k) := shRepeat_ok fnIs.callable (fun s c w h1 h2 => by
  have := Any.strings_Repeat Go.Proofs.Tryz.lays105 extra s c w h1 h2
  rw [num] at this
  exact this)
end strings_Repeat
namespace strings_Trim
def f (k : Nat) (a : List Int) (b : (List Int)) : Option (List Int) := shTrim a b
def callee (k : Nat) : Callee := sigCallee [.data .str, .data .str] [] (fun d _ => f k d.1 d.2.1) (fun t => .str t) (fun _ => [])
theorem fnIs : FnIs Tryz.prog 70 Tryz.f70 (bodyOf Tryz.f70) 43 := ⟨by kernel_rfl, by kernel_rfl, by kernel_rfl, by kernel_rfl⟩
theorem num : Go.Proofs.Tryz.lays160_ren.f 160 = 70 := by kernel_rfl
theorem ok (k : Nat) : CalleeOK Tryz.prog 70 (callee k) := shTrim_ok fnIs.callable (fun s cs w h1 h2 h3 => by
  have := Any.strings_Trim_laid Go.Proofs.Tryz.lays160 (by kernel_rfl) s cs w h1 h2 h3
  rw [num] at this
  exact this)
end strings_Trim
end Go.Proofs.YtkgpjplncfginaaGreatDoor.Sy
