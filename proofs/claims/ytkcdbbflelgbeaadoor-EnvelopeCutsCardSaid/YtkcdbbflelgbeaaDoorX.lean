/- The library functions that are reached, by the contracts of the kit: printed by shelfx.py. -/
import Derived.Test.YtkcdbbflelgbeaaDoorSy23
import Derived.Test.YtkcdbbflelgbeaaDoorSy18
import Derived.Test.YtkcdbbflelgbeaaDoorProg
namespace Go.Proofs
open Go.Shelf
def Tryd.lays105_ren : Go.Shelf.Ren := ⟨fun | 105 => 18 | 212 => 32 | 99 => 33 | 165 => 34 | 166 => 35 | 170 => 36 | 169 => 37 | 263 => 46 | 264 => 47 | 206 => 48 | 240 => 49 | 241 => 50 | 276 => 61 | 277 => 62 | n => n, fun | 9 => 9 | 3 => 3 | 4 => 4 | 20 => 20 | 0 => 0 | 46 => 31 | 109 => 64 | 5 => 5 | 72 => 69 | 76 => 73 | 51 => 86 | 146 => 87 | 53 => 85 | 148 => 89 | 70 => 67 | 37 => 43 | 75 => 72 | 127 => 91 | 164 => 101 | 80 => 50 | n => n, fun | n => n⟩
theorem Tryd.lays105 : Go.Proofs.Lays.n105 Tryd.prog Tryd.lays105_ren := {
  mixed := by kernel_rfl
  f99 := Tryd.func33.trans (congrArg some (by kernel_rfl))
  f105 := Tryd.func18.trans (congrArg some (by kernel_rfl))
  f165 := Tryd.func34.trans (congrArg some (by kernel_rfl))
  f166 := Tryd.func35.trans (congrArg some (by kernel_rfl))
  f169 := Tryd.func37.trans (congrArg some (by kernel_rfl))
  f170 := Tryd.func36.trans (congrArg some (by kernel_rfl))
  f206 := Tryd.func48.trans (congrArg some (by kernel_rfl))
  f212 := Tryd.func32.trans (congrArg some (by kernel_rfl))
  f240 := Tryd.func49.trans (congrArg some (by kernel_rfl))
  f241 := Tryd.func50.trans (congrArg some (by kernel_rfl))
  f263 := Tryd.func46.trans (congrArg some (by kernel_rfl))
  f264 := Tryd.func47.trans (congrArg some (by kernel_rfl))
  f276 := Tryd.func61.trans (congrArg some (by kernel_rfl))
  f277 := Tryd.func62.trans (congrArg some (by kernel_rfl))
  t0 := Tryd.underlying0
  a0 := Tryd.isAgg0
  z0 := Tryd.sizeOf0
  v0 := Tryd.zeroValue0
  t3 := Tryd.underlying3
  a3 := Tryd.isAgg3
  z3 := Tryd.sizeOf3
  v3 := Tryd.zeroValue3
  t4 := Tryd.underlying4
  a4 := Tryd.isAgg4
  z4 := Tryd.sizeOf4
  v4 := Tryd.zeroValue4
  t5 := Tryd.underlying5
  a5 := Tryd.isAgg5
  z5 := Tryd.sizeOf5
  v5 := Tryd.zeroValue5
  t9 := Tryd.underlying9
  a9 := Tryd.isAgg9
  z9 := Tryd.sizeOf9
  v9 := Tryd.zeroValue9
  t20 := Tryd.underlying20
  a20 := Tryd.isAgg20
  z20 := Tryd.sizeOf20
  v20 := Tryd.zeroValue20
  t37 := Tryd.underlying43
  a37 := Tryd.isAgg43
  z37 := Tryd.sizeOf43
  v37 := Tryd.zeroValue43
  t46 := Tryd.underlying31
  a46 := Tryd.isAgg31
  z46 := Tryd.sizeOf31
  v46 := Tryd.zeroValue31
  t51 := Tryd.underlying86
  a51 := Tryd.isAgg86
  z51 := Tryd.sizeOf86
  v51 := Tryd.zeroValue86
  t53 := Tryd.underlying85
  a53 := Tryd.isAgg85
  z53 := Tryd.sizeOf85
  v53 := Tryd.zeroValue85
  t70 := Tryd.underlying67
  a70 := Tryd.isAgg67
  z70 := Tryd.sizeOf67
  v70 := Tryd.zeroValue67
  t72 := Tryd.underlying69
  a72 := Tryd.isAgg69
  z72 := Tryd.sizeOf69
  v72 := Tryd.zeroValue69
  t75 := Tryd.underlying72
  a75 := Tryd.isAgg72
  z75 := Tryd.sizeOf72
  v75 := Tryd.zeroValue72
  t76 := Tryd.underlying73
  a76 := Tryd.isAgg73
  z76 := Tryd.sizeOf73
  v76 := Tryd.zeroValue73
  t109 := Tryd.underlying64
  a109 := Tryd.isAgg64
  z109 := Tryd.sizeOf64
  v109 := Tryd.zeroValue64
  t127 := Tryd.underlying91
  a127 := Tryd.isAgg91
  z127 := Tryd.sizeOf91
  v127 := Tryd.zeroValue91
  t146 := Tryd.underlying87
  a146 := Tryd.isAgg87
  z146 := Tryd.sizeOf87
  v146 := Tryd.zeroValue87
  t148 := Tryd.underlying89
  a148 := Tryd.isAgg89
  z148 := Tryd.sizeOf89
  v148 := Tryd.zeroValue89
  t164 := Tryd.underlying101
  a164 := Tryd.isAgg101
  z164 := Tryd.sizeOf101
  v164 := Tryd.zeroValue101 }
def Tryd.lays162_ren : Go.Shelf.Ren := ⟨fun | 162 => 25 | 232 => 40 | 227 => 41 | 234 => 42 | 236 => 43 | 228 => 55 | 271 => 56 | 151 => 57 | 120 => 67 | 197 => 66 | 152 => 68 | 260 => 70 | 137 => 71 | 119 => 72 | 224 => 73 | 225 => 74 | 217 => 76 | 266 => 78 | n => n, fun | 9 => 9 | 4 => 4 | 3 => 3 | 5 => 5 | 117 => 81 | 116 => 80 | 0 => 0 | 124 => 84 | 21 => 21 | 105 => 94 | 46 => 31 | 119 => 116 | 139 => 119 | 138 => 118 | n => n, fun | 3 => 3 | 4 => 4 | n => n⟩
theorem Tryd.lays162 : Go.Proofs.Lays.n162 Tryd.prog Tryd.lays162_ren := {
  mixed := by kernel_rfl
  f119 := Tryd.func72.trans (congrArg some (by kernel_rfl))
  f120 := Tryd.func67.trans (congrArg some (by kernel_rfl))
  f137 := Tryd.func71.trans (congrArg some (by kernel_rfl))
  f151 := Tryd.func57.trans (congrArg some (by kernel_rfl))
  f152 := Tryd.func68.trans (congrArg some (by kernel_rfl))
  f162 := Tryd.func25.trans (congrArg some (by kernel_rfl))
  f197 := Tryd.func66.trans (congrArg some (by kernel_rfl))
  f217 := Tryd.func76.trans (congrArg some (by kernel_rfl))
  f224 := Tryd.func73.trans (congrArg some (by kernel_rfl))
  f225 := Tryd.func74.trans (congrArg some (by kernel_rfl))
  f227 := Tryd.func41.trans (congrArg some (by kernel_rfl))
  f228 := Tryd.func55.trans (congrArg some (by kernel_rfl))
  f232 := Tryd.func40.trans (congrArg some (by kernel_rfl))
  f234 := Tryd.func42.trans (congrArg some (by kernel_rfl))
  f236 := Tryd.func43.trans (congrArg some (by kernel_rfl))
  f260 := Tryd.func70.trans (congrArg some (by kernel_rfl))
  f266 := Tryd.func78.trans (congrArg some (by kernel_rfl))
  f271 := Tryd.func56.trans (congrArg some (by kernel_rfl))
  t0 := Tryd.underlying0
  a0 := Tryd.isAgg0
  z0 := Tryd.sizeOf0
  v0 := Tryd.zeroValue0
  t3 := Tryd.underlying3
  a3 := Tryd.isAgg3
  z3 := Tryd.sizeOf3
  v3 := Tryd.zeroValue3
  t4 := Tryd.underlying4
  a4 := Tryd.isAgg4
  z4 := Tryd.sizeOf4
  v4 := Tryd.zeroValue4
  t5 := Tryd.underlying5
  a5 := Tryd.isAgg5
  z5 := Tryd.sizeOf5
  v5 := Tryd.zeroValue5
  t9 := Tryd.underlying9
  a9 := Tryd.isAgg9
  z9 := Tryd.sizeOf9
  v9 := Tryd.zeroValue9
  t21 := Tryd.underlying21
  a21 := Tryd.isAgg21
  z21 := Tryd.sizeOf21
  v21 := Tryd.zeroValue21
  t46 := Tryd.underlying31
  a46 := Tryd.isAgg31
  z46 := Tryd.sizeOf31
  v46 := Tryd.zeroValue31
  t105 := Tryd.underlying94
  a105 := Tryd.isAgg94
  z105 := Tryd.sizeOf94
  v105 := Tryd.zeroValue94
  t116 := Tryd.underlying80
  a116 := Tryd.isAgg80
  z116 := Tryd.sizeOf80
  t117 := Tryd.underlying81
  a117 := Tryd.isAgg81
  z117 := Tryd.sizeOf81
  v117 := Tryd.zeroValue81
  t119 := Tryd.underlying116
  a119 := Tryd.isAgg116
  z119 := Tryd.sizeOf116
  t124 := Tryd.underlying84
  a124 := Tryd.isAgg84
  z124 := Tryd.sizeOf84
  v124 := Tryd.zeroValue84
  t138 := Tryd.underlying118
  a138 := Tryd.isAgg118
  z138 := Tryd.sizeOf118
  v138 := Tryd.zeroValue118
  t139 := Tryd.underlying119
  a139 := Tryd.isAgg119
  z139 := Tryd.sizeOf119
  v139 := Tryd.zeroValue119
  g3 := by kernel_rfl
  g4 := by kernel_rfl }
def Tryd.lays160_ren : Go.Shelf.Ren := ⟨fun | 160 => 39 | 232 => 40 | 231 => 52 | 227 => 41 | 234 => 42 | 233 => 53 | 236 => 43 | 235 => 54 | 228 => 55 | 271 => 56 | 151 => 57 | 197 => 66 | 120 => 67 | 152 => 68 | 260 => 70 | 137 => 71 | 119 => 72 | 224 => 73 | 225 => 74 | 217 => 76 | 266 => 78 | n => n, fun | 9 => 9 | 4 => 4 | 3 => 3 | 5 => 5 | 117 => 81 | 116 => 80 | 0 => 0 | 124 => 84 | 21 => 21 | 105 => 94 | 46 => 31 | 119 => 116 | 139 => 119 | 138 => 118 | n => n, fun | 3 => 3 | 4 => 4 | n => n⟩
theorem Tryd.lays160 : Go.Proofs.Lays.n160 Tryd.prog Tryd.lays160_ren := {
  mixed := by kernel_rfl
  f119 := Tryd.func72.trans (congrArg some (by kernel_rfl))
  f120 := Tryd.func67.trans (congrArg some (by kernel_rfl))
  f137 := Tryd.func71.trans (congrArg some (by kernel_rfl))
  f151 := Tryd.func57.trans (congrArg some (by kernel_rfl))
  f152 := Tryd.func68.trans (congrArg some (by kernel_rfl))
  f160 := Tryd.func39.trans (congrArg some (by kernel_rfl))
  f197 := Tryd.func66.trans (congrArg some (by kernel_rfl))
  f217 := Tryd.func76.trans (congrArg some (by kernel_rfl))
  f224 := Tryd.func73.trans (congrArg some (by kernel_rfl))
  f225 := Tryd.func74.trans (congrArg some (by kernel_rfl))
  f227 := Tryd.func41.trans (congrArg some (by kernel_rfl))
  f228 := Tryd.func55.trans (congrArg some (by kernel_rfl))
  f231 := Tryd.func52.trans (congrArg some (by kernel_rfl))
  f232 := Tryd.func40.trans (congrArg some (by kernel_rfl))
  f233 := Tryd.func53.trans (congrArg some (by kernel_rfl))
  f234 := Tryd.func42.trans (congrArg some (by kernel_rfl))
  f235 := Tryd.func54.trans (congrArg some (by kernel_rfl))
  f236 := Tryd.func43.trans (congrArg some (by kernel_rfl))
  f260 := Tryd.func70.trans (congrArg some (by kernel_rfl))
  f266 := Tryd.func78.trans (congrArg some (by kernel_rfl))
  f271 := Tryd.func56.trans (congrArg some (by kernel_rfl))
  t0 := Tryd.underlying0
  a0 := Tryd.isAgg0
  z0 := Tryd.sizeOf0
  v0 := Tryd.zeroValue0
  t3 := Tryd.underlying3
  a3 := Tryd.isAgg3
  z3 := Tryd.sizeOf3
  v3 := Tryd.zeroValue3
  t4 := Tryd.underlying4
  a4 := Tryd.isAgg4
  z4 := Tryd.sizeOf4
  v4 := Tryd.zeroValue4
  t5 := Tryd.underlying5
  a5 := Tryd.isAgg5
  z5 := Tryd.sizeOf5
  v5 := Tryd.zeroValue5
  t9 := Tryd.underlying9
  a9 := Tryd.isAgg9
  z9 := Tryd.sizeOf9
  v9 := Tryd.zeroValue9
  t21 := Tryd.underlying21
  a21 := Tryd.isAgg21
  z21 := Tryd.sizeOf21
  v21 := Tryd.zeroValue21
  t46 := Tryd.underlying31
  a46 := Tryd.isAgg31
  z46 := Tryd.sizeOf31
  v46 := Tryd.zeroValue31
  t105 := Tryd.underlying94
  a105 := Tryd.isAgg94
  z105 := Tryd.sizeOf94
  v105 := Tryd.zeroValue94
  t116 := Tryd.underlying80
  a116 := Tryd.isAgg80
  z116 := Tryd.sizeOf80
  t117 := Tryd.underlying81
  a117 := Tryd.isAgg81
  z117 := Tryd.sizeOf81
  v117 := Tryd.zeroValue81
  t119 := Tryd.underlying116
  a119 := Tryd.isAgg116
  z119 := Tryd.sizeOf116
  t124 := Tryd.underlying84
  a124 := Tryd.isAgg84
  z124 := Tryd.sizeOf84
  v124 := Tryd.zeroValue84
  t138 := Tryd.underlying118
  a138 := Tryd.isAgg118
  z138 := Tryd.sizeOf118
  v138 := Tryd.zeroValue118
  t139 := Tryd.underlying119
  a139 := Tryd.isAgg119
  z139 := Tryd.sizeOf119
  v139 := Tryd.zeroValue119
  g3 := by kernel_rfl
  g4 := by kernel_rfl }
end Go.Proofs
namespace Go.Proofs.YtkcdbbflelgbeaaDoor.Sy
open Go Go.Proofs Go.RowKit
set_option linter.unusedVariables false
set_option linter.unusedSimpArgs false
namespace strings_Repeat
def f (k : Nat) (a : List Int) (b : Int) : Option (List Int) := shRepeat a b
def callee (k : Nat) : Callee := sigCallee [.data .str, .data (.int .i64)] [] (fun d _ => f k d.1 d.2.1) (fun t => .str t) (fun _ => [])
theorem fnIs : FnIs Tryd.prog 18 Tryd.f18 (bodyOf Tryd.f18) 125 := ⟨by kernel_rfl, by kernel_rfl, by kernel_rfl, by kernel_rfl⟩
theorem num : Go.Proofs.Tryd.lays105_ren.f 105 = 18 := by kernel_rfl
theorem extra : Builder.Extra Tryd.prog Go.Proofs.Tryd.lays105_ren := {
  sizeBuilder := by kernel_rfl
  liesBuilder := by kernel_rfl
  t5 := Go.Proofs.Tryd.lays105.t5
  a5 := Go.Proofs.Tryd.lays105.a5
  z5 := Go.Proofs.Tryd.lays105.z5
  v5 := Go.Proofs.Tryd.lays105.v5
  infoByte := by kernel_rfl
  cellsByte := by kernel_rfl
  sizeByte := by kernel_rfl
  neB5 := by decide }
theorem ok (k : Nat) : CalleeOK Tryd.prog 18 (callee k) := shRepeat_ok fnIs.callable (fun s c w h1 h2 => by
  have := Any.strings_Repeat Go.Proofs.Tryd.lays105 extra s c w h1 h2
  rw [num] at this
  exact this)
end strings_Repeat
namespace strings_TrimRight
def f (k : Nat) (a : List Int) (b : (List Int)) : Option (List Int) := shTrimRight a b
def callee (k : Nat) : Callee := sigCallee [.data .str, .data .str] [] (fun d _ => f k d.1 d.2.1) (fun t => .str t) (fun _ => [])
theorem fnIs : FnIs Tryd.prog 25 Tryd.f25 (bodyOf Tryd.f25) 37 := ⟨by kernel_rfl, by kernel_rfl, by kernel_rfl, by kernel_rfl⟩
theorem num : Go.Proofs.Tryd.lays162_ren.f 162 = 25 := by kernel_rfl
theorem ok (k : Nat) : CalleeOK Tryd.prog 25 (callee k) := shTrimRight_ok fnIs.callable (fun s cs w h1 h2 h3 => by
  have := Any.strings_TrimRight_laid Go.Proofs.Tryd.lays162 (by kernel_rfl) s cs w h1 h2 h3
  rw [num] at this
  exact this)
end strings_TrimRight
namespace strings_Trim
def f (k : Nat) (a : List Int) (b : (List Int)) : Option (List Int) := shTrim a b
def callee (k : Nat) : Callee := sigCallee [.data .str, .data .str] [] (fun d _ => f k d.1 d.2.1) (fun t => .str t) (fun _ => [])
theorem fnIs : FnIs Tryd.prog 39 Tryd.f39 (bodyOf Tryd.f39) 43 := ⟨by kernel_rfl, by kernel_rfl, by kernel_rfl, by kernel_rfl⟩
theorem num : Go.Proofs.Tryd.lays160_ren.f 160 = 39 := by kernel_rfl
theorem ok (k : Nat) : CalleeOK Tryd.prog 39 (callee k) := shTrim_ok fnIs.callable (fun s cs w h1 h2 h3 => by
  have := Any.strings_Trim_laid Go.Proofs.Tryd.lays160 (by kernel_rfl) s cs w h1 h2 h3
  rw [num] at this
  exact this)
end strings_Trim
end Go.Proofs.YtkcdbbflelgbeaaDoor.Sy
