/- The library functions that are reached, by the contracts of the kit: printed by shelfx.py. -/
import Derived.Test.YtkgpjplncfginaaDoorSy23
import Derived.Test.YtkgpjplncfginaaDoorSy18
import Derived.Test.YtkgpjplncfginaaDoorProg
namespace Go.Proofs
open Go.Shelf
def Tryd.lays105_ren : Go.Shelf.Ren := ⟨fun | 105 => 49 | 212 => 64 | 99 => 65 | 165 => 66 | 166 => 67 | 170 => 68 | 169 => 69 | 263 => 76 | 264 => 77 | 206 => 78 | 240 => 79 | 241 => 80 | 276 => 89 | 277 => 90 | n => n, fun | 9 => 9 | 3 => 3 | 4 => 4 | 20 => 20 | 0 => 0 | 46 => 43 | 109 => 92 | 5 => 5 | 72 => 96 | 76 => 99 | 51 => 103 | 146 => 108 | 53 => 70 | 148 => 110 | 70 => 94 | 37 => 71 | 75 => 98 | 127 => 112 | 164 => 120 | 80 => 82 | n => n, fun | n => n⟩
theorem Tryd.lays105 : Go.Proofs.Lays.n105 Tryd.prog Tryd.lays105_ren := {
  mixed := by kernel_rfl
  f99 := Tryd.func65.trans (congrArg some (by kernel_rfl))
  f105 := Tryd.func49.trans (congrArg some (by kernel_rfl))
  f165 := Tryd.func66.trans (congrArg some (by kernel_rfl))
  f166 := Tryd.func67.trans (congrArg some (by kernel_rfl))
  f169 := Tryd.func69.trans (congrArg some (by kernel_rfl))
  f170 := Tryd.func68.trans (congrArg some (by kernel_rfl))
  f206 := Tryd.func78.trans (congrArg some (by kernel_rfl))
  f212 := Tryd.func64.trans (congrArg some (by kernel_rfl))
  f240 := Tryd.func79.trans (congrArg some (by kernel_rfl))
  f241 := Tryd.func80.trans (congrArg some (by kernel_rfl))
  f263 := Tryd.func76.trans (congrArg some (by kernel_rfl))
  f264 := Tryd.func77.trans (congrArg some (by kernel_rfl))
  f276 := Tryd.func89.trans (congrArg some (by kernel_rfl))
  f277 := Tryd.func90.trans (congrArg some (by kernel_rfl))
  t0 := Tryd.underlying0
  a0 := Tryd.isAgg0
  z0 := Tryd.sizeOf0
  v0 := Tryd.zeroValue0
  t3 := Tryd.underlying3
  a3 := Tryd.isAgg3
  z3 := Tryd.sizeOf3
  v3 := Tryd.zeroValue3
  t4 := Tryd.underlying4
  a4 := Tryd.isAgg4
  z4 := Tryd.sizeOf4
  v4 := Tryd.zeroValue4
  t5 := Tryd.underlying5
  a5 := Tryd.isAgg5
  z5 := Tryd.sizeOf5
  v5 := Tryd.zeroValue5
  t9 := Tryd.underlying9
  a9 := Tryd.isAgg9
  z9 := Tryd.sizeOf9
  v9 := Tryd.zeroValue9
  t20 := Tryd.underlying20
  a20 := Tryd.isAgg20
  z20 := Tryd.sizeOf20
  v20 := Tryd.zeroValue20
  t37 := Tryd.underlying71
  a37 := Tryd.isAgg71
  z37 := Tryd.sizeOf71
  v37 := Tryd.zeroValue71
  t46 := Tryd.underlying43
  a46 := Tryd.isAgg43
  z46 := Tryd.sizeOf43
  v46 := Tryd.zeroValue43
  t51 := Tryd.underlying103
  a51 := Tryd.isAgg103
  z51 := Tryd.sizeOf103
  v51 := Tryd.zeroValue103
  t53 := Tryd.underlying70
  a53 := Tryd.isAgg70
  z53 := Tryd.sizeOf70
  v53 := Tryd.zeroValue70
  t70 := Tryd.underlying94
  a70 := Tryd.isAgg94
  z70 := Tryd.sizeOf94
  v70 := Tryd.zeroValue94
  t72 := Tryd.underlying96
  a72 := Tryd.isAgg96
  z72 := Tryd.sizeOf96
  v72 := Tryd.zeroValue96
  t75 := Tryd.underlying98
  a75 := Tryd.isAgg98
  z75 := Tryd.sizeOf98
  v75 := Tryd.zeroValue98
  t76 := Tryd.underlying99
  a76 := Tryd.isAgg99
  z76 := Tryd.sizeOf99
  v76 := Tryd.zeroValue99
  t109 := Tryd.underlying92
  a109 := Tryd.isAgg92
  z109 := Tryd.sizeOf92
  v109 := Tryd.zeroValue92
  t127 := Tryd.underlying112
  a127 := Tryd.isAgg112
  z127 := Tryd.sizeOf112
  v127 := Tryd.zeroValue112
  t146 := Tryd.underlying108
  a146 := Tryd.isAgg108
  z146 := Tryd.sizeOf108
  v146 := Tryd.zeroValue108
  t148 := Tryd.underlying110
  a148 := Tryd.isAgg110
  z148 := Tryd.sizeOf110
  v148 := Tryd.zeroValue110
  t164 := Tryd.underlying120
  a164 := Tryd.isAgg120
  z164 := Tryd.sizeOf120
  v164 := Tryd.zeroValue120 }
def Tryd.lays160_ren : Go.Shelf.Ren := ⟨fun | 160 => 75 | 232 => 83 | 231 => 82 | 227 => 84 | 234 => 86 | 233 => 85 | 236 => 88 | 235 => 87 | 228 => 94 | 271 => 97 | 151 => 96 | 197 => 95 | 120 => 101 | 152 => 100 | 260 => 99 | 137 => 103 | 119 => 104 | 224 => 105 | 225 => 106 | 217 => 108 | 266 => 109 | n => n, fun | 9 => 9 | 4 => 4 | 3 => 3 | 5 => 5 | 117 => 116 | 116 => 115 | 0 => 0 | 124 => 119 | 21 => 21 | 105 => 127 | 46 => 43 | 119 => 135 | 139 => 138 | 138 => 137 | n => n, fun | 3 => 4 | 4 => 5 | n => n⟩
theorem Tryd.lays160 : Go.Proofs.Lays.n160 Tryd.prog Tryd.lays160_ren := {
  mixed := by kernel_rfl
  f119 := Tryd.func104.trans (congrArg some (by kernel_rfl))
  f120 := Tryd.func101.trans (congrArg some (by kernel_rfl))
  f137 := Tryd.func103.trans (congrArg some (by kernel_rfl))
  f151 := Tryd.func96.trans (congrArg some (by kernel_rfl))
  f152 := Tryd.func100.trans (congrArg some (by kernel_rfl))
  f160 := Tryd.func75.trans (congrArg some (by kernel_rfl))
  f197 := Tryd.func95.trans (congrArg some (by kernel_rfl))
  f217 := Tryd.func108.trans (congrArg some (by kernel_rfl))
  f224 := Tryd.func105.trans (congrArg some (by kernel_rfl))
  f225 := Tryd.func106.trans (congrArg some (by kernel_rfl))
  f227 := Tryd.func84.trans (congrArg some (by kernel_rfl))
  f228 := Tryd.func94.trans (congrArg some (by kernel_rfl))
  f231 := Tryd.func82.trans (congrArg some (by kernel_rfl))
  f232 := Tryd.func83.trans (congrArg some (by kernel_rfl))
  f233 := Tryd.func85.trans (congrArg some (by kernel_rfl))
  f234 := Tryd.func86.trans (congrArg some (by kernel_rfl))
  f235 := Tryd.func87.trans (congrArg some (by kernel_rfl))
  f236 := Tryd.func88.trans (congrArg some (by kernel_rfl))
  f260 := Tryd.func99.trans (congrArg some (by kernel_rfl))
  f266 := Tryd.func109.trans (congrArg some (by kernel_rfl))
  f271 := Tryd.func97.trans (congrArg some (by kernel_rfl))
  t0 := Tryd.underlying0
  a0 := Tryd.isAgg0
  z0 := Tryd.sizeOf0
  v0 := Tryd.zeroValue0
  t3 := Tryd.underlying3
  a3 := Tryd.isAgg3
  z3 := Tryd.sizeOf3
  v3 := Tryd.zeroValue3
  t4 := Tryd.underlying4
  a4 := Tryd.isAgg4
  z4 := Tryd.sizeOf4
  v4 := Tryd.zeroValue4
  t5 := Tryd.underlying5
  a5 := Tryd.isAgg5
  z5 := Tryd.sizeOf5
  v5 := Tryd.zeroValue5
  t9 := Tryd.underlying9
  a9 := Tryd.isAgg9
  z9 := Tryd.sizeOf9
  v9 := Tryd.zeroValue9
  t21 := Tryd.underlying21
  a21 := Tryd.isAgg21
  z21 := Tryd.sizeOf21
  v21 := Tryd.zeroValue21
  t46 := Tryd.underlying43
  a46 := Tryd.isAgg43
  z46 := Tryd.sizeOf43
  v46 := Tryd.zeroValue43
  t105 := Tryd.underlying127
  a105 := Tryd.isAgg127
  z105 := Tryd.sizeOf127
  v105 := Tryd.zeroValue127
  t116 := Tryd.underlying115
  a116 := Tryd.isAgg115
  z116 := Tryd.sizeOf115
  t117 := Tryd.underlying116
  a117 := Tryd.isAgg116
  z117 := Tryd.sizeOf116
  v117 := Tryd.zeroValue116
  t119 := Tryd.underlying135
  a119 := Tryd.isAgg135
  z119 := Tryd.sizeOf135
  t124 := Tryd.underlying119
  a124 := Tryd.isAgg119
  z124 := Tryd.sizeOf119
  v124 := Tryd.zeroValue119
  t138 := Tryd.underlying137
  a138 := Tryd.isAgg137
  z138 := Tryd.sizeOf137
  v138 := Tryd.zeroValue137
  t139 := Tryd.underlying138
  a139 := Tryd.isAgg138
  z139 := Tryd.sizeOf138
  v139 := Tryd.zeroValue138
  g3 := by kernel_rfl
  g4 := by kernel_rfl }
end Go.Proofs
namespace Go.Proofs.YtkgpjplncfginaaDoor.Sy
open Go Go.Proofs Go.RowKit
set_option linter.unusedVariables false
set_option linter.unusedSimpArgs false
namespace strings_Repeat
def f (k : Nat) (a : List Int) (b : Int) : Option (List Int) := shRepeat a b
def callee (k : Nat) : Callee := sigCallee [.data .str, .data (.int .i64)] [] (fun d _ => f k d.1 d.2.1) (fun t => .str t) (fun _ => [])
theorem fnIs : FnIs Tryd.prog 49 Tryd.f49 (bodyOf Tryd.f49) 125 := ⟨by kernel_rfl, by kernel_rfl, by kernel_rfl, by kernel_rfl⟩
theorem num : Go.Proofs.Tryd.lays105_ren.f 105 = 49 := by kernel_rfl
theorem extra : Builder.Extra Tryd.prog Go.Proofs.Tryd.lays105_ren := {
  sizeBuilder := by kernel_rfl
  liesBuilder := by kernel_rfl
  t5 := Go.Proofs.Tryd.lays105.t5
  a5 := Go.Proofs.Tryd.lays105.a5
  z5 := Go.Proofs.Tryd.lays105.z5
  v5 := Go.Proofs.Tryd.lays105.v5
  infoByte := by kernel_rfl
  cellsByte := by kernel_rfl
  sizeByte := by kernel_rfl
  neB5 := by decide }
theorem ok (k : Nat) : CalleeOK Tryd.prog 49 (callee k) := shRepeat_ok fnIs.callable (fun s c w h1 h2 => by
  have := Any.strings_Repeat Go.Proofs.Tryd.lays105 extra s c w h1 h2
  rw [num] at this
  exact this)
end strings_Repeat
namespace strings_Trim
def f (k : Nat) (a : List Int) (b : (List Int)) : Option (List Int) := shTrim a b
def callee (k : Nat) : Callee := sigCallee [.data .str, .data .str] [] (fun d _ => f k d.1 d.2.1) (fun t => .str t) (fun _ => [])
theorem fnIs : FnIs Tryd.prog 75 Tryd.f75 (bodyOf Tryd.f75) 43 := ⟨by kernel_rfl, by kernel_rfl, by kernel_rfl, by kernel_rfl⟩
theorem num : Go.Proofs.Tryd.lays160_ren.f 160 = 75 := by kernel_rfl
theorem ok (k : Nat) : CalleeOK Tryd.prog 75 (callee k) := shTrim_ok fnIs.callable (fun s cs w h1 h2 h3 => by
  have := Any.strings_Trim_laid Go.Proofs.Tryd.lays160 (by kernel_rfl) s cs w h1 h2 h3
  rw [num] at this
  exact this)
end strings_Trim
end Go.Proofs.YtkgpjplncfginaaDoor.Sy
