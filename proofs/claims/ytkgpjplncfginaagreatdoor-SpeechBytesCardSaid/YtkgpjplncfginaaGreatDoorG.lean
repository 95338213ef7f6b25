/- The package's variables that the rows of this seat list. Printed by syglob.py. -/
import Derived.Test.YtkgpjplncfginaaGreatDoorRows
import Derived.Test.YtkgpjplncfginaaGreatDoorSy22
import Derived.ProofKit
namespace Go.Proofs.YtkgpjplncfginaaGreatDoor.Sy
open Go Go.Proofs Go.ChangeShapes Go.WideShapes Go.ChangeAt Go.RowKit
set_option maxRecDepth 100000
set_option linter.unusedVariables false
set_option linter.unusedSimpArgs false
def gv3 : List Int := [1116352408, 1899447441, 3049323471, 3921009573, 961987163, 1508970993, 2453635748, 2870763221, 3624381080, 310598401, 607225278, 1426881987, 1925078388, 2162078206, 2614888103, 3248222580, 3835390401, 4022224774, 264347078, 604807628, 770255983, 1249150122, 1555081692, 1996064986, 2554220882, 2821834349, 2952996808, 3210313671, 3336571891, 3584528711, 113926993, 338241895, 666307205, 773529912, 1294757372, 1396182291, 1695183700, 1986661051, 2177026350, 2456956037, 2730485921, 2820302411, 3259730800, 3345764771, 3516065817, 3600352804, 4094571909, 275423344, 430227734, 506948616, 659060556, 883997877, 958139571, 1322822218, 1537002063, 1747873779, 1955562222, 2024104815, 2227730452, 2361852424, 2428436474, 2756734187, 3204031479, 3329325298]
def gv2 : List Int := [1779033703, 3144134277, 1013904242, 2773480762, 1359893119, 2600822924, 528734635, 1541459225]
def gl0 : List (List Int) := [([] : List Int), ([118, 101, 114, 115, 105, 111, 110] : List Int), ([118, 101, 114, 97, 99, 107] : List Int), ([103, 101, 116, 104, 101, 97, 100, 101, 114, 115] : List Int), ([104, 101, 97, 100, 101, 114, 115] : List Int), ([105, 110, 118] : List Int), ([112, 105, 110, 103] : List Int), ([112, 111, 110, 103] : List Int), ([115, 101, 110, 100, 104, 101, 97, 100, 101, 114, 115] : List Int)]
def gv0 : Ty.den (.pair .str (.pair .str (.pair .str (.pair .str (.pair .str (.pair .str (.pair .str (.pair .str .str)))))))) := (([] : List Int), ([118, 101, 114, 115, 105, 111, 110] : List Int), ([118, 101, 114, 97, 99, 107] : List Int), ([103, 101, 116, 104, 101, 97, 100, 101, 114, 115] : List Int), ([104, 101, 97, 100, 101, 114, 115] : List Int), ([105, 110, 118] : List Int), ([112, 105, 110, 103] : List Int), ([112, 111, 110, 103] : List Int), ([115, 101, 110, 100, 104, 101, 97, 100, 101, 114, 115] : List Int))
def laidL : List (String × DataW Unit) := [("trailhead/digest.steps", Rows.laid_trailhead_digest_steps), ("trailhead/digest.starts", Rows.laid_trailhead_digest_starts), ("unicode/utf8.acceptRanges", Rows.laid_unicode_utf8_acceptRanges), ("trailhead/speech.words", Rows.laid_trailhead_speech_words), ("unicode/utf8.first", Rows.laid_unicode_utf8_first)]
theorem laidL_plain (w : World) : laidMetH Tryz.prog laidL w = laidMet Tryz.prog laidL w := MakeChecks.laidMetH_plain _ _ _ (by kernel_rfl)
theorem globs_of {W : World} (h : laidMetH Tryz.prog laidL W) : GlobAt W 3 (.arr .u32 64) gv3 ∧ GlobAt W 2 (.arr .u32 8) gv2 ∧ GlobAt W 0 (.pair .str (.pair .str (.pair .str (.pair .str (.pair .str (.pair .str (.pair .str (.pair .str .str)))))))) gv0 := by
  rw [laidL_plain] at h
  obtain ⟨ps, ⟨g0, t0, cs0, f0, p0, q0, hg0, ht0, hv0, hd0, ⟨g1, t1, cs1, f1, p1, q1, hg1, ht1, hv1, hd1, ⟨g2, t2, cs2, f2, p2, q2, hg2, ht2, hv2, hd2, ⟨g3, t3, cs3, f3, p3, q3, hg3, ht3, hv3, hd3, ⟨g4, t4, cs4, f4, p4, q4, hg4, ht4, hv4, hd4, _, _⟩, _⟩, _⟩, _⟩, _⟩, _, _⟩ := h
  obtain rfl := Option.some.inj ((show Tryz.prog.globalNamed "trailhead/digest.steps" = some 3 by kernel_rfl).symm.trans hg0)
  obtain rfl := Option.some.inj ((show (Tryz.prog.globals[3]?).map (·.type) = some 103 by kernel_rfl).symm.trans ht0)
  obtain rfl := Option.some.inj ((show Tryz.prog.globalNamed "trailhead/digest.starts" = some 2 by kernel_rfl).symm.trans hg1)
  obtain rfl := Option.some.inj ((show (Tryz.prog.globals[2]?).map (·.type) = some 102 by kernel_rfl).symm.trans ht1)
  obtain rfl := Option.some.inj ((show Tryz.prog.globalNamed "trailhead/speech.words" = some 0 by kernel_rfl).symm.trans hg3)
  obtain rfl := Option.some.inj ((show (Tryz.prog.globals[0]?).map (·.type) = some 67 by kernel_rfl).symm.trans ht3)
  exact ⟨glob_array (e := 101) hg0 hv0 (by kernel_rfl) (by kernel_rfl) (by kernel_rfl) (by kernel_rfl) (by kernel_rfl) (by decide) (xs := gv3) hd0, glob_array (e := 101) hg1 hv1 (by kernel_rfl) (by kernel_rfl) (by kernel_rfl) (by kernel_rfl) (by kernel_rfl) (by decide) (xs := gv2) hd1, glob_strs (e := 9) (l := gl0) (x := gv0) hg3 hv3 (by kernel_rfl) (by kernel_rfl) (by kernel_rfl) (by rfl) (by rfl) (by rfl) (by kernel_rfl) (by kernel_rfl) hd3⟩
end Go.Proofs.YtkgpjplncfginaaGreatDoor.Sy
