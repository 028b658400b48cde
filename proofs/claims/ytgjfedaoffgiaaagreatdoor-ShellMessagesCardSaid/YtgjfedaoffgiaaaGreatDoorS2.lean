/-
  DERIVED: THE SHELF's CONTRACTS AT THIS DUMP, IN PLAIN WORDS (tools/lay-plain.mjs out of 'TryzS2.lean', which tools/lay-shelf.mjs wrote): THE SAME DECLARATIONS UNDER THE SAME NAMES: 'import', 'namespace', 'open', 'def', 'theorem' AND NOTHING ELSE: no command of the shelf's: FOR A HAND-IN. Each laying: the table of numbers ('.._ren') and one theorem, a field a fact of the dump's own or the kernel's comparison; each contract: ONE APPLICATION.
-/
import Derived.Shelf.LaysM
import Derived.Shelf.Strconv.Itoa3
import Derived.Test.YtgjfedaoffgiaaaGreatDoorProg
namespace Go.Proofs
open Go.Shelf
def Tryz.laysM171_ren : Go.Shelf.Ren := ⟨fun | 171 => 87 | 243 => 147 | 246 => 210 | 283 => 263 | 284 => 264 | 285 => 265 | 286 => 266 | 129 => 291 | 317 => 290 | 318 => 292 | 319 => 293 | 320 => 294 | 337 => 310 | 338 => 311 | n => n, fun | 3 => 3 | 9 => 9 | 2 => 2 | 4 => 4 | 171 => 348 | 0 => 0 | 53 => 232 | 37 => 82 | 5 => 5 | 173 => 351 | 212 => 377 | 51 => 229 | 20 => 20 | 213 => 378 | 46 => 152 | 232 => 410 | 233 => 411 | n => n, fun | 17 => 6 | 18 => 9 | 19 => 10 | n => n⟩
theorem Tryz.laysM171 : Go.Proofs.LaysM.n171 Tryz.prog Tryz.laysM171_ren := {
  mixed := by kernel_rfl
  f129 := Tryz.func291.trans (congrArg some (by kernel_rfl))
  f171 := Tryz.func87.trans (congrArg some (by kernel_rfl))
  f243 := Tryz.func147.trans (congrArg some (by kernel_rfl))
  f246 := Tryz.func210.trans (congrArg some (by kernel_rfl))
  f283 := Tryz.func263.trans (congrArg some (by kernel_rfl))
  f284 := Tryz.func264.trans (congrArg some (by kernel_rfl))
  f285 := Tryz.func265.trans (congrArg some (by kernel_rfl))
  f286 := Tryz.func266.trans (congrArg some (by kernel_rfl))
  f317 := Tryz.func290.trans (congrArg some (by kernel_rfl))
  f318 := Tryz.func292.trans (congrArg some (by kernel_rfl))
  f319 := Tryz.func293.trans (congrArg some (by kernel_rfl))
  f320 := Tryz.func294.trans (congrArg some (by kernel_rfl))
  f337 := Tryz.func310.trans (congrArg some (by kernel_rfl))
  f338 := Tryz.func311.trans (congrArg some (by kernel_rfl))
  t0 := Tryz.underlying0
  a0 := Tryz.isAgg0
  z0 := Tryz.sizeOf0
  v0 := Tryz.zeroValue0
  t2 := Tryz.underlying2
  a2 := Tryz.isAgg2
  z2 := Tryz.sizeOf2
  v2 := Tryz.zeroValue2
  t3 := Tryz.underlying3
  a3 := Tryz.isAgg3
  z3 := Tryz.sizeOf3
  v3 := Tryz.zeroValue3
  t4 := Tryz.underlying4
  a4 := Tryz.isAgg4
  z4 := Tryz.sizeOf4
  v4 := Tryz.zeroValue4
  t5 := Tryz.underlying5
  a5 := Tryz.isAgg5
  z5 := Tryz.sizeOf5
  v5 := Tryz.zeroValue5
  t9 := Tryz.underlying9
  a9 := Tryz.isAgg9
  z9 := Tryz.sizeOf9
  v9 := Tryz.zeroValue9
  t20 := Tryz.underlying20
  a20 := Tryz.isAgg20
  z20 := Tryz.sizeOf20
  v20 := Tryz.zeroValue20
  t37 := Tryz.underlying82
  a37 := Tryz.isAgg82
  z37 := Tryz.sizeOf82
  v37 := Tryz.zeroValue82
  t46 := Tryz.underlying152
  a46 := Tryz.isAgg152
  z46 := Tryz.sizeOf152
  v46 := Tryz.zeroValue152
  t51 := Tryz.underlying229
  a51 := Tryz.isAgg229
  z51 := Tryz.sizeOf229
  v51 := Tryz.zeroValue229
  t53 := Tryz.underlying232
  a53 := Tryz.isAgg232
  z53 := Tryz.sizeOf232
  v53 := Tryz.zeroValue232
  t171 := Tryz.underlying348
  a171 := Tryz.isAgg348
  z171 := Tryz.sizeOf348
  v171 := Tryz.zeroValue348
  t173 := Tryz.underlying351
  a173 := Tryz.isAgg351
  z173 := Tryz.sizeOf351
  v173 := Tryz.zeroValue351
  t212 := Tryz.underlying377
  a212 := Tryz.isAgg377
  z212 := Tryz.sizeOf377
  v212 := Tryz.zeroValue377
  t213 := Tryz.underlying378
  a213 := Tryz.isAgg378
  z213 := Tryz.sizeOf378
  t232 := Tryz.underlying410
  a232 := Tryz.isAgg410
  z232 := Tryz.sizeOf410
  v232 := Tryz.zeroValue410
  t233 := Tryz.underlying411
  a233 := Tryz.isAgg411
  z233 := Tryz.sizeOf411
  v233 := Tryz.zeroValue411
  g17 := by kernel_rfl
  g18 := by kernel_rfl
  g19 := by kernel_rfl
  i0 := by kernel_rfl
  i2 := by kernel_rfl
  i3 := by kernel_rfl
  i4 := by kernel_rfl
  i5 := by kernel_rfl
  i9 := by kernel_rfl
  i20 := by kernel_rfl
  i37 := by kernel_rfl
  i46 := by kernel_rfl
  i51 := by kernel_rfl
  i53 := by kernel_rfl
  i171 := by kernel_rfl
  i173 := by kernel_rfl
  i212 := by kernel_rfl
  i232 := by kernel_rfl
  i233 := by kernel_rfl
  m17 := by kernel_rfl
  m18 := by kernel_rfl
  m19 := by kernel_rfl }
open Go.RowKit Go.Sort Go.Lib in
/-- strconv.Itoa: "Itoa is equivalent to FormatInt(int64(i), 10).": i's DECIMAL NUMERAL ('Lib.itoa': a '-' where i is negative, then the digits), FOR EVERY int. The world behind the call: the world before it, new blocks behind the heap (the library's 'var a [24]byte'), draws. (LAID: no walk: one application.) -/
theorem Tryz.strconv_Itoa (n : Int) (h0 : -9223372036854775808 ≤ n) (h1 : n ≤ 9223372036854775807) (w : World) (htab : Lib.TabIs Tryz.prog w "internal/strconv.uint64pow10" .u64 Lib.pow10Tab) :
    Calls Tryz.prog 87 #[.int .i64 n] w fun e w' => e = .returned (.string ⟨(Lib.itoa n).toArray⟩) ∧ ∃ k os, w' = grow (w.drewN k) os := Any.strconv_Itoa Tryz.laysM171 n h0 h1 w htab
end Go.Proofs
