/- strconv.Itoa: a number's decimal numeral, for every int; where the table of powers of ten reads as it was laid. -/
import Derived.Shelf.LaysM
import Derived.Shelf.Strconv.Itoa3
import Derived.Test.YteeplplddlkedaaGreatDoorProg
namespace Go.Proofs
open Go.Shelf
def Tryz.laysM171_ren : Go.Shelf.Ren := ⟨fun | 171 => 113 | 243 => 169 | 246 => 225 | 283 => 273 | 284 => 274 | 285 => 275 | 286 => 276 | 129 => 308 | 317 => 307 | 318 => 309 | 319 => 310 | 320 => 311 | 337 => 333 | 338 => 270 | n => n, fun | 3 => 3 | 9 => 9 | 2 => 2 | 4 => 4 | 171 => 372 | 0 => 0 | 53 => 133 | 37 => 83 | 5 => 5 | 173 => 374 | 212 => 414 | 51 => 332 | 20 => 20 | 213 => 415 | 46 => 249 | 232 => 445 | 233 => 411 | n => n, fun | 17 => 4 | 18 => 5 | 19 => 3 | n => n⟩
theorem Tryz.laysM171 : Go.Proofs.LaysM.n171 Tryz.prog Tryz.laysM171_ren := {
  mixed := by kernel_rfl
  f129 := Tryz.func308.trans (congrArg some (by kernel_rfl))
  f171 := Tryz.func113.trans (congrArg some (by kernel_rfl))
  f243 := Tryz.func169.trans (congrArg some (by kernel_rfl))
  f246 := Tryz.func225.trans (congrArg some (by kernel_rfl))
  f283 := Tryz.func273.trans (congrArg some (by kernel_rfl))
  f284 := Tryz.func274.trans (congrArg some (by kernel_rfl))
  f285 := Tryz.func275.trans (congrArg some (by kernel_rfl))
  f286 := Tryz.func276.trans (congrArg some (by kernel_rfl))
  f317 := Tryz.func307.trans (congrArg some (by kernel_rfl))
  f318 := Tryz.func309.trans (congrArg some (by kernel_rfl))
  f319 := Tryz.func310.trans (congrArg some (by kernel_rfl))
  f320 := Tryz.func311.trans (congrArg some (by kernel_rfl))
  f337 := Tryz.func333.trans (congrArg some (by kernel_rfl))
  f338 := Tryz.func270.trans (congrArg some (by kernel_rfl))
  t0 := Tryz.underlying0
  a0 := Tryz.isAgg0
  z0 := Tryz.sizeOf0
  v0 := Tryz.zeroValue0
  t2 := Tryz.underlying2
  a2 := Tryz.isAgg2
  z2 := Tryz.sizeOf2
  v2 := Tryz.zeroValue2
  t3 := Tryz.underlying3
  a3 := Tryz.isAgg3
  z3 := Tryz.sizeOf3
  v3 := Tryz.zeroValue3
  t4 := Tryz.underlying4
  a4 := Tryz.isAgg4
  z4 := Tryz.sizeOf4
  v4 := Tryz.zeroValue4
  t5 := Tryz.underlying5
  a5 := Tryz.isAgg5
  z5 := Tryz.sizeOf5
  v5 := Tryz.zeroValue5
  t9 := Tryz.underlying9
  a9 := Tryz.isAgg9
  z9 := Tryz.sizeOf9
  v9 := Tryz.zeroValue9
  t20 := Tryz.underlying20
  a20 := Tryz.isAgg20
  z20 := Tryz.sizeOf20
  v20 := Tryz.zeroValue20
  t37 := Tryz.underlying83
  a37 := Tryz.isAgg83
  z37 := Tryz.sizeOf83
  v37 := Tryz.zeroValue83
  t46 := Tryz.underlying249
  a46 := Tryz.isAgg249
  z46 := Tryz.sizeOf249
  v46 := Tryz.zeroValue249
  t51 := Tryz.underlying332
  a51 := Tryz.isAgg332
  z51 := Tryz.sizeOf332
  v51 := Tryz.zeroValue332
  t53 := Tryz.underlying133
  a53 := Tryz.isAgg133
  z53 := Tryz.sizeOf133
  v53 := Tryz.zeroValue133
  t171 := Tryz.underlying372
  a171 := Tryz.isAgg372
  z171 := Tryz.sizeOf372
  v171 := Tryz.zeroValue372
  t173 := Tryz.underlying374
  a173 := Tryz.isAgg374
  z173 := Tryz.sizeOf374
  v173 := Tryz.zeroValue374
  t212 := Tryz.underlying414
  a212 := Tryz.isAgg414
  z212 := Tryz.sizeOf414
  v212 := Tryz.zeroValue414
  t213 := Tryz.underlying415
  a213 := Tryz.isAgg415
  z213 := Tryz.sizeOf415
  t232 := Tryz.underlying445
  a232 := Tryz.isAgg445
  z232 := Tryz.sizeOf445
  v232 := Tryz.zeroValue445
  t233 := Tryz.underlying411
  a233 := Tryz.isAgg411
  z233 := Tryz.sizeOf411
  v233 := Tryz.zeroValue411
  g17 := by kernel_rfl
  g18 := by kernel_rfl
  g19 := by kernel_rfl
  i0 := by kernel_rfl
  i2 := by kernel_rfl
  i3 := by kernel_rfl
  i4 := by kernel_rfl
  i5 := by kernel_rfl
  i9 := by kernel_rfl
  i20 := by kernel_rfl
  i37 := by kernel_rfl
  i46 := by kernel_rfl
  i51 := by kernel_rfl
  i53 := by kernel_rfl
  i171 := by kernel_rfl
  i173 := by kernel_rfl
  i212 := by kernel_rfl
  i232 := by kernel_rfl
  i233 := by kernel_rfl
  m17 := by kernel_rfl
  m18 := by kernel_rfl
  m19 := by kernel_rfl }
open Go.RowKit Go.Sort Go.Lib in
theorem Tryz.strconv_Itoa (n : Int) (h0 : -9223372036854775808 ≤ n) (h1 : n ≤ 9223372036854775807) (w : World) (htab : Lib.TabIs Tryz.prog w "internal/strconv.uint64pow10" .u64 Lib.pow10Tab) :
    Calls Tryz.prog 113 #[.int .i64 n] w fun e w' => e = .returned (.string ⟨(Lib.itoa n).toArray⟩) ∧ ∃ k os, w' = grow (w.drewN k) os := Any.strconv_Itoa Tryz.laysM171 n h0 h1 w htab
end Go.Proofs
