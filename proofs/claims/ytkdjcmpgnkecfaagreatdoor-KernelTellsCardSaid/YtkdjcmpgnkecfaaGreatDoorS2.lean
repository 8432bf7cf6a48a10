/-
  DERIVED: THE SHELF's CONTRACTS AT THIS DUMP, IN PLAIN WORDS (tools/lay-plain.mjs out of 'TryzMini.lean', which tools/lay-shelf.mjs wrote): THE SAME DECLARATIONS UNDER THE SAME NAMES: 'import', 'namespace', 'open', 'def', 'theorem' AND NOTHING ELSE: no command of the shelf's: FOR A HAND-IN. Each laying: the table of numbers ('.._ren') and one theorem, a field a fact of the dump's own or the kernel's comparison; each contract: ONE APPLICATION.
-/
import Derived.Shelf.Strings.Search1
import Derived.Shelf.Strings.Repeat
import Derived.Shelf.SlIterI.Nil
import Derived.Shelf.SortM.Plain
import Derived.Shelf.SortM.SortNone
import Derived.Test.YtkdjcmpgnkecfaaGreatDoorProg
namespace Go.Proofs
open Go.Shelf
def Tryz.lays217_ren : Go.Shelf.Ren := ⟨fun | 217 => 425 | 266 => 462 | n => n, fun | 9 => 9 | 5 => 5 | 3 => 3 | n => n, fun | n => n⟩
theorem Tryz.lays217 : Go.Proofs.Lays.n217 Tryz.prog Tryz.lays217_ren := {
  mixed := by kernel_rfl
  f217 := Tryz.func425.trans (congrArg some (by kernel_rfl))
  f266 := Tryz.func462.trans (congrArg some (by kernel_rfl))
  t3 := Tryz.underlying3
  a3 := Tryz.isAgg3
  z3 := Tryz.sizeOf3
  v3 := Tryz.zeroValue3
  t5 := Tryz.underlying5
  a5 := Tryz.isAgg5
  z5 := Tryz.sizeOf5
  v5 := Tryz.zeroValue5
  t9 := Tryz.underlying9
  a9 := Tryz.isAgg9
  z9 := Tryz.sizeOf9
  v9 := Tryz.zeroValue9 }
open Go.RowKit Go.Lib in
/-- internal/stringslite.IndexByte (what strings.IndexByte calls): IT RETURNS 'Lib.indexByte s c'; the world is as it was. (LAID: no walk: one application.) -/
theorem Tryz.stringslite_IndexByte (s : ByteArray) (c : Int) (w : World) :
    Calls Tryz.prog 425 #[.string s, .int .u8 c] w fun e w' => e = .returned (.int .i64 (Lib.indexByte s.data.toList c.toNat.toUInt8)) ∧ w' = w := Any.stringslite_IndexByte Tryz.lays217 s c w
def Tryz.lays105_ren : Go.Shelf.Ren := ⟨fun | 105 => 296 | 212 => 368 | 99 => 369 | 165 => 370 | 166 => 337 | 170 => 339 | 169 => 340 | 263 => 421 | 264 => 422 | 206 => 423 | 240 => 406 | 241 => 424 | 276 => 450 | 277 => 461 | n => n, fun | 9 => 9 | 3 => 3 | 4 => 4 | 20 => 20 | 0 => 0 | 46 => 410 | 109 => 469 | 5 => 5 | 72 => 440 | 76 => 443 | 51 => 475 | 146 => 505 | 53 => 67 | 148 => 507 | 70 => 438 | 37 => 135 | 75 => 442 | 127 => 492 | 164 => 524 | 80 => 262 | n => n, fun | n => n⟩
theorem Tryz.lays105 : Go.Proofs.Lays.n105 Tryz.prog Tryz.lays105_ren := {
  mixed := by kernel_rfl
  f99 := Tryz.func369.trans (congrArg some (by kernel_rfl))
  f105 := Tryz.func296.trans (congrArg some (by kernel_rfl))
  f165 := Tryz.func370.trans (congrArg some (by kernel_rfl))
  f166 := Tryz.func337.trans (congrArg some (by kernel_rfl))
  f169 := Tryz.func340.trans (congrArg some (by kernel_rfl))
  f170 := Tryz.func339.trans (congrArg some (by kernel_rfl))
  f206 := Tryz.func423.trans (congrArg some (by kernel_rfl))
  f212 := Tryz.func368.trans (congrArg some (by kernel_rfl))
  f240 := Tryz.func406.trans (congrArg some (by kernel_rfl))
  f241 := Tryz.func424.trans (congrArg some (by kernel_rfl))
  f263 := Tryz.func421.trans (congrArg some (by kernel_rfl))
  f264 := Tryz.func422.trans (congrArg some (by kernel_rfl))
  f276 := Tryz.func450.trans (congrArg some (by kernel_rfl))
  f277 := Tryz.func461.trans (congrArg some (by kernel_rfl))
  t0 := Tryz.underlying0
  a0 := Tryz.isAgg0
  z0 := Tryz.sizeOf0
  v0 := Tryz.zeroValue0
  t3 := Tryz.underlying3
  a3 := Tryz.isAgg3
  z3 := Tryz.sizeOf3
  v3 := Tryz.zeroValue3
  t4 := Tryz.underlying4
  a4 := Tryz.isAgg4
  z4 := Tryz.sizeOf4
  v4 := Tryz.zeroValue4
  t5 := Tryz.underlying5
  a5 := Tryz.isAgg5
  z5 := Tryz.sizeOf5
  v5 := Tryz.zeroValue5
  t9 := Tryz.underlying9
  a9 := Tryz.isAgg9
  z9 := Tryz.sizeOf9
  v9 := Tryz.zeroValue9
  t20 := Tryz.underlying20
  a20 := Tryz.isAgg20
  z20 := Tryz.sizeOf20
  v20 := Tryz.zeroValue20
  t37 := Tryz.underlying135
  a37 := Tryz.isAgg135
  z37 := Tryz.sizeOf135
  v37 := Tryz.zeroValue135
  t46 := Tryz.underlying410
  a46 := Tryz.isAgg410
  z46 := Tryz.sizeOf410
  v46 := Tryz.zeroValue410
  t51 := Tryz.underlying475
  a51 := Tryz.isAgg475
  z51 := Tryz.sizeOf475
  v51 := Tryz.zeroValue475
  t53 := Tryz.underlying67
  a53 := Tryz.isAgg67
  z53 := Tryz.sizeOf67
  v53 := Tryz.zeroValue67
  t70 := Tryz.underlying438
  a70 := Tryz.isAgg438
  z70 := Tryz.sizeOf438
  v70 := Tryz.zeroValue438
  t72 := Tryz.underlying440
  a72 := Tryz.isAgg440
  z72 := Tryz.sizeOf440
  v72 := Tryz.zeroValue440
  t75 := Tryz.underlying442
  a75 := Tryz.isAgg442
  z75 := Tryz.sizeOf442
  v75 := Tryz.zeroValue442
  t76 := Tryz.underlying443
  a76 := Tryz.isAgg443
  z76 := Tryz.sizeOf443
  v76 := Tryz.zeroValue443
  t109 := Tryz.underlying469
  a109 := Tryz.isAgg469
  z109 := Tryz.sizeOf469
  v109 := Tryz.zeroValue469
  t127 := Tryz.underlying492
  a127 := Tryz.isAgg492
  z127 := Tryz.sizeOf492
  v127 := Tryz.zeroValue492
  t146 := Tryz.underlying505
  a146 := Tryz.isAgg505
  z146 := Tryz.sizeOf505
  v146 := Tryz.zeroValue505
  t148 := Tryz.underlying507
  a148 := Tryz.isAgg507
  z148 := Tryz.sizeOf507
  v148 := Tryz.zeroValue507
  t164 := Tryz.underlying524
  a164 := Tryz.isAgg524
  z164 := Tryz.sizeOf524
  v164 := Tryz.zeroValue524 }
theorem Tryz.Builder_Extra_105 : Builder.Extra Tryz.prog Tryz.lays105_ren := {
  sizeBuilder := by kernel_rfl
  liesBuilder := by kernel_rfl
  t5 := Tryz.underlying5
  a5 := Tryz.isAgg5
  z5 := Tryz.sizeOf5
  v5 := Tryz.zeroValue5
  infoByte := by kernel_rfl
  cellsByte := by kernel_rfl
  sizeByte := by kernel_rfl
  neB5 := by decide }
open Go.RowKit Go.Lib in
/-- THE MAIN CASE: at least two copies of a string that is not empty. (LAID: no walk: one application.) -/
theorem Tryz.strings_Repeat_main (s : ByteArray) (c : Nat) (w : World) (hc2 : 2 ≤ c) (hc : c ≤ 9223372036854775807) (hlen : s.size * c ≤ 140737488355328) (h0 : 0 < s.size) :
    Calls Tryz.prog 296 #[.string s, .int .i64 c] w fun e w' => e = .returned (.string ⟨(Lib.repeatL s.data.toList c).toArray⟩) ∧ Below w.heap.size w w' := Any.strings_Repeat_main Tryz.lays105 Tryz.Builder_Extra_105 s c w hc2 hc hlen h0
open Go.RowKit Go.Lib in
theorem Tryz.strings_Repeat_zero (s : ByteArray) (w : World) :
    Calls Tryz.prog 296 #[.string s, .int .i64 0] w fun e w' => e = .returned (.string ⟨#[]⟩) ∧ w' = w := Any.strings_Repeat_zero Tryz.lays105 s w
open Go.RowKit Go.Lib in
theorem Tryz.strings_Repeat_one (s : ByteArray) (w : World) :
    Calls Tryz.prog 296 #[.string s, .int .i64 1] w fun e w' => e = .returned (.string s) ∧ w' = w := Any.strings_Repeat_one Tryz.lays105 s w
open Go.RowKit Go.Lib in
/-- Copies of the empty string. (LAID: no walk: one application.) -/
theorem Tryz.strings_Repeat_empty (s : ByteArray) (c : Nat) (w : World) (hc2 : 2 ≤ c) (hc : c ≤ 9223372036854775807) (h0 : s.size = 0) :
    Calls Tryz.prog 296 #[.string s, .int .i64 c] w fun e w' => e = .returned (.string ⟨#[]⟩) ∧ w' = w := Any.strings_Repeat_empty Tryz.lays105 s c w hc2 hc h0
open Go.RowKit Go.Lib in
/-- count < 0: "It panics if count is negative". (LAID: no walk: one application.) -/
theorem Tryz.strings_Repeat_negative (s : ByteArray) (c : Int) (w : World) (hc : c < 0) :
    Calls Tryz.prog 296 #[.string s, .int .i64 c] w fun e w' => e = .panicked [{ v := repeatPanic Tryz.lays105_ren "strings: negative Repeat count", recovered := false }] ∧ w' = w := Any.strings_Repeat_negative Tryz.lays105 s c w hc
open Go.RowKit Go.Lib in
/-- len(s) * count is no int: ".. or if the result of (len(s) * count) overflows". (LAID: no walk: one application.) -/
theorem Tryz.strings_Repeat_overflow (s : ByteArray) (c : Nat) (w : World) (hc : c ≤ 9223372036854775807) (hs : s.size ≤ 9223372036854775807) (hbig : 9223372036854775807 < s.size * c) :
    Calls Tryz.prog 296 #[.string s, .int .i64 c] w fun e w' => e = .panicked [{ v := repeatPanic Tryz.lays105_ren "strings: Repeat output length overflow", recovered := false }] ∧ w' = w := Any.strings_Repeat_overflow Tryz.lays105 s c w hc hs hbig
open Go.RowKit Go.Lib in
/-- **strings.Repeat: count ≥ 0, the result within one allocation: count copies of s.** (LAID: no walk: one application.) -/
theorem Tryz.strings_Repeat (s : ByteArray) (c : Nat) (w : World) (hc : c ≤ 9223372036854775807) (hlen : s.size * c ≤ 140737488355328) :
    Calls Tryz.prog 296 #[.string s, .int .i64 c] w fun e w' => e = .returned (.string ⟨(Lib.repeatL s.data.toList c).toArray⟩) ∧ Below w.heap.size w w' := Any.strings_Repeat Tryz.lays105 Tryz.Builder_Extra_105 s c w hc hlen
def Tryz.keysA_ren : Go.Shelf.Ren := ⟨fun | 7 => 173 | 10 => 261 | n => n, fun | 23 => 263 | 26 => 3 | 3 => 63 | 28 => 302 | 0 => 0 | 27 => 301 | 33 => 128 | 4 => 4 | n => n, fun | n => n⟩
theorem Tryz.keysA : Go.Proofs.SlLaysZI.n7 Tryz.prog Tryz.keysA_ren := {
  mixed := by kernel_rfl
  f7 := ⟨Tryz.f173.name, by decide, Tryz.func173.trans (congrArg some (by kernel_rfl))⟩
  f10 := ⟨Tryz.f261.name, by decide, Tryz.func261.trans (congrArg some (by kernel_rfl))⟩
  t0 := Tryz.underlying0
  a0 := Tryz.isAgg0
  z0 := Tryz.sizeOf0
  v0 := Tryz.zeroValue0
  t4 := Tryz.underlying4
  a4 := Tryz.isAgg4
  z4 := Tryz.sizeOf4
  v4 := Tryz.zeroValue4
  t23 := Tryz.underlying263
  a23 := Tryz.isAgg263
  z23 := Tryz.sizeOf263
  v23 := Tryz.zeroValue263
  t26 := Tryz.underlying3
  a26 := Tryz.isAgg3
  z26 := Tryz.sizeOf3
  v26 := Tryz.zeroValue3
  t27 := Tryz.underlying301
  a27 := Tryz.isAgg301
  z27 := Tryz.sizeOf301
  v27 := Tryz.zeroValue301
  t28 := Tryz.underlying302
  a28 := Tryz.isAgg302
  z28 := Tryz.sizeOf302
  v28 := Tryz.zeroValue302
  t33 := Tryz.underlying128
  a33 := Tryz.isAgg128
  z33 := Tryz.sizeOf128
  v33 := Tryz.zeroValue128 }
def Tryz.sortedA_ren : Go.Shelf.Ren := ⟨fun | 6 => 172 | 8 => 259 | 9 => 260 | 11 => 322 | 13 => 324 | 12 => 323 | 23 => 389 | 24 => 390 | 14 => 380 | 15 => 381 | 16 => 382 | 17 => 383 | 18 => 384 | 19 => 385 | 20 => 386 | 21 => 387 | 22 => 388 | 25 => 430 | 26 => 431 | 27 => 432 | 28 => 433 | 29 => 434 | 30 => 435 | 31 => 464 | n => n, fun | 26 => 3 | 28 => 302 | 24 => 64 | 0 => 0 | 3 => 3 | 37 => 410 | 48 => 475 | 50 => 67 | 4 => 4 | 40 => 479 | 39 => 478 | 45 => 183 | 5 => 5 | 9 => 9 | 51 => 510 | 55 => 494 | 57 => 533 | 58 => 446 | 33 => 128 | n => n, fun | n => n⟩
theorem Tryz.sortedA : Go.Proofs.SlLaysZI.n6 Tryz.prog Tryz.sortedA_ren := {
  mixed := by kernel_rfl
  f6 := ⟨Tryz.f172.name, by decide, Tryz.func172.trans (congrArg some (by kernel_rfl))⟩
  f8 := ⟨Tryz.f259.name, by decide, Tryz.func259.trans (congrArg some (by kernel_rfl))⟩
  f11 := ⟨Tryz.f322.name, by decide, Tryz.func322.trans (congrArg some (by kernel_rfl))⟩
  t0 := Tryz.underlying0
  a0 := Tryz.isAgg0
  z0 := Tryz.sizeOf0
  v0 := Tryz.zeroValue0
  t24 := Tryz.underlying64
  a24 := Tryz.isAgg64
  z24 := Tryz.sizeOf64
  v24 := Tryz.zeroValue64
  t26 := Tryz.underlying3
  a26 := Tryz.isAgg3
  z26 := Tryz.sizeOf3
  v26 := Tryz.zeroValue3
  t28 := Tryz.underlying302
  a28 := Tryz.isAgg302
  z28 := Tryz.sizeOf302
  v28 := Tryz.zeroValue302
  i26 := by kernel_rfl }
def Tryz.sortA_ren : Go.Shelf.Ren := ⟨fun | 5 => 260 | 8 => 324 | 7 => 323 | 19 => 389 | 20 => 390 | 10 => 380 | 11 => 381 | 12 => 382 | 13 => 383 | 14 => 384 | 15 => 385 | 16 => 386 | 17 => 387 | 18 => 388 | 30 => 430 | 31 => 431 | 32 => 432 | 33 => 433 | 34 => 434 | 35 => 435 | 40 => 464 | n => n, fun | 23 => 64 | 25 => 3 | 3 => 3 | 32 => 410 | 22 => 64 | 0 => 0 | 44 => 475 | 46 => 67 | 4 => 4 | 36 => 479 | 35 => 478 | 41 => 183 | 5 => 5 | 9 => 9 | 53 => 510 | 57 => 494 | 63 => 533 | 64 => 446 | n => n, fun | n => n⟩
theorem Tryz.sortA : Go.Proofs.SlLaysM.n5 Tryz.prog Tryz.sortA_ren := {
  mixed := by kernel_rfl
  f5 := ⟨Tryz.f260.name, by decide, Tryz.func260.trans (congrArg some (by kernel_rfl))⟩
  f7 := ⟨Tryz.f323.name, by decide, Tryz.func323.trans (congrArg some (by kernel_rfl))⟩
  f8 := Tryz.func324.trans (congrArg some (by kernel_rfl))
  f10 := ⟨Tryz.f380.name, by decide, Tryz.func380.trans (congrArg some (by kernel_rfl))⟩
  f11 := ⟨Tryz.f381.name, by decide, Tryz.func381.trans (congrArg some (by kernel_rfl))⟩
  f12 := ⟨Tryz.f382.name, by decide, Tryz.func382.trans (congrArg some (by kernel_rfl))⟩
  f13 := ⟨Tryz.f383.name, by decide, Tryz.func383.trans (congrArg some (by kernel_rfl))⟩
  f14 := ⟨Tryz.f384.name, by decide, Tryz.func384.trans (congrArg some (by kernel_rfl))⟩
  f15 := ⟨Tryz.f385.name, by decide, Tryz.func385.trans (congrArg some (by kernel_rfl))⟩
  f16 := ⟨Tryz.f386.name, by decide, Tryz.func386.trans (congrArg some (by kernel_rfl))⟩
  f17 := ⟨Tryz.f387.name, by decide, Tryz.func387.trans (congrArg some (by kernel_rfl))⟩
  f18 := ⟨Tryz.f388.name, by decide, Tryz.func388.trans (congrArg some (by kernel_rfl))⟩
  f19 := Tryz.func389.trans (congrArg some (by kernel_rfl))
  f20 := Tryz.func390.trans (congrArg some (by kernel_rfl))
  f30 := ⟨Tryz.f430.name, by decide, Tryz.func430.trans (congrArg some (by kernel_rfl))⟩
  f31 := Tryz.func431.trans (congrArg some (by kernel_rfl))
  f32 := Tryz.func432.trans (congrArg some (by kernel_rfl))
  f33 := ⟨Tryz.f433.name, by decide, Tryz.func433.trans (congrArg some (by kernel_rfl))⟩
  f34 := ⟨Tryz.f434.name, by decide, Tryz.func434.trans (congrArg some (by kernel_rfl))⟩
  f35 := ⟨Tryz.f435.name, by decide, Tryz.func435.trans (congrArg some (by kernel_rfl))⟩
  f40 := ⟨Tryz.f464.name, by decide, Tryz.func464.trans (congrArg some (by kernel_rfl))⟩
  t0 := Tryz.underlying0
  a0 := Tryz.isAgg0
  z0 := Tryz.sizeOf0
  v0 := Tryz.zeroValue0
  t3 := Tryz.underlying3
  a3 := Tryz.isAgg3
  z3 := Tryz.sizeOf3
  v3 := Tryz.zeroValue3
  t4 := Tryz.underlying4
  a4 := Tryz.isAgg4
  z4 := Tryz.sizeOf4
  v4 := Tryz.zeroValue4
  t5 := Tryz.underlying5
  a5 := Tryz.isAgg5
  z5 := Tryz.sizeOf5
  v5 := Tryz.zeroValue5
  t9 := Tryz.underlying9
  a9 := Tryz.isAgg9
  z9 := Tryz.sizeOf9
  v9 := Tryz.zeroValue9
  t22 := Tryz.underlying64
  a22 := Tryz.isAgg64
  z22 := Tryz.sizeOf64
  v22 := Tryz.zeroValue64
  t23 := Tryz.underlying64
  a23 := Tryz.isAgg64
  z23 := Tryz.sizeOf64
  v23 := Tryz.zeroValue64
  t25 := Tryz.underlying3
  a25 := Tryz.isAgg3
  z25 := Tryz.sizeOf3
  v25 := Tryz.zeroValue3
  t32 := Tryz.underlying410
  a32 := Tryz.isAgg410
  z32 := Tryz.sizeOf410
  v32 := Tryz.zeroValue410
  t35 := Tryz.underlying478
  a35 := Tryz.isAgg478
  z35 := Tryz.sizeOf478
  v35 := Tryz.zeroValue478
  t36 := Tryz.underlying479
  a36 := Tryz.isAgg479
  z36 := Tryz.sizeOf479
  v36 := Tryz.zeroValue479
  t41 := Tryz.underlying183
  a41 := Tryz.isAgg183
  z41 := Tryz.sizeOf183
  v41 := Tryz.zeroValue183
  t44 := Tryz.underlying475
  a44 := Tryz.isAgg475
  z44 := Tryz.sizeOf475
  v44 := Tryz.zeroValue475
  t46 := Tryz.underlying67
  a46 := Tryz.isAgg67
  z46 := Tryz.sizeOf67
  v46 := Tryz.zeroValue67
  t53 := Tryz.underlying510
  a53 := Tryz.isAgg510
  z53 := Tryz.sizeOf510
  v53 := Tryz.zeroValue510
  t57 := Tryz.underlying494
  a57 := Tryz.isAgg494
  z57 := Tryz.sizeOf494
  v57 := Tryz.zeroValue494
  t63 := Tryz.underlying533
  a63 := Tryz.isAgg533
  z63 := Tryz.sizeOf533
  v63 := Tryz.zeroValue533
  t64 := Tryz.underlying446
  a64 := Tryz.isAgg446
  z64 := Tryz.sizeOf446
  v64 := Tryz.zeroValue446 }
end Go.Proofs
