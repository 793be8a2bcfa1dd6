/- A part of the proof of a row by an interpreter that is proved sound; no conditions of its own. -/
import Derived.Test.YtipfkflogjfbjaaAbEv
import Derived.KernelRfl
import Derived.Test.YtipfkflogjfbjaaProg
namespace Ab
open Go Go.Proofs
set_option maxRecDepth 100000

def Hs : Hints where
  inPlace := fun _ => false
  own := fun f => f == 41 || f == 46
  head := fun f b => 
    if f == 3 && b == 0 then some ([7, 15, 16], 0) else 
    if f == 5 && b == 0 then some ([0, 1, 4, 12, 13], 0) else 
    if f == 7 && b == 0 then some ([1, 2, 4, 5, 9, 13, 15], 0) else 
    if f == 7 && b == 2 then some ([1, 4, 5, 9, 13, 22], 0) else 
    if f == 8 && b == 0 then some ([2, 3, 5, 6, 9, 11], 0) else 
    if f == 9 && b == 0 then some ([1, 2, 7, 9, 10], 0) else 
    if f == 9 && b == 2 then some ([1, 2, 7, 9, 10, 11, 12, 14], 0) else 
    if f == 9 && b == 4 then some ([7, 9, 15], 0) else 
    if f == 15 && b == 0 then some ([0, 3], 0) else 
    if f == 23 && b == 0 then some ([0, 3, 7, 8], 0) else 
    if f == 24 && b == 0 then some ([0, 3, 4], 0) else 
    if f == 25 && b == 0 then some ([4, 10, 11, 12], 0) else 
    if f == 27 && b == 0 then some ([0, 4, 5], 0) else 
    if f == 29 && b == 0 then some ([1, 3], 0) else 
    if f == 30 && b == 0 then some ([1, 2, 6, 8, 10, 11], 0) else 
    if f == 31 && b == 0 then some ([1, 26, 27, 28], 0) else 
    if f == 32 && b == 0 then some ([1, 3], 0) else 
    if f == 36 && b == 0 then some ([2, 3, 5], 0) else 
    if f == 37 && b == 1 then some ([5, 8, 10, 60, 61, 62], 0) else 
    if f == 38 && b == 0 then some ([4, 5, 8, 10, 11], 0) else 
    if f == 40 && b == 0 then some ([2, 3, 5], 0) else 
    if f == 68 && b == 0 then some ([1, 2, 8, 25, 26, 27], 0) else 
    if f == 68 && b == 2 then some ([1, 2, 8, 11], 0) else 
    if f == 68 && b == 4 then some ([1, 2, 8, 13], 0) else 
    if f == 103 && b == 0 then some ([0, 3, 7, 8], 0) else 
    if f == 104 && b == 0 then some ([5, 6, 7], 0) else 
    if f == 109 && b == 0 then some ([0, 1, 7, 8], 0) else 
    if f == 111 && b == 0 then some ([0, 1, 5], 0) else 
    if f == 111 && b == 2 then some ([0, 1, 5, 6], 0) else none
  fresh := fun f r i => 
    if f == 41 && r == 1 && i == 0 then [0] else 
    if f == 24 && r == 1 && i == 0 then [0] else 
    if f == 37 && r == 11 && i == 8 then [2] else 
    if f == 38 && r == 11 && i == 8 then [2] else 
    if f == 9 && r == 8 && i == 0 then [0] else []

theorem tS0 : sizeT Try.prog 0 = some 1 := idr (by kernel_rfl)
theorem tA0 : isAggT Try.prog 0 = some false := idr (by kernel_rfl)
theorem tU3 : Try.prog.underlying 3 = some (.int .i64) := idr (by kernel_rfl)
theorem tS3 : sizeT Try.prog 3 = some 1 := idr (by kernel_rfl)
theorem tA3 : isAggT Try.prog 3 = some false := idr (by kernel_rfl)
theorem tz3 : zeroA Try.prog 3 = some [.d (.int .i64 0)] := by kernel_rfl
theorem tv3 : zeroV Try.prog 3 = some (.d (.int .i64 0)) := idr (by kernel_rfl)
theorem tU4 : Try.prog.underlying 4 = some (.bool) := idr (by kernel_rfl)
theorem tS4 : sizeT Try.prog 4 = some 1 := idr (by kernel_rfl)
theorem tA4 : isAggT Try.prog 4 = some false := idr (by kernel_rfl)
theorem tz4 : zeroA Try.prog 4 = some [.d (.bool false)] := by kernel_rfl
theorem tv4 : zeroV Try.prog 4 = some (.d (.bool false)) := idr (by kernel_rfl)
theorem tU5 : Try.prog.underlying 5 = some (.int .u8) := idr (by kernel_rfl)
theorem tS5 : sizeT Try.prog 5 = some 1 := idr (by kernel_rfl)
theorem tA5 : isAggT Try.prog 5 = some false := idr (by kernel_rfl)
theorem tz5 : zeroA Try.prog 5 = some [.d (.int .u8 0)] := by kernel_rfl
theorem tv5 : zeroV Try.prog 5 = some (.d (.int .u8 0)) := idr (by kernel_rfl)
theorem tU9 : Try.prog.underlying 9 = some (.string) := idr (by kernel_rfl)
theorem tS9 : sizeT Try.prog 9 = some 1 := idr (by kernel_rfl)
theorem tA9 : isAggT Try.prog 9 = some false := idr (by kernel_rfl)
theorem tz9 : zeroA Try.prog 9 = some [.d (.str ByteArray.empty)] := by kernel_rfl
theorem tv9 : zeroV Try.prog 9 = some (.d (.str ByteArray.empty)) := idr (by kernel_rfl)
theorem tS23 : sizeT Try.prog 23 = some 3 := idr (by kernel_rfl)
theorem tA23 : isAggT Try.prog 23 = some true := idr (by kernel_rfl)
theorem tz23 : zeroA Try.prog 23 = some [.d (.str ByteArray.empty), .d (.str ByteArray.empty), .d (.str ByteArray.empty)] := by kernel_rfl
theorem tv23 : zeroV Try.prog 23 = some (.agg [.d (.str ByteArray.empty), .d (.str ByteArray.empty), .d (.str ByteArray.empty)]) := idr (by kernel_rfl)
theorem tQ23 : Try.prog.eqGuardType Try.prog.depth 23 = false := idr (by kernel_rfl)
theorem tX23 (a0 b0 : ByteArray) (a1 b1 : ByteArray) (a2 b2 : ByteArray) : eqT Try.prog 8 23 [.d (.str a0), .d (.str a1), .d (.str a2)] [.d (.str b0), .d (.str b1), .d (.str b2)] = some ((a0 == b0) && ((a1 == b1) && ((a2 == b2) && true))) := idr (by kernel_rfl)
theorem tO23 : structOk Try.prog 23 = true := idr (by kernel_rfl)
theorem tT23_0 : fieldTy Try.prog 23 0 = 9 := idr (by kernel_rfl)
theorem tT23_1 : fieldTy Try.prog 23 1 = 9 := idr (by kernel_rfl)
theorem tT23_2 : fieldTy Try.prog 23 2 = 9 := idr (by kernel_rfl)
theorem tF23_0 : fieldT Try.prog 23 0 = some (0, 1, false) := idr (by kernel_rfl)
theorem tF23_1 : fieldT Try.prog 23 1 = some (1, 1, false) := idr (by kernel_rfl)
theorem tF23_2 : fieldT Try.prog 23 2 = some (2, 1, false) := idr (by kernel_rfl)
theorem tU24 : Try.prog.underlying 24 = some (.int .u64) := idr (by kernel_rfl)
theorem tS24 : sizeT Try.prog 24 = some 1 := idr (by kernel_rfl)
theorem tA24 : isAggT Try.prog 24 = some false := idr (by kernel_rfl)
theorem tz24 : zeroA Try.prog 24 = some [.d (.int .u64 0)] := by kernel_rfl
theorem tv24 : zeroV Try.prog 24 = some (.d (.int .u64 0)) := idr (by kernel_rfl)
theorem tU25 : Try.prog.underlying 25 = some (.int .u64) := idr (by kernel_rfl)
theorem tS25 : sizeT Try.prog 25 = some 1 := idr (by kernel_rfl)
theorem tA25 : isAggT Try.prog 25 = some false := idr (by kernel_rfl)
theorem tz25 : zeroA Try.prog 25 = some [.d (.int .u64 0)] := by kernel_rfl
theorem tv25 : zeroV Try.prog 25 = some (.d (.int .u64 0)) := idr (by kernel_rfl)
theorem tS27 : sizeT Try.prog 27 = some 10 := idr (by kernel_rfl)
theorem tA27 : isAggT Try.prog 27 = some true := idr (by kernel_rfl)
theorem tz27 : zeroA Try.prog 27 = some [.d (.str ByteArray.empty), .d (.str ByteArray.empty), .d (.str ByteArray.empty), .d (.str ByteArray.empty), .d (.str ByteArray.empty), .d (.str ByteArray.empty), .d (.int .u64 0), .d (.int .i64 0), .d (.int .i64 0), .d (.int .i64 0)] := by kernel_rfl
theorem tv27 : zeroV Try.prog 27 = some (.agg [.d (.str ByteArray.empty), .d (.str ByteArray.empty), .d (.str ByteArray.empty), .d (.str ByteArray.empty), .d (.str ByteArray.empty), .d (.str ByteArray.empty), .d (.int .u64 0), .d (.int .i64 0), .d (.int .i64 0), .d (.int .i64 0)]) := idr (by kernel_rfl)
theorem tQ27 : Try.prog.eqGuardType Try.prog.depth 27 = false := idr (by kernel_rfl)
theorem tX27 (a0 b0 : ByteArray) (a1 b1 : ByteArray) (a2 b2 : ByteArray) (a3 b3 : ByteArray) (a4 b4 : ByteArray) (a5 b5 : ByteArray) (a6 b6 : Int) (a7 b7 : Int) (a8 b8 : Int) (a9 b9 : Int) : eqT Try.prog 8 27 [.d (.str a0), .d (.str a1), .d (.str a2), .d (.str a3), .d (.str a4), .d (.str a5), .d (.int .u64 a6), .d (.int .i64 a7), .d (.int .i64 a8), .d (.int .i64 a9)] [.d (.str b0), .d (.str b1), .d (.str b2), .d (.str b3), .d (.str b4), .d (.str b5), .d (.int .u64 b6), .d (.int .i64 b7), .d (.int .i64 b8), .d (.int .i64 b9)] = some (((a0 == b0) && ((a1 == b1) && ((a2 == b2) && true))) && (((a3 == b3) && ((a4 == b4) && ((a5 == b5) && true))) && ((a6 == b6) && ((a7 == b7) && ((a8 == b8) && ((a9 == b9) && true)))))) := idr (by kernel_rfl)
theorem tO27 : structOk Try.prog 27 = true := idr (by kernel_rfl)
theorem tT27_0 : fieldTy Try.prog 27 0 = 23 := idr (by kernel_rfl)
theorem tT27_1 : fieldTy Try.prog 27 1 = 23 := idr (by kernel_rfl)
theorem tT27_2 : fieldTy Try.prog 27 2 = 25 := idr (by kernel_rfl)
theorem tT27_3 : fieldTy Try.prog 27 3 = 3 := idr (by kernel_rfl)
theorem tT27_4 : fieldTy Try.prog 27 4 = 3 := idr (by kernel_rfl)
theorem tT27_5 : fieldTy Try.prog 27 5 = 3 := idr (by kernel_rfl)
theorem tF27_0 : fieldT Try.prog 27 0 = some (0, 3, true) := idr (by kernel_rfl)
theorem tF27_1 : fieldT Try.prog 27 1 = some (3, 3, true) := idr (by kernel_rfl)
theorem tF27_2 : fieldT Try.prog 27 2 = some (6, 1, false) := idr (by kernel_rfl)
theorem tF27_3 : fieldT Try.prog 27 3 = some (7, 1, false) := idr (by kernel_rfl)
theorem tF27_4 : fieldT Try.prog 27 4 = some (8, 1, false) := idr (by kernel_rfl)
theorem tF27_5 : fieldT Try.prog 27 5 = some (9, 1, false) := idr (by kernel_rfl)
theorem tU28 : Try.prog.underlying 28 = some (.int .u32) := idr (by kernel_rfl)
theorem tS28 : sizeT Try.prog 28 = some 1 := idr (by kernel_rfl)
theorem tA28 : isAggT Try.prog 28 = some false := idr (by kernel_rfl)
theorem tz28 : zeroA Try.prog 28 = some [.d (.int .u32 0)] := by kernel_rfl
theorem tv28 : zeroV Try.prog 28 = some (.d (.int .u32 0)) := idr (by kernel_rfl)
theorem tU33 : Try.prog.underlying 33 = some (.slice 27) := idr (by kernel_rfl)
theorem tS33 : sizeT Try.prog 33 = some 1 := idr (by kernel_rfl)
theorem tA33 : isAggT Try.prog 33 = some false := idr (by kernel_rfl)
theorem tE33 : elemT Try.prog 33 = some (10, 128) := idr (by kernel_rfl)
theorem tZ33 : zsizeT Try.prog 33 = some 10 := idr (by kernel_rfl)
theorem tz33 : zeroA Try.prog 33 = some [.nilsl 10] := by kernel_rfl
theorem tv33 : zeroV Try.prog 33 = some (.nilsl 10) := idr (by kernel_rfl)
theorem tS35 : sizeT Try.prog 35 = some 10 := idr (by kernel_rfl)
theorem tA35 : isAggT Try.prog 35 = some true := idr (by kernel_rfl)
theorem tz35 : zeroA Try.prog 35 = some [.d (.bool false), .d (.str ByteArray.empty), .d (.str ByteArray.empty), .d (.str ByteArray.empty), .d (.int .i64 0), .d (.int .u64 0), .d (.int .i64 0), .d (.int .i64 0), .d (.str ByteArray.empty), .d (.str ByteArray.empty)] := by kernel_rfl
theorem tv35 : zeroV Try.prog 35 = some (.agg [.d (.bool false), .d (.str ByteArray.empty), .d (.str ByteArray.empty), .d (.str ByteArray.empty), .d (.int .i64 0), .d (.int .u64 0), .d (.int .i64 0), .d (.int .i64 0), .d (.str ByteArray.empty), .d (.str ByteArray.empty)]) := idr (by kernel_rfl)
theorem tQ35 : Try.prog.eqGuardType Try.prog.depth 35 = false := idr (by kernel_rfl)
theorem tX35 (a0 b0 : Bool) (a1 b1 : ByteArray) (a2 b2 : ByteArray) (a3 b3 : ByteArray) (a4 b4 : Int) (a5 b5 : Int) (a6 b6 : Int) (a7 b7 : Int) (a8 b8 : ByteArray) (a9 b9 : ByteArray) : eqT Try.prog 8 35 [.d (.bool a0), .d (.str a1), .d (.str a2), .d (.str a3), .d (.int .i64 a4), .d (.int .u64 a5), .d (.int .i64 a6), .d (.int .i64 a7), .d (.str a8), .d (.str a9)] [.d (.bool b0), .d (.str b1), .d (.str b2), .d (.str b3), .d (.int .i64 b4), .d (.int .u64 b5), .d (.int .i64 b6), .d (.int .i64 b7), .d (.str b8), .d (.str b9)] = some ((a0 == b0) && (((a1 == b1) && ((a2 == b2) && ((a3 == b3) && true))) && ((a4 == b4) && ((a5 == b5) && ((a6 == b6) && ((a7 == b7) && ((a8 == b8) && ((a9 == b9) && true)))))))) := idr (by kernel_rfl)
theorem tO35 : structOk Try.prog 35 = true := idr (by kernel_rfl)
theorem tT35_0 : fieldTy Try.prog 35 0 = 4 := idr (by kernel_rfl)
theorem tT35_1 : fieldTy Try.prog 35 1 = 23 := idr (by kernel_rfl)
theorem tT35_2 : fieldTy Try.prog 35 2 = 3 := idr (by kernel_rfl)
theorem tT35_3 : fieldTy Try.prog 35 3 = 25 := idr (by kernel_rfl)
theorem tT35_4 : fieldTy Try.prog 35 4 = 3 := idr (by kernel_rfl)
theorem tT35_5 : fieldTy Try.prog 35 5 = 3 := idr (by kernel_rfl)
theorem tT35_6 : fieldTy Try.prog 35 6 = 9 := idr (by kernel_rfl)
theorem tT35_7 : fieldTy Try.prog 35 7 = 9 := idr (by kernel_rfl)
theorem tF35_0 : fieldT Try.prog 35 0 = some (0, 1, false) := idr (by kernel_rfl)
theorem tF35_1 : fieldT Try.prog 35 1 = some (1, 3, true) := idr (by kernel_rfl)
theorem tF35_2 : fieldT Try.prog 35 2 = some (4, 1, false) := idr (by kernel_rfl)
theorem tF35_3 : fieldT Try.prog 35 3 = some (5, 1, false) := idr (by kernel_rfl)
theorem tF35_4 : fieldT Try.prog 35 4 = some (6, 1, false) := idr (by kernel_rfl)
theorem tF35_5 : fieldT Try.prog 35 5 = some (7, 1, false) := idr (by kernel_rfl)
theorem tF35_6 : fieldT Try.prog 35 6 = some (8, 1, false) := idr (by kernel_rfl)
theorem tF35_7 : fieldT Try.prog 35 7 = some (9, 1, false) := idr (by kernel_rfl)
theorem tS36 : sizeT Try.prog 36 = some 1 := idr (by kernel_rfl)
theorem tA36 : isAggT Try.prog 36 = some false := idr (by kernel_rfl)
theorem tU40 : Try.prog.underlying 40 = some (.slice 5) := idr (by kernel_rfl)
theorem tS40 : sizeT Try.prog 40 = some 1 := idr (by kernel_rfl)
theorem tA40 : isAggT Try.prog 40 = some false := idr (by kernel_rfl)
theorem tE40 : elemT Try.prog 40 = some (1, 1) := idr (by kernel_rfl)
theorem tZ40 : zsizeT Try.prog 40 = some 1 := idr (by kernel_rfl)
theorem tz40 : zeroA Try.prog 40 = some [.nilsl 1] := by kernel_rfl
theorem tv40 : zeroV Try.prog 40 = some (.nilsl 1) := idr (by kernel_rfl)
theorem tU42 : Try.prog.underlying 42 = some (.slice 25) := idr (by kernel_rfl)
theorem tS42 : sizeT Try.prog 42 = some 1 := idr (by kernel_rfl)
theorem tA42 : isAggT Try.prog 42 = some false := idr (by kernel_rfl)
theorem tE42 : elemT Try.prog 42 = some (1, 8) := idr (by kernel_rfl)
theorem tZ42 : zsizeT Try.prog 42 = some 1 := idr (by kernel_rfl)
theorem tz42 : zeroA Try.prog 42 = some [.nilsl 1] := by kernel_rfl
theorem tv42 : zeroV Try.prog 42 = some (.nilsl 1) := idr (by kernel_rfl)
theorem tS44 : sizeT Try.prog 44 = some 1 := idr (by kernel_rfl)
theorem tA44 : isAggT Try.prog 44 = some false := idr (by kernel_rfl)
theorem tU48 : Try.prog.underlying 48 = some (.slice 59) := idr (by kernel_rfl)
theorem tS48 : sizeT Try.prog 48 = some 1 := idr (by kernel_rfl)
theorem tA48 : isAggT Try.prog 48 = some false := idr (by kernel_rfl)
theorem tE48 : elemT Try.prog 48 = some (5, 64) := idr (by kernel_rfl)
theorem tZ48 : zsizeT Try.prog 48 = some 5 := idr (by kernel_rfl)
theorem tz48 : zeroA Try.prog 48 = some [.nilsl 5] := by kernel_rfl
theorem tv48 : zeroV Try.prog 48 = some (.nilsl 5) := idr (by kernel_rfl)
theorem tS50 : sizeT Try.prog 50 = some 3 := idr (by kernel_rfl)
theorem tA50 : isAggT Try.prog 50 = some true := idr (by kernel_rfl)
theorem tz50 : zeroA Try.prog 50 = some [.d (.int .i64 0), .d (.int .i64 0), .nilsl 5] := by kernel_rfl
theorem tv50 : zeroV Try.prog 50 = some (.agg [.d (.int .i64 0), .d (.int .i64 0), .nilsl 5]) := idr (by kernel_rfl)
theorem tQ50 : Try.prog.eqGuardType Try.prog.depth 50 = false := idr (by kernel_rfl)
theorem tO50 : structOk Try.prog 50 = true := idr (by kernel_rfl)
theorem tT50_0 : fieldTy Try.prog 50 0 = 3 := idr (by kernel_rfl)
theorem tT50_1 : fieldTy Try.prog 50 1 = 3 := idr (by kernel_rfl)
theorem tT50_2 : fieldTy Try.prog 50 2 = 48 := idr (by kernel_rfl)
theorem tF50_0 : fieldT Try.prog 50 0 = some (0, 1, false) := idr (by kernel_rfl)
theorem tF50_1 : fieldT Try.prog 50 1 = some (1, 1, false) := idr (by kernel_rfl)
theorem tF50_2 : fieldT Try.prog 50 2 = some (2, 1, false) := idr (by kernel_rfl)
theorem tU51 : Try.prog.underlying 51 = some (.slice 61) := idr (by kernel_rfl)
theorem tS51 : sizeT Try.prog 51 = some 1 := idr (by kernel_rfl)
theorem tA51 : isAggT Try.prog 51 = some false := idr (by kernel_rfl)
theorem tE51 : elemT Try.prog 51 = some (4, 4) := idr (by kernel_rfl)
theorem tZ51 : zsizeT Try.prog 51 = some 4 := idr (by kernel_rfl)
theorem tz51 : zeroA Try.prog 51 = some [.nilsl 4] := by kernel_rfl
theorem tv51 : zeroV Try.prog 51 = some (.nilsl 4) := idr (by kernel_rfl)
theorem tS53 : sizeT Try.prog 53 = some 1 := idr (by kernel_rfl)
theorem tA53 : isAggT Try.prog 53 = some false := idr (by kernel_rfl)
theorem tU55 : Try.prog.underlying 55 = some (.int .i64) := idr (by kernel_rfl)
theorem tS55 : sizeT Try.prog 55 = some 1 := idr (by kernel_rfl)
theorem tA55 : isAggT Try.prog 55 = some false := idr (by kernel_rfl)
theorem tz55 : zeroA Try.prog 55 = some [.d (.int .i64 0)] := by kernel_rfl
theorem tv55 : zeroV Try.prog 55 = some (.d (.int .i64 0)) := idr (by kernel_rfl)
theorem tU57 : Try.prog.underlying 57 = some (.slice 3) := idr (by kernel_rfl)
theorem tS57 : sizeT Try.prog 57 = some 1 := idr (by kernel_rfl)
theorem tA57 : isAggT Try.prog 57 = some false := idr (by kernel_rfl)
theorem tE57 : elemT Try.prog 57 = some (1, 8) := idr (by kernel_rfl)
theorem tZ57 : zsizeT Try.prog 57 = some 1 := idr (by kernel_rfl)
theorem tz57 : zeroA Try.prog 57 = some [.nilsl 1] := by kernel_rfl
theorem tv57 : zeroV Try.prog 57 = some (.nilsl 1) := idr (by kernel_rfl)
theorem tS59 : sizeT Try.prog 59 = some 5 := idr (by kernel_rfl)
theorem tA59 : isAggT Try.prog 59 = some true := idr (by kernel_rfl)
theorem tz59 : zeroA Try.prog 59 = some [.d (.str ByteArray.empty), .d (.str ByteArray.empty), .d (.str ByteArray.empty), .d (.int .i64 0), .d (.int .i64 0)] := by kernel_rfl
theorem tv59 : zeroV Try.prog 59 = some (.agg [.d (.str ByteArray.empty), .d (.str ByteArray.empty), .d (.str ByteArray.empty), .d (.int .i64 0), .d (.int .i64 0)]) := idr (by kernel_rfl)
theorem tQ59 : Try.prog.eqGuardType Try.prog.depth 59 = false := idr (by kernel_rfl)
theorem tX59 (a0 b0 : ByteArray) (a1 b1 : ByteArray) (a2 b2 : ByteArray) (a3 b3 : Int) (a4 b4 : Int) : eqT Try.prog 8 59 [.d (.str a0), .d (.str a1), .d (.str a2), .d (.int .i64 a3), .d (.int .i64 a4)] [.d (.str b0), .d (.str b1), .d (.str b2), .d (.int .i64 b3), .d (.int .i64 b4)] = some (((a0 == b0) && ((a1 == b1) && ((a2 == b2) && true))) && ((a3 == b3) && ((a4 == b4) && true))) := idr (by kernel_rfl)
theorem tO59 : structOk Try.prog 59 = true := idr (by kernel_rfl)
theorem tT59_0 : fieldTy Try.prog 59 0 = 23 := idr (by kernel_rfl)
theorem tT59_1 : fieldTy Try.prog 59 1 = 3 := idr (by kernel_rfl)
theorem tT59_2 : fieldTy Try.prog 59 2 = 3 := idr (by kernel_rfl)
theorem tF59_0 : fieldT Try.prog 59 0 = some (0, 3, true) := idr (by kernel_rfl)
theorem tF59_1 : fieldT Try.prog 59 1 = some (3, 1, false) := idr (by kernel_rfl)
theorem tF59_2 : fieldT Try.prog 59 2 = some (4, 1, false) := idr (by kernel_rfl)
theorem tS61 : sizeT Try.prog 61 = some 4 := idr (by kernel_rfl)
theorem tA61 : isAggT Try.prog 61 = some true := idr (by kernel_rfl)
theorem tz61 : zeroA Try.prog 61 = some [.d (.int .u8 0), .d (.int .u8 0), .d (.int .u8 0), .d (.int .u8 0)] := by kernel_rfl
theorem tv61 : zeroV Try.prog 61 = some (.agg [.d (.int .u8 0), .d (.int .u8 0), .d (.int .u8 0), .d (.int .u8 0)]) := idr (by kernel_rfl)
theorem tQ61 : Try.prog.eqGuardType Try.prog.depth 61 = false := idr (by kernel_rfl)
theorem tX61 (a0 b0 : Int) (a1 b1 : Int) (a2 b2 : Int) (a3 b3 : Int) : eqT Try.prog 8 61 [.d (.int .u8 a0), .d (.int .u8 a1), .d (.int .u8 a2), .d (.int .u8 a3)] [.d (.int .u8 b0), .d (.int .u8 b1), .d (.int .u8 b2), .d (.int .u8 b3)] = some ((a0 == b0) && ((a1 == b1) && ((a2 == b2) && ((a3 == b3) && true)))) := idr (by kernel_rfl)
theorem tO61 : structOk Try.prog 61 = true := idr (by kernel_rfl)
theorem tT61_0 : fieldTy Try.prog 61 0 = 5 := idr (by kernel_rfl)
theorem tT61_1 : fieldTy Try.prog 61 1 = 5 := idr (by kernel_rfl)
theorem tT61_2 : fieldTy Try.prog 61 2 = 5 := idr (by kernel_rfl)
theorem tT61_3 : fieldTy Try.prog 61 3 = 5 := idr (by kernel_rfl)
theorem tF61_0 : fieldT Try.prog 61 0 = some (0, 1, false) := idr (by kernel_rfl)
theorem tF61_1 : fieldT Try.prog 61 1 = some (1, 1, false) := idr (by kernel_rfl)
theorem tF61_2 : fieldT Try.prog 61 2 = some (2, 1, false) := idr (by kernel_rfl)
theorem tF61_3 : fieldT Try.prog 61 3 = some (3, 1, false) := idr (by kernel_rfl)
theorem tS63 : sizeT Try.prog 63 = some 1 := idr (by kernel_rfl)
theorem tA63 : isAggT Try.prog 63 = some false := idr (by kernel_rfl)
theorem tU89 : Try.prog.underlying 89 = some (.slice 9) := idr (by kernel_rfl)
theorem tS89 : sizeT Try.prog 89 = some 1 := idr (by kernel_rfl)
theorem tA89 : isAggT Try.prog 89 = some false := idr (by kernel_rfl)
theorem tE89 : elemT Try.prog 89 = some (1, 16) := idr (by kernel_rfl)
theorem tZ89 : zsizeT Try.prog 89 = some 1 := idr (by kernel_rfl)
theorem tz89 : zeroA Try.prog 89 = some [.nilsl 1] := by kernel_rfl
theorem tv89 : zeroV Try.prog 89 = some (.nilsl 1) := idr (by kernel_rfl)
theorem tS91 : sizeT Try.prog 91 = some 1 := idr (by kernel_rfl)
theorem tA91 : isAggT Try.prog 91 = some false := idr (by kernel_rfl)
theorem tU96 : Try.prog.underlying 96 = some (.slice 23) := idr (by kernel_rfl)
theorem tS96 : sizeT Try.prog 96 = some 1 := idr (by kernel_rfl)
theorem tA96 : isAggT Try.prog 96 = some false := idr (by kernel_rfl)
theorem tE96 : elemT Try.prog 96 = some (3, 48) := idr (by kernel_rfl)
theorem tZ96 : zsizeT Try.prog 96 = some 3 := idr (by kernel_rfl)
theorem tz96 : zeroA Try.prog 96 = some [.nilsl 3] := by kernel_rfl
theorem tv96 : zeroV Try.prog 96 = some (.nilsl 3) := idr (by kernel_rfl)
theorem tU101 : Try.prog.underlying 101 = some (.int .u64) := idr (by kernel_rfl)
theorem tS101 : sizeT Try.prog 101 = some 1 := idr (by kernel_rfl)
theorem tA101 : isAggT Try.prog 101 = some false := idr (by kernel_rfl)
theorem tz101 : zeroA Try.prog 101 = some [.d (.int .u64 0)] := by kernel_rfl
theorem tv101 : zeroV Try.prog 101 = some (.d (.int .u64 0)) := idr (by kernel_rfl)
theorem tU124 : Try.prog.underlying 124 = some (.map 25 4) := idr (by kernel_rfl)
theorem tS124 : sizeT Try.prog 124 = some 1 := idr (by kernel_rfl)
theorem tA124 : isAggT Try.prog 124 = some false := idr (by kernel_rfl)
theorem tz124 : zeroA Try.prog 124 = some [.nilm] := by kernel_rfl
theorem tv124 : zeroV Try.prog 124 = some (.nilm) := idr (by kernel_rfl)
theorem tM124 : mapT Try.prog 124 = some (25, 4) := idr (by kernel_rfl)
theorem tS125 : sizeT Try.prog 125 = some 1 := idr (by kernel_rfl)
theorem tA125 : isAggT Try.prog 125 = some false := idr (by kernel_rfl)
theorem n3 : Hs.own 3 = false := idr (by kernel_rfl)
theorem i3 : Hs.inPlace 3 = false := idr (by kernel_rfl)
theorem n4 : Hs.own 4 = false := idr (by kernel_rfl)
theorem i4 : Hs.inPlace 4 = false := idr (by kernel_rfl)
theorem n5 : Hs.own 5 = false := idr (by kernel_rfl)
theorem i5 : Hs.inPlace 5 = false := idr (by kernel_rfl)
theorem n6 : Hs.own 6 = false := idr (by kernel_rfl)
theorem i6 : Hs.inPlace 6 = false := idr (by kernel_rfl)
theorem n7 : Hs.own 7 = false := idr (by kernel_rfl)
theorem i7 : Hs.inPlace 7 = false := idr (by kernel_rfl)
theorem n8 : Hs.own 8 = false := idr (by kernel_rfl)
theorem i8 : Hs.inPlace 8 = false := idr (by kernel_rfl)
theorem n9 : Hs.own 9 = false := idr (by kernel_rfl)
theorem i9 : Hs.inPlace 9 = false := idr (by kernel_rfl)
theorem n14 : Hs.own 14 = false := idr (by kernel_rfl)
theorem i14 : Hs.inPlace 14 = false := idr (by kernel_rfl)
theorem n15 : Hs.own 15 = false := idr (by kernel_rfl)
theorem i15 : Hs.inPlace 15 = false := idr (by kernel_rfl)
theorem n16 : Hs.own 16 = false := idr (by kernel_rfl)
theorem i16 : Hs.inPlace 16 = false := idr (by kernel_rfl)
theorem n17 : Hs.own 17 = false := idr (by kernel_rfl)
theorem i17 : Hs.inPlace 17 = false := idr (by kernel_rfl)
theorem n18 : Hs.own 18 = false := idr (by kernel_rfl)
theorem i18 : Hs.inPlace 18 = false := idr (by kernel_rfl)
theorem n19 : Hs.own 19 = false := idr (by kernel_rfl)
theorem i19 : Hs.inPlace 19 = false := idr (by kernel_rfl)
theorem n20 : Hs.own 20 = false := idr (by kernel_rfl)
theorem i20 : Hs.inPlace 20 = false := idr (by kernel_rfl)
theorem n21 : Hs.own 21 = false := idr (by kernel_rfl)
theorem i21 : Hs.inPlace 21 = false := idr (by kernel_rfl)
theorem n22 : Hs.own 22 = false := idr (by kernel_rfl)
theorem i22 : Hs.inPlace 22 = false := idr (by kernel_rfl)
theorem n23 : Hs.own 23 = false := idr (by kernel_rfl)
theorem i23 : Hs.inPlace 23 = false := idr (by kernel_rfl)
theorem n24 : Hs.own 24 = false := idr (by kernel_rfl)
theorem i24 : Hs.inPlace 24 = false := idr (by kernel_rfl)
theorem n25 : Hs.own 25 = false := idr (by kernel_rfl)
theorem i25 : Hs.inPlace 25 = false := idr (by kernel_rfl)
theorem n26 : Hs.own 26 = false := idr (by kernel_rfl)
theorem i26 : Hs.inPlace 26 = false := idr (by kernel_rfl)
theorem n27 : Hs.own 27 = false := idr (by kernel_rfl)
theorem i27 : Hs.inPlace 27 = false := idr (by kernel_rfl)
theorem n28 : Hs.own 28 = false := idr (by kernel_rfl)
theorem i28 : Hs.inPlace 28 = false := idr (by kernel_rfl)
theorem n29 : Hs.own 29 = false := idr (by kernel_rfl)
theorem i29 : Hs.inPlace 29 = false := idr (by kernel_rfl)
theorem n30 : Hs.own 30 = false := idr (by kernel_rfl)
theorem i30 : Hs.inPlace 30 = false := idr (by kernel_rfl)
theorem n31 : Hs.own 31 = false := idr (by kernel_rfl)
theorem i31 : Hs.inPlace 31 = false := idr (by kernel_rfl)
theorem n32 : Hs.own 32 = false := idr (by kernel_rfl)
theorem i32 : Hs.inPlace 32 = false := idr (by kernel_rfl)
theorem n33 : Hs.own 33 = false := idr (by kernel_rfl)
theorem i33 : Hs.inPlace 33 = false := idr (by kernel_rfl)
theorem n34 : Hs.own 34 = false := idr (by kernel_rfl)
theorem i34 : Hs.inPlace 34 = false := idr (by kernel_rfl)
theorem n35 : Hs.own 35 = false := idr (by kernel_rfl)
theorem i35 : Hs.inPlace 35 = false := idr (by kernel_rfl)
theorem n36 : Hs.own 36 = false := idr (by kernel_rfl)
theorem i36 : Hs.inPlace 36 = false := idr (by kernel_rfl)
theorem n37 : Hs.own 37 = false := idr (by kernel_rfl)
theorem i37 : Hs.inPlace 37 = false := idr (by kernel_rfl)
theorem n38 : Hs.own 38 = false := idr (by kernel_rfl)
theorem i38 : Hs.inPlace 38 = false := idr (by kernel_rfl)
theorem n39 : Hs.own 39 = false := idr (by kernel_rfl)
theorem i39 : Hs.inPlace 39 = false := idr (by kernel_rfl)
theorem n40 : Hs.own 40 = false := idr (by kernel_rfl)
theorem i40 : Hs.inPlace 40 = false := idr (by kernel_rfl)
theorem n56 : Hs.own 56 = false := idr (by kernel_rfl)
theorem i56 : Hs.inPlace 56 = false := idr (by kernel_rfl)
theorem n63 : Hs.own 63 = false := idr (by kernel_rfl)
theorem i63 : Hs.inPlace 63 = false := idr (by kernel_rfl)
theorem n64 : Hs.own 64 = false := idr (by kernel_rfl)
theorem i64 : Hs.inPlace 64 = false := idr (by kernel_rfl)
theorem n65 : Hs.own 65 = false := idr (by kernel_rfl)
theorem i65 : Hs.inPlace 65 = false := idr (by kernel_rfl)
theorem n66 : Hs.own 66 = false := idr (by kernel_rfl)
theorem i66 : Hs.inPlace 66 = false := idr (by kernel_rfl)
theorem n67 : Hs.own 67 = false := idr (by kernel_rfl)
theorem i67 : Hs.inPlace 67 = false := idr (by kernel_rfl)
theorem n68 : Hs.own 68 = false := idr (by kernel_rfl)
theorem i68 : Hs.inPlace 68 = false := idr (by kernel_rfl)
theorem n69 : Hs.own 69 = false := idr (by kernel_rfl)
theorem i69 : Hs.inPlace 69 = false := idr (by kernel_rfl)
theorem n70 : Hs.own 70 = false := idr (by kernel_rfl)
theorem i70 : Hs.inPlace 70 = false := idr (by kernel_rfl)
theorem n71 : Hs.own 71 = false := idr (by kernel_rfl)
theorem i71 : Hs.inPlace 71 = false := idr (by kernel_rfl)
theorem n72 : Hs.own 72 = false := idr (by kernel_rfl)
theorem i72 : Hs.inPlace 72 = false := idr (by kernel_rfl)
theorem n73 : Hs.own 73 = false := idr (by kernel_rfl)
theorem i73 : Hs.inPlace 73 = false := idr (by kernel_rfl)
theorem n74 : Hs.own 74 = false := idr (by kernel_rfl)
theorem i74 : Hs.inPlace 74 = false := idr (by kernel_rfl)
theorem n75 : Hs.own 75 = false := idr (by kernel_rfl)
theorem i75 : Hs.inPlace 75 = false := idr (by kernel_rfl)
theorem n76 : Hs.own 76 = false := idr (by kernel_rfl)
theorem i76 : Hs.inPlace 76 = false := idr (by kernel_rfl)
theorem n77 : Hs.own 77 = false := idr (by kernel_rfl)
theorem i77 : Hs.inPlace 77 = false := idr (by kernel_rfl)
theorem n78 : Hs.own 78 = false := idr (by kernel_rfl)
theorem i78 : Hs.inPlace 78 = false := idr (by kernel_rfl)
theorem n86 : Hs.own 86 = false := idr (by kernel_rfl)
theorem i86 : Hs.inPlace 86 = false := idr (by kernel_rfl)
theorem n90 : Hs.own 90 = false := idr (by kernel_rfl)
theorem i90 : Hs.inPlace 90 = false := idr (by kernel_rfl)
theorem n92 : Hs.own 92 = false := idr (by kernel_rfl)
theorem i92 : Hs.inPlace 92 = false := idr (by kernel_rfl)
theorem n95 : Hs.own 95 = false := idr (by kernel_rfl)
theorem i95 : Hs.inPlace 95 = false := idr (by kernel_rfl)
theorem n96 : Hs.own 96 = false := idr (by kernel_rfl)
theorem i96 : Hs.inPlace 96 = false := idr (by kernel_rfl)
theorem n97 : Hs.own 97 = false := idr (by kernel_rfl)
theorem i97 : Hs.inPlace 97 = false := idr (by kernel_rfl)
theorem n98 : Hs.own 98 = false := idr (by kernel_rfl)
theorem i98 : Hs.inPlace 98 = false := idr (by kernel_rfl)
theorem n99 : Hs.own 99 = false := idr (by kernel_rfl)
theorem i99 : Hs.inPlace 99 = false := idr (by kernel_rfl)
theorem n100 : Hs.own 100 = false := idr (by kernel_rfl)
theorem i100 : Hs.inPlace 100 = false := idr (by kernel_rfl)
theorem n101 : Hs.own 101 = false := idr (by kernel_rfl)
theorem i101 : Hs.inPlace 101 = false := idr (by kernel_rfl)
theorem n102 : Hs.own 102 = false := idr (by kernel_rfl)
theorem i102 : Hs.inPlace 102 = false := idr (by kernel_rfl)
theorem n103 : Hs.own 103 = false := idr (by kernel_rfl)
theorem i103 : Hs.inPlace 103 = false := idr (by kernel_rfl)
theorem n104 : Hs.own 104 = false := idr (by kernel_rfl)
theorem i104 : Hs.inPlace 104 = false := idr (by kernel_rfl)
theorem n105 : Hs.own 105 = false := idr (by kernel_rfl)
theorem i105 : Hs.inPlace 105 = false := idr (by kernel_rfl)
theorem n109 : Hs.own 109 = false := idr (by kernel_rfl)
theorem i109 : Hs.inPlace 109 = false := idr (by kernel_rfl)
theorem n111 : Hs.own 111 = false := idr (by kernel_rfl)
theorem i111 : Hs.inPlace 111 = false := idr (by kernel_rfl)
theorem n115 : Hs.own 115 = false := idr (by kernel_rfl)
theorem i115 : Hs.inPlace 115 = false := idr (by kernel_rfl)
theorem n127 : Hs.own 127 = false := idr (by kernel_rfl)
theorem i127 : Hs.inPlace 127 = false := idr (by kernel_rfl)
theorem i136 : Hs.inPlace 136 = false := idr (by kernel_rfl)
theorem evTy0 : type_of% tS0 ∧ type_of% tA0 ∧ type_of% tU3 ∧ type_of% tS3 ∧ type_of% tA3 ∧ type_of% tz3 ∧ type_of% tv3 ∧ type_of% tU4 ∧ type_of% tS4 ∧ type_of% tA4 ∧ type_of% tz4 ∧ type_of% tv4 ∧ type_of% tU5 ∧ type_of% tS5 ∧ type_of% tA5 ∧ type_of% tz5 ∧ type_of% tv5 ∧ type_of% tU9 ∧ type_of% tS9 ∧ type_of% tA9 ∧ type_of% tz9 ∧ type_of% tv9 ∧ type_of% tS23 ∧ type_of% tA23 ∧ type_of% tz23 ∧ type_of% tv23 ∧ type_of% tQ23 ∧ type_of% tX23 ∧ type_of% tO23 ∧ type_of% tT23_0 ∧ type_of% tT23_1 ∧ type_of% tT23_2 ∧ type_of% tF23_0 ∧ type_of% tF23_1 ∧ type_of% tF23_2 ∧ type_of% tU24 ∧ type_of% tS24 ∧ type_of% tA24 ∧ type_of% tz24 ∧ type_of% tv24 ∧ type_of% tU25 ∧ type_of% tS25 ∧ type_of% tA25 ∧ type_of% tz25 ∧ type_of% tv25 ∧ type_of% tS27 ∧ type_of% tA27 ∧ type_of% tz27 ∧ type_of% tv27 ∧ type_of% tQ27 ∧ type_of% tX27 ∧ type_of% tO27 ∧ type_of% tT27_0 ∧ type_of% tT27_1 ∧ type_of% tT27_2 ∧ type_of% tT27_3 ∧ type_of% tT27_4 ∧ type_of% tT27_5 ∧ type_of% tF27_0 ∧ type_of% tF27_1 :=
  ⟨tS0, tA0, tU3, tS3, tA3, tz3, tv3, tU4, tS4, tA4, tz4, tv4, tU5, tS5, tA5, tz5, tv5, tU9, tS9, tA9, tz9, tv9, tS23, tA23, tz23, tv23, tQ23, tX23, tO23, tT23_0, tT23_1, tT23_2, tF23_0, tF23_1, tF23_2, tU24, tS24, tA24, tz24, tv24, tU25, tS25, tA25, tz25, tv25, tS27, tA27, tz27, tv27, tQ27, tX27, tO27, tT27_0, tT27_1, tT27_2, tT27_3, tT27_4, tT27_5, tF27_0, tF27_1⟩
theorem evTy1 : type_of% tF27_2 ∧ type_of% tF27_3 ∧ type_of% tF27_4 ∧ type_of% tF27_5 ∧ type_of% tU28 ∧ type_of% tS28 ∧ type_of% tA28 ∧ type_of% tz28 ∧ type_of% tv28 ∧ type_of% tU33 ∧ type_of% tS33 ∧ type_of% tA33 ∧ type_of% tE33 ∧ type_of% tZ33 ∧ type_of% tz33 ∧ type_of% tv33 ∧ type_of% tS35 ∧ type_of% tA35 ∧ type_of% tz35 ∧ type_of% tv35 ∧ type_of% tQ35 ∧ type_of% tX35 ∧ type_of% tO35 ∧ type_of% tT35_0 ∧ type_of% tT35_1 ∧ type_of% tT35_2 ∧ type_of% tT35_3 ∧ type_of% tT35_4 ∧ type_of% tT35_5 ∧ type_of% tT35_6 ∧ type_of% tT35_7 ∧ type_of% tF35_0 ∧ type_of% tF35_1 ∧ type_of% tF35_2 ∧ type_of% tF35_3 ∧ type_of% tF35_4 ∧ type_of% tF35_5 ∧ type_of% tF35_6 ∧ type_of% tF35_7 ∧ type_of% tS36 ∧ type_of% tA36 ∧ type_of% tU40 ∧ type_of% tS40 ∧ type_of% tA40 ∧ type_of% tE40 ∧ type_of% tZ40 ∧ type_of% tz40 ∧ type_of% tv40 ∧ type_of% tU42 ∧ type_of% tS42 ∧ type_of% tA42 ∧ type_of% tE42 ∧ type_of% tZ42 ∧ type_of% tz42 ∧ type_of% tv42 ∧ type_of% tS44 ∧ type_of% tA44 ∧ type_of% tU48 ∧ type_of% tS48 ∧ type_of% tA48 :=
  ⟨tF27_2, tF27_3, tF27_4, tF27_5, tU28, tS28, tA28, tz28, tv28, tU33, tS33, tA33, tE33, tZ33, tz33, tv33, tS35, tA35, tz35, tv35, tQ35, tX35, tO35, tT35_0, tT35_1, tT35_2, tT35_3, tT35_4, tT35_5, tT35_6, tT35_7, tF35_0, tF35_1, tF35_2, tF35_3, tF35_4, tF35_5, tF35_6, tF35_7, tS36, tA36, tU40, tS40, tA40, tE40, tZ40, tz40, tv40, tU42, tS42, tA42, tE42, tZ42, tz42, tv42, tS44, tA44, tU48, tS48, tA48⟩
theorem evTy2 : type_of% tE48 ∧ type_of% tZ48 ∧ type_of% tz48 ∧ type_of% tv48 ∧ type_of% tS50 ∧ type_of% tA50 ∧ type_of% tz50 ∧ type_of% tv50 ∧ type_of% tQ50 ∧ type_of% tO50 ∧ type_of% tT50_0 ∧ type_of% tT50_1 ∧ type_of% tT50_2 ∧ type_of% tF50_0 ∧ type_of% tF50_1 ∧ type_of% tF50_2 ∧ type_of% tU51 ∧ type_of% tS51 ∧ type_of% tA51 ∧ type_of% tE51 ∧ type_of% tZ51 ∧ type_of% tz51 ∧ type_of% tv51 ∧ type_of% tS53 ∧ type_of% tA53 ∧ type_of% tU55 ∧ type_of% tS55 ∧ type_of% tA55 ∧ type_of% tz55 ∧ type_of% tv55 ∧ type_of% tU57 ∧ type_of% tS57 ∧ type_of% tA57 ∧ type_of% tE57 ∧ type_of% tZ57 ∧ type_of% tz57 ∧ type_of% tv57 ∧ type_of% tS59 ∧ type_of% tA59 ∧ type_of% tz59 ∧ type_of% tv59 ∧ type_of% tQ59 ∧ type_of% tX59 ∧ type_of% tO59 ∧ type_of% tT59_0 ∧ type_of% tT59_1 ∧ type_of% tT59_2 ∧ type_of% tF59_0 ∧ type_of% tF59_1 ∧ type_of% tF59_2 ∧ type_of% tS61 ∧ type_of% tA61 ∧ type_of% tz61 ∧ type_of% tv61 ∧ type_of% tQ61 ∧ type_of% tX61 ∧ type_of% tO61 ∧ type_of% tT61_0 ∧ type_of% tT61_1 ∧ type_of% tT61_2 :=
  ⟨tE48, tZ48, tz48, tv48, tS50, tA50, tz50, tv50, tQ50, tO50, tT50_0, tT50_1, tT50_2, tF50_0, tF50_1, tF50_2, tU51, tS51, tA51, tE51, tZ51, tz51, tv51, tS53, tA53, tU55, tS55, tA55, tz55, tv55, tU57, tS57, tA57, tE57, tZ57, tz57, tv57, tS59, tA59, tz59, tv59, tQ59, tX59, tO59, tT59_0, tT59_1, tT59_2, tF59_0, tF59_1, tF59_2, tS61, tA61, tz61, tv61, tQ61, tX61, tO61, tT61_0, tT61_1, tT61_2⟩
theorem evTy3 : type_of% tT61_3 ∧ type_of% tF61_0 ∧ type_of% tF61_1 ∧ type_of% tF61_2 ∧ type_of% tF61_3 ∧ type_of% tS63 ∧ type_of% tA63 ∧ type_of% tU89 ∧ type_of% tS89 ∧ type_of% tA89 ∧ type_of% tE89 ∧ type_of% tZ89 ∧ type_of% tz89 ∧ type_of% tv89 ∧ type_of% tS91 ∧ type_of% tA91 ∧ type_of% tU96 ∧ type_of% tS96 ∧ type_of% tA96 ∧ type_of% tE96 ∧ type_of% tZ96 ∧ type_of% tz96 ∧ type_of% tv96 ∧ type_of% tU101 ∧ type_of% tS101 ∧ type_of% tA101 ∧ type_of% tz101 ∧ type_of% tv101 ∧ type_of% tU124 ∧ type_of% tS124 ∧ type_of% tA124 ∧ type_of% tz124 ∧ type_of% tv124 ∧ type_of% tM124 ∧ type_of% tS125 ∧ type_of% tA125 ∧ type_of% n3 ∧ type_of% i3 ∧ type_of% n4 ∧ type_of% i4 ∧ type_of% n5 ∧ type_of% i5 ∧ type_of% n6 ∧ type_of% i6 ∧ type_of% n7 ∧ type_of% i7 ∧ type_of% n8 ∧ type_of% i8 ∧ type_of% n9 ∧ type_of% i9 ∧ type_of% n14 ∧ type_of% i14 ∧ type_of% n15 ∧ type_of% i15 ∧ type_of% n16 ∧ type_of% i16 ∧ type_of% n17 ∧ type_of% i17 ∧ type_of% n18 ∧ type_of% i18 :=
  ⟨tT61_3, tF61_0, tF61_1, tF61_2, tF61_3, tS63, tA63, tU89, tS89, tA89, tE89, tZ89, tz89, tv89, tS91, tA91, tU96, tS96, tA96, tE96, tZ96, tz96, tv96, tU101, tS101, tA101, tz101, tv101, tU124, tS124, tA124, tz124, tv124, tM124, tS125, tA125, n3, i3, n4, i4, n5, i5, n6, i6, n7, i7, n8, i8, n9, i9, n14, i14, n15, i15, n16, i16, n17, i17, n18, i18⟩
theorem evTy4 : type_of% n19 ∧ type_of% i19 ∧ type_of% n20 ∧ type_of% i20 ∧ type_of% n21 ∧ type_of% i21 ∧ type_of% n22 ∧ type_of% i22 ∧ type_of% n23 ∧ type_of% i23 ∧ type_of% n24 ∧ type_of% i24 ∧ type_of% n25 ∧ type_of% i25 ∧ type_of% n26 ∧ type_of% i26 ∧ type_of% n27 ∧ type_of% i27 ∧ type_of% n28 ∧ type_of% i28 ∧ type_of% n29 ∧ type_of% i29 ∧ type_of% n30 ∧ type_of% i30 ∧ type_of% n31 ∧ type_of% i31 ∧ type_of% n32 ∧ type_of% i32 ∧ type_of% n33 ∧ type_of% i33 ∧ type_of% n34 ∧ type_of% i34 ∧ type_of% n35 ∧ type_of% i35 ∧ type_of% n36 ∧ type_of% i36 ∧ type_of% n37 ∧ type_of% i37 ∧ type_of% n38 ∧ type_of% i38 ∧ type_of% n39 ∧ type_of% i39 ∧ type_of% n40 ∧ type_of% i40 ∧ type_of% n56 ∧ type_of% i56 ∧ type_of% n63 ∧ type_of% i63 ∧ type_of% n64 ∧ type_of% i64 ∧ type_of% n65 ∧ type_of% i65 ∧ type_of% n66 ∧ type_of% i66 ∧ type_of% n67 ∧ type_of% i67 ∧ type_of% n68 ∧ type_of% i68 ∧ type_of% n69 ∧ type_of% i69 :=
  ⟨n19, i19, n20, i20, n21, i21, n22, i22, n23, i23, n24, i24, n25, i25, n26, i26, n27, i27, n28, i28, n29, i29, n30, i30, n31, i31, n32, i32, n33, i33, n34, i34, n35, i35, n36, i36, n37, i37, n38, i38, n39, i39, n40, i40, n56, i56, n63, i63, n64, i64, n65, i65, n66, i66, n67, i67, n68, i68, n69, i69⟩
theorem evTy5 : type_of% n70 ∧ type_of% i70 ∧ type_of% n71 ∧ type_of% i71 ∧ type_of% n72 ∧ type_of% i72 ∧ type_of% n73 ∧ type_of% i73 ∧ type_of% n74 ∧ type_of% i74 ∧ type_of% n75 ∧ type_of% i75 ∧ type_of% n76 ∧ type_of% i76 ∧ type_of% n77 ∧ type_of% i77 ∧ type_of% n78 ∧ type_of% i78 ∧ type_of% n86 ∧ type_of% i86 ∧ type_of% n90 ∧ type_of% i90 ∧ type_of% n92 ∧ type_of% i92 ∧ type_of% n95 ∧ type_of% i95 ∧ type_of% n96 ∧ type_of% i96 ∧ type_of% n97 ∧ type_of% i97 ∧ type_of% n98 ∧ type_of% i98 ∧ type_of% n99 ∧ type_of% i99 ∧ type_of% n100 ∧ type_of% i100 ∧ type_of% n101 ∧ type_of% i101 ∧ type_of% n102 ∧ type_of% i102 ∧ type_of% n103 ∧ type_of% i103 ∧ type_of% n104 ∧ type_of% i104 ∧ type_of% n105 ∧ type_of% i105 ∧ type_of% n109 ∧ type_of% i109 ∧ type_of% n111 ∧ type_of% i111 ∧ type_of% n115 ∧ type_of% i115 ∧ type_of% n127 ∧ type_of% i127 ∧ type_of% i136 :=
  ⟨n70, i70, n71, i71, n72, i72, n73, i73, n74, i74, n75, i75, n76, i76, n77, i77, n78, i78, n86, i86, n90, i90, n92, i92, n95, i95, n96, i96, n97, i97, n98, i98, n99, i99, n100, i100, n101, i101, n102, i102, n103, i103, n104, i104, n105, i105, n109, i109, n111, i111, n115, i115, n127, i127, i136⟩
/-! 3 kerbsuite/kerbsuitelaw26.ConverterConverts -/
def s3_0 : SC :=
  (.seq (.seq (.reg [⟨(some 52), .move (.tmp 16), 3, none, []⟩,
    ⟨(some 53), .binOp .lss 3 (.tmp 52) (.const (.int .i64 2)) 3, 4, none, []⟩])
  (.cond (.tmp 53)
    .skip
    (.exit 0)))
  (.seq (.block 1 (.seq (.reg [⟨(some 56), .load 27 (.tmp 7), 27, none, []⟩,
    ⟨(some 57), .load 27 (.tmp 15), 27, none, []⟩,
    ⟨(some 58), .buildSlice 33 2 #[(0, (.tmp 56)), (1, (.tmp 57))], 33, none, []⟩,
    ⟨(some 59), .move (.tmp 16), 3, none, []⟩,
    ⟨(some 60), .indexAddr 33 (.tmp 58) (.tmp 59), 0, none, []⟩,
    ⟨(some 61), .load 27 (.tmp 60), 27, none, []⟩,
    ⟨(some 17), .alloc 27, 0, none, []⟩,
    ⟨none, .store 27 (.tmp 17) (.tmp 61), 0, none, []⟩])
  (.seq (.reg [⟨(some 63), .load 27 (.tmp 17), 27, none, []⟩,
    ⟨(some 64), .call ⟨.value (.func 19), #[(.tmp 63)], #[27]⟩, 36, none, []⟩,
    ⟨(some 62), .move (.tmp 64), 36, none, []⟩,
    ⟨(some 65), .extract (.tmp 62) 0, 35, none, []⟩,
    ⟨(some 66), .extract (.tmp 62) 1, 4, none, []⟩,
    ⟨(some 18), .alloc 35, 0, none, []⟩,
    ⟨none, .store 35 (.tmp 18) (.tmp 65), 0, none, []⟩,
    ⟨(some 19), .assign (.tmp 66), 4, none, []⟩])
  (.seq (.reg [⟨(some 68), .load 27 (.tmp 17), 27, none, []⟩,
    ⟨(some 69), .call ⟨.value (.func 20), #[(.tmp 68)], #[27]⟩, 36, none, []⟩,
    ⟨(some 67), .move (.tmp 69), 36, none, []⟩,
    ⟨(some 70), .extract (.tmp 67) 0, 35, none, []⟩,
    ⟨(some 71), .extract (.tmp 67) 1, 4, none, []⟩,
    ⟨(some 20), .alloc 35, 0, none, []⟩,
    ⟨none, .store 35 (.tmp 20) (.tmp 70), 0, none, []⟩,
    ⟨(some 21), .assign (.tmp 71), 4, none, []⟩])
  (.seq (.reg [⟨(some 72), .load 35 (.tmp 18), 35, none, []⟩,
    ⟨(some 73), .load 35 (.tmp 20), 35, none, []⟩,
    ⟨(some 74), .binOp .neq 35 (.tmp 72) (.tmp 73) 35, 4, none, []⟩,
    ⟨(some 75), .move (.tmp 74), 4, none, []⟩,
    ⟨(some 76), .move (.tmp 19), 4, some (75, false), []⟩,
    ⟨(some 77), .move (.tmp 21), 4, some (75, false), []⟩,
    ⟨(some 78), .binOp .neq 4 (.tmp 76) (.tmp 77) 4, 4, some (75, false), []⟩,
    ⟨(some 79), .pick (.tmp 75) (.const (.bool true)) (.tmp 78), 4, none, []⟩])
  (.cond (.tmp 79)
    (.seq (.reg [⟨(some 14), .assign (.const (.bool false)), 4, none, []⟩])
    .ret)
    .skip))))))
  (.reg [⟨(some 54), .move (.tmp 16), 3, none, []⟩,
    ⟨(some 55), .binOp .add 3 (.tmp 54) (.const (.int .i64 1)) 3, 3, none, []⟩,
    ⟨(some 16), .assign (.tmp 55), 3, none, []⟩])))
def s3 : SC :=
  (.seq (.reg [⟨(some 7), .box 27 (.tmp 0), 0, none, []⟩,
    ⟨(some 14), .assign (.const (.bool false)), 4, none, []⟩])
  (.seq (.seq (.reg [⟨(some 22), .call ⟨.value (.func 14), #[], #[]⟩, 4, none, []⟩,
    ⟨(some 23), .unOp .not 4 (.tmp 22), 4, none, []⟩])
  (.cond (.tmp 23)
    (.seq (.reg [⟨(some 14), .assign (.const (.bool false)), 4, none, []⟩])
    .ret)
    .skip))
  (.seq (.seq (.reg [⟨(some 24), .fieldAddr 27 (.tmp 7) 0, 0, none, []⟩,
    ⟨(some 25), .load 23 (.tmp 24), 23, none, []⟩,
    ⟨(some 26), .fieldAddr 27 (.tmp 7) 1, 0, none, []⟩,
    ⟨(some 27), .load 23 (.tmp 26), 23, none, []⟩,
    ⟨(some 28), .buildSlice 96 2 #[(0, (.tmp 25)), (1, (.tmp 27))], 96, none, []⟩,
    ⟨(some 29), .call ⟨.value (.func 15), #[(.tmp 28)], #[96]⟩, 4, none, []⟩])
  (.cond (.tmp 29)
    (.seq (.reg [⟨(some 14), .assign (.const (.bool true)), 4, none, []⟩])
    .ret)
    .skip))
  (.seq (.reg [⟨(some 30), .move (.tmp 1), 5, none, []⟩,
    ⟨(some 31), .convert 5 3 (.tmp 30), 3, none, []⟩,
    ⟨(some 32), .call ⟨.value (.func 16), #[(.tmp 31)], #[3]⟩, 23, none, []⟩,
    ⟨(some 33), .move (.tmp 2), 5, none, []⟩,
    ⟨(some 34), .convert 5 3 (.tmp 33), 3, none, []⟩,
    ⟨(some 35), .call ⟨.value (.func 17), #[(.tmp 34)], #[3]⟩, 23, none, []⟩,
    ⟨(some 36), .move (.tmp 3), 5, none, []⟩,
    ⟨(some 37), .convert 5 3 (.tmp 36), 3, none, []⟩,
    ⟨(some 38), .call ⟨.value (.func 18), #[(.tmp 37)], #[3]⟩, 25, none, []⟩,
    ⟨(some 39), .move (.tmp 4), 28, none, []⟩,
    ⟨(some 40), .binOp .rem 28 (.tmp 39) (.const (.int .u32 100000)) 28, 28, none, []⟩,
    ⟨(some 41), .convert 28 3 (.tmp 40), 3, none, []⟩,
    ⟨(some 42), .move (.tmp 6), 5, none, []⟩,
    ⟨(some 43), .convert 5 3 (.tmp 42), 3, none, []⟩,
    ⟨(some 44), .build 27 #[(0, (.tmp 32)), (1, (.tmp 35)), (2, (.tmp 38)), (3, (.tmp 41)), (5, (.tmp 43))], 27, none, []⟩,
    ⟨(some 15), .alloc 27, 0, none, []⟩,
    ⟨none, .store 27 (.tmp 15) (.tmp 44), 0, none, []⟩])
  (.seq (.reg [⟨(some 45), .fieldAddr 27 (.tmp 15) 3, 0, none, []⟩,
    ⟨(some 46), .load 3 (.tmp 45), 3, none, []⟩,
    ⟨(some 47), .move (.tmp 5), 28, none, []⟩,
    ⟨(some 48), .binOp .rem 28 (.tmp 47) (.const (.int .u32 100000)) 28, 28, none, []⟩,
    ⟨(some 49), .convert 28 3 (.tmp 48), 3, none, []⟩,
    ⟨(some 50), .binOp .add 3 (.tmp 46) (.tmp 49) 3, 3, none, []⟩,
    ⟨(some 51), .fieldAddr 27 (.tmp 15) 4, 0, none, []⟩,
    ⟨none, .store 3 (.tmp 51) (.tmp 50), 0, none, []⟩])
  (.seq (.seq (.reg [⟨(some 16), .assign (.const (.int .i64 0)), 3, none, []⟩])
  (.block 0 (.loop (some ([7, 15, 16], 0)) s3_0)))
  (.seq (.reg [⟨(some 14), .assign (.const (.bool true)), 4, none, []⟩])
  .ret)))))))
theorem l3 : slimF Hs 3 Try.f3 = some (80, s3, [.tmp 14]) := by kernel_rfl

/-! 4 kerbsuite/kerbsuitelaw26.ConverterBounds -/
def s4 : SC :=
  (.seq (.reg [⟨(some 12), .assign (.const (.bool false)), 4, none, []⟩])
  (.seq (.seq (.reg [⟨(some 17), .call ⟨.value (.func 14), #[], #[]⟩, 4, none, []⟩,
    ⟨(some 18), .unOp .not 4 (.tmp 17), 4, none, []⟩])
  (.cond (.tmp 18)
    (.seq (.reg [⟨(some 12), .assign (.const (.bool false)), 4, none, []⟩])
    .ret)
    .skip))
  (.seq (.reg [⟨(some 19), .move (.tmp 0), 5, none, []⟩,
    ⟨(some 20), .convert 5 3 (.tmp 19), 3, none, []⟩,
    ⟨(some 21), .call ⟨.value (.func 16), #[(.tmp 20)], #[3]⟩, 23, none, []⟩,
    ⟨(some 22), .move (.tmp 1), 5, none, []⟩,
    ⟨(some 23), .convert 5 3 (.tmp 22), 3, none, []⟩,
    ⟨(some 24), .call ⟨.value (.func 17), #[(.tmp 23)], #[3]⟩, 23, none, []⟩,
    ⟨(some 25), .move (.tmp 2), 5, none, []⟩,
    ⟨(some 26), .convert 5 3 (.tmp 25), 3, none, []⟩,
    ⟨(some 27), .call ⟨.value (.func 18), #[(.tmp 26)], #[3]⟩, 25, none, []⟩,
    ⟨(some 28), .move (.tmp 3), 28, none, []⟩,
    ⟨(some 29), .binOp .rem 28 (.tmp 28) (.const (.int .u32 100000)) 28, 28, none, []⟩,
    ⟨(some 30), .convert 28 3 (.tmp 29), 3, none, []⟩,
    ⟨(some 31), .move (.tmp 5), 5, none, []⟩,
    ⟨(some 32), .convert 5 3 (.tmp 31), 3, none, []⟩,
    ⟨(some 33), .build 27 #[(0, (.tmp 21)), (1, (.tmp 24)), (2, (.tmp 27)), (3, (.tmp 30)), (5, (.tmp 32))], 27, none, []⟩,
    ⟨(some 13), .alloc 27, 0, none, []⟩,
    ⟨none, .store 27 (.tmp 13) (.tmp 33), 0, none, []⟩])
  (.seq (.reg [⟨(some 34), .fieldAddr 27 (.tmp 13) 3, 0, none, []⟩,
    ⟨(some 35), .load 3 (.tmp 34), 3, none, []⟩,
    ⟨(some 36), .move (.tmp 4), 28, none, []⟩,
    ⟨(some 37), .binOp .rem 28 (.tmp 36) (.const (.int .u32 100000)) 28, 28, none, []⟩,
    ⟨(some 38), .convert 28 3 (.tmp 37), 3, none, []⟩,
    ⟨(some 39), .binOp .add 3 (.tmp 35) (.tmp 38) 3, 3, none, []⟩,
    ⟨(some 40), .fieldAddr 27 (.tmp 13) 4, 0, none, []⟩,
    ⟨none, .store 3 (.tmp 40) (.tmp 39), 0, none, []⟩])
  (.seq (.reg [⟨(some 42), .load 27 (.tmp 13), 27, none, []⟩,
    ⟨(some 43), .call ⟨.value (.func 19), #[(.tmp 42)], #[27]⟩, 36, none, []⟩,
    ⟨(some 41), .move (.tmp 43), 36, none, []⟩,
    ⟨(some 44), .extract (.tmp 41) 0, 35, none, []⟩,
    ⟨(some 45), .extract (.tmp 41) 1, 4, none, []⟩,
    ⟨(some 14), .alloc 35, 0, none, []⟩,
    ⟨none, .store 35 (.tmp 14) (.tmp 44), 0, none, []⟩,
    ⟨(some 15), .assign (.tmp 45), 4, none, []⟩])
  (.seq (.seq (.reg [⟨(some 46), .move (.tmp 15), 4, none, []⟩,
    ⟨(some 47), .unOp .not 4 (.tmp 46), 4, none, []⟩])
  (.cond (.tmp 47)
    (.seq (.reg [⟨(some 48), .fieldAddr 27 (.tmp 13) 4, 0, none, []⟩,
      ⟨(some 49), .load 3 (.tmp 48), 3, none, []⟩,
      ⟨(some 50), .fieldAddr 27 (.tmp 13) 3, 0, none, []⟩,
      ⟨(some 51), .load 3 (.tmp 50), 3, none, []⟩,
      ⟨(some 52), .binOp .sub 3 (.tmp 49) (.tmp 51) 3, 3, none, []⟩,
      ⟨(some 53), .binOp .lss 3 (.tmp 52) (.const (.int .i64 300)) 3, 4, none, []⟩,
      ⟨(some 12), .assign (.tmp 53), 4, none, []⟩])
    .ret)
    .skip))
  (.seq (.reg [⟨(some 54), .fieldAddr 35 (.tmp 14) 5, 0, none, []⟩,
    ⟨(some 55), .load 3 (.tmp 54), 3, none, []⟩,
    ⟨(some 56), .fieldAddr 35 (.tmp 14) 4, 0, none, []⟩,
    ⟨(some 57), .load 3 (.tmp 56), 3, none, []⟩,
    ⟨(some 58), .binOp .add 3 (.tmp 57) (.const (.int .i64 1)) 3, 3, none, []⟩,
    ⟨(some 59), .binOp .mul 3 (.const (.int .i64 300)) (.tmp 58) 3, 3, none, []⟩,
    ⟨(some 60), .binOp .add 3 (.tmp 55) (.tmp 59) 3, 3, none, []⟩,
    ⟨(some 16), .assign (.tmp 60), 3, none, []⟩])
  (.seq (.reg [⟨(some 61), .fieldAddr 35 (.tmp 14) 1, 0, none, []⟩,
    ⟨(some 62), .load 23 (.tmp 61), 23, none, []⟩,
    ⟨(some 63), .fieldAddr 27 (.tmp 13) 0, 0, none, []⟩,
    ⟨(some 64), .load 23 (.tmp 63), 23, none, []⟩,
    ⟨(some 65), .binOp .eql 23 (.tmp 62) (.tmp 64) 23, 4, none, []⟩,
    ⟨(some 66), .move (.tmp 65), 4, none, []⟩,
    ⟨(some 67), .fieldAddr 35 (.tmp 14) 6, 0, some (66, true), []⟩,
    ⟨(some 68), .load 9 (.tmp 67), 9, some (66, true), []⟩,
    ⟨(some 69), .fieldAddr 27 (.tmp 13) 1, 0, some (66, true), []⟩,
    ⟨(some 70), .fieldAddr 23 (.tmp 69) 0, 0, some (66, true), []⟩,
    ⟨(some 71), .load 9 (.tmp 70), 9, some (66, true), []⟩,
    ⟨(some 72), .binOp .eql 9 (.tmp 68) (.tmp 71) 9, 4, some (66, true), []⟩,
    ⟨(some 73), .pick (.tmp 66) (.tmp 72) (.const (.bool false)), 4, none, []⟩,
    ⟨(some 74), .move (.tmp 73), 4, none, []⟩,
    ⟨(some 75), .fieldAddr 35 (.tmp 14) 7, 0, some (74, true), []⟩,
    ⟨(some 76), .load 9 (.tmp 75), 9, some (74, true), []⟩,
    ⟨(some 77), .fieldAddr 27 (.tmp 13) 1, 0, some (74, true), []⟩,
    ⟨(some 78), .fieldAddr 23 (.tmp 77) 1, 0, some (74, true), []⟩,
    ⟨(some 79), .load 9 (.tmp 78), 9, some (74, true), []⟩,
    ⟨(some 80), .binOp .eql 9 (.tmp 76) (.tmp 79) 9, 4, some (74, true), []⟩,
    ⟨(some 81), .pick (.tmp 74) (.tmp 80) (.const (.bool false)), 4, none, []⟩,
    ⟨(some 82), .move (.tmp 81), 4, none, []⟩,
    ⟨(some 83), .fieldAddr 35 (.tmp 14) 3, 0, some (82, true), []⟩,
    ⟨(some 84), .load 25 (.tmp 83), 25, some (82, true), []⟩,
    ⟨(some 85), .fieldAddr 27 (.tmp 13) 2, 0, some (82, true), []⟩,
    ⟨(some 86), .load 25 (.tmp 85), 25, some (82, true), []⟩,
    ⟨(some 87), .binOp .eql 25 (.tmp 84) (.tmp 86) 25, 4, some (82, true), []⟩,
    ⟨(some 88), .pick (.tmp 82) (.tmp 87) (.const (.bool false)), 4, none, []⟩,
    ⟨(some 89), .move (.tmp 88), 4, none, []⟩,
    ⟨(some 90), .fieldAddr 35 (.tmp 14) 2, 0, some (89, true), []⟩,
    ⟨(some 91), .load 3 (.tmp 90), 3, some (89, true), []⟩,
    ⟨(some 92), .fieldAddr 27 (.tmp 13) 5, 0, some (89, true), []⟩,
    ⟨(some 93), .load 3 (.tmp 92), 3, some (89, true), []⟩,
    ⟨(some 94), .binOp .eql 3 (.tmp 91) (.tmp 93) 3, 4, some (89, true), []⟩,
    ⟨(some 95), .pick (.tmp 89) (.tmp 94) (.const (.bool false)), 4, none, []⟩,
    ⟨(some 96), .move (.tmp 95), 4, none, []⟩,
    ⟨(some 97), .fieldAddr 35 (.tmp 14) 5, 0, some (96, true), []⟩,
    ⟨(some 98), .load 3 (.tmp 97), 3, some (96, true), []⟩,
    ⟨(some 99), .fieldAddr 27 (.tmp 13) 3, 0, some (96, true), []⟩,
    ⟨(some 100), .load 3 (.tmp 99), 3, some (96, true), []⟩,
    ⟨(some 101), .binOp .eql 3 (.tmp 98) (.tmp 100) 3, 4, some (96, true), []⟩,
    ⟨(some 102), .pick (.tmp 96) (.tmp 101) (.const (.bool false)), 4, none, []⟩,
    ⟨(some 103), .move (.tmp 102), 4, none, []⟩,
    ⟨(some 104), .fieldAddr 35 (.tmp 14) 0, 0, some (103, true), []⟩,
    ⟨(some 105), .load 4 (.tmp 104), 4, some (103, true), []⟩,
    ⟨(some 106), .unOp .not 4 (.tmp 105), 4, some (103, true), []⟩,
    ⟨(some 107), .pick (.tmp 103) (.tmp 106) (.const (.bool false)), 4, none, []⟩,
    ⟨(some 108), .move (.tmp 107), 4, none, []⟩,
    ⟨(some 109), .move (.tmp 16), 3, some (108, true), []⟩,
    ⟨(some 110), .fieldAddr 27 (.tmp 13) 4, 0, some (108, true), []⟩,
    ⟨(some 111), .load 3 (.tmp 110), 3, some (108, true), []⟩,
    ⟨(some 112), .binOp .leq 3 (.tmp 109) (.tmp 111) 3, 4, some (108, true), []⟩,
    ⟨(some 113), .pick (.tmp 108) (.tmp 112) (.const (.bool false)), 4, none, []⟩,
    ⟨(some 114), .move (.tmp 113), 4, none, []⟩,
    ⟨(some 115), .fieldAddr 35 (.tmp 14) 4, 0, some (114, true), []⟩,
    ⟨(some 116), .load 3 (.tmp 115), 3, some (114, true), []⟩,
    ⟨(some 117), .binOp .eql 3 (.tmp 116) (.const (.int .i64 255)) 3, 4, some (114, true), []⟩,
    ⟨(some 118), .move (.tmp 117), 4, some (114, true), []⟩,
    ⟨(some 119), .move (.tmp 16), 3, some (118, false), []⟩,
    ⟨(some 120), .binOp .add 3 (.tmp 119) (.const (.int .i64 300)) 3, 3, some (118, false), []⟩,
    ⟨(some 121), .fieldAddr 27 (.tmp 13) 4, 0, some (118, false), []⟩,
    ⟨(some 122), .load 3 (.tmp 121), 3, some (118, false), []⟩,
    ⟨(some 123), .binOp .gtr 3 (.tmp 120) (.tmp 122) 3, 4, some (118, false), []⟩,
    ⟨(some 124), .pick (.tmp 118) (.const (.bool true)) (.tmp 123), 4, some (114, true), []⟩,
    ⟨(some 125), .pick (.tmp 114) (.tmp 124) (.const (.bool false)), 4, none, []⟩,
    ⟨(some 12), .assign (.tmp 125), 4, none, []⟩])
  .ret))))))))
theorem l4 : slimF Hs 4 Try.f4 = some (126, s4, [.tmp 12]) := by kernel_rfl

/-! 5 kerbsuite/kerbsuitelaw3.KeyBytes -/
def s5_0 : SC :=
  (.seq (.seq (.reg [⟨(some 32), .move (.tmp 13), 3, none, []⟩,
    ⟨(some 33), .binOp .lss 3 (.tmp 32) (.const (.int .i64 2)) 3, 4, none, []⟩])
  (.cond (.tmp 33)
    .skip
    (.exit 0)))
  (.seq (.block 1 (.seq (.reg [⟨(some 36), .move (.tmp 0), 25, none, []⟩,
    ⟨(some 37), .move (.tmp 12), 25, none, []⟩,
    ⟨(some 38), .buildSlice 42 2 #[(0, (.tmp 36)), (1, (.tmp 37))], 42, none, []⟩,
    ⟨(some 39), .move (.tmp 13), 3, none, []⟩,
    ⟨(some 40), .indexAddr 42 (.tmp 38) (.tmp 39), 0, none, []⟩,
    ⟨(some 41), .load 25 (.tmp 40), 25, none, []⟩,
    ⟨(some 14), .assign (.tmp 41), 25, none, []⟩])
  (.seq (.reg [⟨(some 42), .move (.tmp 14), 25, none, []⟩,
    ⟨(some 43), .call ⟨.value (.func 23), #[(.tmp 42)], #[25]⟩, 40, none, []⟩,
    ⟨(some 15), .assign (.tmp 43), 40, none, []⟩])
  (.seq (.seq (.drw [(⟨(some 44), .move (.tmp 15), 40, none, []⟩, []),
    (⟨(some 45), .convert 40 9 (.tmp 44), 9, none, []⟩, []),
    (⟨(some 46), .move (.tmp 14), 25, none, []⟩, [1]),
    (⟨(some 47), .call ⟨.value (.func 24), #[(.tmp 46)], #[25]⟩, 40, none, []⟩, [0, 1]),
    (⟨(some 48), .convert 40 9 (.tmp 47), 9, none, []⟩, [0, 1]),
    (⟨(some 49), .binOp .neq 9 (.tmp 45) (.tmp 48) 9, 4, none, []⟩, [])])
  (.cond (.tmp 49)
    (.seq (.reg [⟨(some 10), .assign (.const (.bool false)), 4, none, []⟩])
    .ret)
    .skip))
  (.seq (.reg [⟨(some 51), .move (.tmp 15), 40, none, []⟩,
    ⟨(some 52), .call ⟨.value (.func 25), #[(.tmp 51)], #[40]⟩, 44, none, []⟩,
    ⟨(some 50), .move (.tmp 52), 44, none, []⟩,
    ⟨(some 53), .extract (.tmp 50) 0, 25, none, []⟩,
    ⟨(some 54), .extract (.tmp 50) 1, 4, none, []⟩,
    ⟨(some 16), .assign (.tmp 53), 25, none, []⟩,
    ⟨(some 17), .assign (.tmp 54), 4, none, []⟩])
  (.seq (.seq (.reg [⟨(some 55), .move (.tmp 17), 4, none, []⟩,
    ⟨(some 56), .move (.tmp 14), 25, none, []⟩,
    ⟨(some 57), .call ⟨.value (.func 26), #[(.tmp 56)], #[25]⟩, 4, none, []⟩,
    ⟨(some 58), .binOp .neq 4 (.tmp 55) (.tmp 57) 4, 4, none, []⟩,
    ⟨(some 59), .move (.tmp 58), 4, none, []⟩,
    ⟨(some 60), .move (.tmp 17), 4, some (59, false), []⟩,
    ⟨(some 61), .move (.tmp 60), 4, some (59, false), []⟩,
    ⟨(some 62), .move (.tmp 16), 25, some (61, true), []⟩,
    ⟨(some 63), .move (.tmp 14), 25, some (61, true), []⟩,
    ⟨(some 64), .binOp .neq 25 (.tmp 62) (.tmp 63) 25, 4, some (61, true), []⟩,
    ⟨(some 65), .pick (.tmp 61) (.tmp 64) (.const (.bool false)), 4, some (59, false), []⟩,
    ⟨(some 66), .pick (.tmp 59) (.const (.bool true)) (.tmp 65), 4, none, []⟩,
    ⟨(some 67), .move (.tmp 66), 4, none, []⟩,
    ⟨(some 68), .move (.tmp 17), 4, some (67, false), []⟩,
    ⟨(some 69), .unOp .not 4 (.tmp 68), 4, some (67, false), []⟩,
    ⟨(some 70), .move (.tmp 69), 4, some (67, false), []⟩,
    ⟨(some 71), .move (.tmp 16), 25, some (70, true), []⟩,
    ⟨(some 72), .binOp .neq 25 (.tmp 71) (.const (.int .u64 0)) 25, 4, some (70, true), []⟩,
    ⟨(some 73), .pick (.tmp 70) (.tmp 72) (.const (.bool false)), 4, some (67, false), []⟩,
    ⟨(some 74), .pick (.tmp 67) (.const (.bool true)) (.tmp 73), 4, none, []⟩])
  (.cond (.tmp 74)
    (.seq (.reg [⟨(some 10), .assign (.const (.bool false)), 4, none, []⟩])
    .ret)
    .skip))
  (.seq (.reg [⟨(some 75), .move (.tmp 4), 5, none, []⟩,
    ⟨(some 76), .convert 5 3 (.tmp 75), 3, none, []⟩,
    ⟨(some 77), .move (.tmp 15), 40, none, []⟩,
    ⟨(some 78), .call ⟨.builtin .len, #[(.tmp 77)], #[40]⟩, 3, none, []⟩,
    ⟨(some 79), .binOp .neq 3 (.tmp 76) (.tmp 78) 3, 4, none, []⟩,
    ⟨(some 80), .move (.tmp 79), 4, none, []⟩,
    ⟨(some 81), .move (.tmp 4), 5, some (80, true), []⟩,
    ⟨(some 82), .convert 5 3 (.tmp 81), 3, some (80, true), []⟩,
    ⟨(some 83), .move (.tmp 15), 40, some (80, true), []⟩,
    ⟨(some 84), .call ⟨.builtin .len, #[(.tmp 83)], #[40]⟩, 3, some (80, true), []⟩,
    ⟨(some 85), .binOp .lss 3 (.tmp 82) (.tmp 84) 3, 4, some (80, true), []⟩,
    ⟨(some 86), .pick (.tmp 80) (.tmp 85) (.const (.bool false)), 4, none, []⟩])
  (.cond (.tmp 86)
    (.seq (.reg [⟨(some 88), .move (.tmp 15), 40, none, []⟩,
      ⟨(some 89), .move (.tmp 4), 5, none, []⟩,
      ⟨(some 90), .slice 40 (.tmp 88) none (some (.tmp 89)) none, 40, none, []⟩,
      ⟨(some 91), .call ⟨.value (.func 25), #[(.tmp 90)], #[40]⟩, 44, none, []⟩,
      ⟨(some 87), .move (.tmp 91), 44, none, []⟩,
      ⟨(some 92), .extract (.tmp 87) 0, 25, none, []⟩,
      ⟨(some 93), .extract (.tmp 87) 1, 4, none, []⟩,
      ⟨(some 17), .assign (.tmp 93), 4, none, []⟩])
    (.seq (.reg [⟨(some 94), .move (.tmp 17), 4, none, []⟩])
    (.cond (.tmp 94)
      (.seq (.reg [⟨(some 10), .assign (.const (.bool false)), 4, none, []⟩])
      .ret)
      .skip)))
    .skip))))))))
  (.reg [⟨(some 34), .move (.tmp 13), 3, none, []⟩,
    ⟨(some 35), .binOp .add 3 (.tmp 34) (.const (.int .i64 1)) 3, 3, none, []⟩,
    ⟨(some 13), .assign (.tmp 35), 3, none, []⟩])))
def s5 : SC :=
  (.seq (.reg [⟨(some 10), .assign (.const (.bool false)), 4, none, []⟩])
  (.seq (.seq (.reg [⟨(some 22), .call ⟨.value (.func 21), #[], #[]⟩, 4, none, []⟩,
    ⟨(some 23), .unOp .not 4 (.tmp 22), 4, none, []⟩])
  (.cond (.tmp 23)
    (.seq (.reg [⟨(some 10), .assign (.const (.bool false)), 4, none, []⟩])
    .ret)
    .skip))
  (.seq (.seq (.reg [⟨(some 24), .move (.tmp 1), 40, none, []⟩,
    ⟨(some 25), .call ⟨.builtin .len, #[(.tmp 24)], #[40]⟩, 3, none, []⟩,
    ⟨(some 26), .binOp .gtr 3 (.tmp 25) (.const (.int .i64 40)) 3, 4, none, []⟩])
  (.cond (.tmp 26)
    (.seq (.reg [⟨(some 10), .assign (.const (.bool true)), 4, none, []⟩])
    .ret)
    .skip))
  (.seq (.reg [⟨(some 11), .assign (.const (.int .i64 1)), 3, none, []⟩])
  (.seq (.seq (.reg [⟨(some 27), .move (.tmp 2), 4, none, []⟩])
  (.cond (.tmp 27)
    (.reg [⟨(some 11), .assign (.const (.int .i64 2)), 3, none, []⟩])
    .skip))
  (.seq (.reg [⟨(some 28), .move (.tmp 11), 3, none, []⟩,
    ⟨(some 29), .move (.tmp 3), 28, none, []⟩,
    ⟨(some 30), .convert 28 3 (.tmp 29), 3, none, []⟩,
    ⟨(some 31), .call ⟨.value (.func 22), #[(.tmp 28), (.tmp 30)], #[3, 3]⟩, 25, none, []⟩,
    ⟨(some 12), .assign (.tmp 31), 25, none, []⟩])
  (.seq (.seq (.reg [⟨(some 13), .assign (.const (.int .i64 0)), 3, none, []⟩])
  (.block 0 (.loop (some ([0, 1, 4, 12, 13], 0)) s5_0)))
  (.seq (.reg [⟨(some 96), .move (.tmp 1), 40, none, []⟩,
    ⟨(some 97), .call ⟨.value (.func 25), #[(.tmp 96)], #[40]⟩, 44, none, []⟩,
    ⟨(some 95), .move (.tmp 97), 44, none, []⟩,
    ⟨(some 98), .extract (.tmp 95) 0, 25, none, []⟩,
    ⟨(some 99), .extract (.tmp 95) 1, 4, none, []⟩,
    ⟨(some 18), .assign (.tmp 98), 25, none, []⟩,
    ⟨(some 19), .assign (.tmp 99), 4, none, []⟩])
  (.seq (.reg [⟨(some 101), .move (.tmp 1), 40, none, []⟩,
    ⟨(some 102), .call ⟨.value (.func 27), #[(.tmp 101)], #[40]⟩, 44, none, []⟩,
    ⟨(some 100), .move (.tmp 102), 44, none, []⟩,
    ⟨(some 103), .extract (.tmp 100) 0, 25, none, []⟩,
    ⟨(some 104), .extract (.tmp 100) 1, 4, none, []⟩,
    ⟨(some 20), .assign (.tmp 103), 25, none, []⟩,
    ⟨(some 21), .assign (.tmp 104), 4, none, []⟩])
  (.seq (.reg [⟨(some 105), .move (.tmp 18), 25, none, []⟩,
    ⟨(some 106), .move (.tmp 20), 25, none, []⟩,
    ⟨(some 107), .binOp .eql 25 (.tmp 105) (.tmp 106) 25, 4, none, []⟩,
    ⟨(some 108), .move (.tmp 107), 4, none, []⟩,
    ⟨(some 109), .move (.tmp 19), 4, some (108, true), []⟩,
    ⟨(some 110), .move (.tmp 21), 4, some (108, true), []⟩,
    ⟨(some 111), .binOp .eql 4 (.tmp 109) (.tmp 110) 4, 4, some (108, true), []⟩,
    ⟨(some 112), .pick (.tmp 108) (.tmp 111) (.const (.bool false)), 4, none, []⟩,
    ⟨(some 10), .assign (.tmp 112), 4, none, []⟩])
  .ret))))))))))
theorem l5 : slimF Hs 5 Try.f5 = some (113, s5, [.tmp 10]) := by kernel_rfl

/-! 6 kerbsuite/kerbsuitelaw16.ReplayChecks -/
def s6 : SC :=
  (.seq (.reg [⟨(some 7), .box 50 (.tmp 0), 0, none, []⟩,
    ⟨(some 14), .assign (.const (.bool false)), 4, none, []⟩])
  (.seq (.seq (.reg [⟨(some 26), .call ⟨.value (.func 28), #[], #[]⟩, 4, none, []⟩,
    ⟨(some 27), .unOp .not 4 (.tmp 26), 4, none, []⟩])
  (.cond (.tmp 27)
    (.seq (.reg [⟨(some 14), .assign (.const (.bool false)), 4, none, []⟩])
    .ret)
    .skip))
  (.seq (.seq (.reg [⟨(some 28), .load 50 (.tmp 7), 50, none, []⟩,
    ⟨(some 29), .call ⟨.value (.func 29), #[(.tmp 28)], #[50]⟩, 4, none, []⟩,
    ⟨(some 30), .move (.tmp 29), 4, none, []⟩,
    ⟨(some 31), .move (.tmp 3), 51, some (30, false), []⟩,
    ⟨(some 32), .call ⟨.builtin .len, #[(.tmp 31)], #[51]⟩, 3, some (30, false), []⟩,
    ⟨(some 33), .binOp .gtr 3 (.tmp 32) (.const (.int .i64 60)) 3, 4, some (30, false), []⟩,
    ⟨(some 34), .pick (.tmp 30) (.const (.bool true)) (.tmp 33), 4, none, []⟩])
  (.cond (.tmp 34)
    (.seq (.reg [⟨(some 14), .assign (.const (.bool true)), 4, none, []⟩])
    .ret)
    .skip))
  (.seq (.reg [⟨(some 36), .move (.tmp 1), 5, none, []⟩,
    ⟨(some 37), .move (.tmp 2), 5, none, []⟩,
    ⟨(some 38), .move (.tmp 3), 51, none, []⟩,
    ⟨(some 39), .call ⟨.value (.func 30), #[(.tmp 36), (.tmp 37), (.tmp 38)], #[5, 5, 51]⟩, 53, none, []⟩,
    ⟨(some 35), .move (.tmp 39), 53, none, []⟩,
    ⟨(some 40), .extract (.tmp 35) 0, 50, none, []⟩,
    ⟨(some 41), .extract (.tmp 35) 1, 3, none, []⟩,
    ⟨(some 15), .alloc 50, 0, none, []⟩,
    ⟨none, .store 50 (.tmp 15) (.tmp 40), 0, none, []⟩,
    ⟨(some 16), .assign (.tmp 41), 3, none, []⟩])
  (.seq (.seq (.drw [(⟨(some 42), .load 50 (.tmp 15), 50, none, []⟩, []),
    (⟨(some 43), .call ⟨.value (.func 31), #[(.tmp 42)], #[50]⟩, 55, none, []⟩, []),
    (⟨(some 44), .binOp .neq 55 (.tmp 43) (.const (.int .i64 0)) 55, 4, none, []⟩, []),
    (⟨(some 45), .move (.tmp 44), 4, none, []⟩, []),
    (⟨(some 46), .load 50 (.tmp 7), 50, some (45, false), []⟩, []),
    (⟨(some 47), .call ⟨.value (.func 31), #[(.tmp 46)], #[50]⟩, 55, some (45, false), []⟩, []),
    (⟨(some 48), .load 50 (.tmp 7), 50, some (45, false), []⟩, [4, 5]),
    (⟨(some 49), .call ⟨.value (.func 32), #[(.tmp 48)], #[50]⟩, 55, some (45, false), []⟩, []),
    (⟨(some 50), .binOp .neq 55 (.tmp 47) (.tmp 49) 55, 4, some (45, false), []⟩, []),
    (⟨(some 51), .pick (.tmp 45) (.const (.bool true)) (.tmp 50), 4, none, []⟩, [])])
  (.cond (.tmp 51)
    (.seq (.reg [⟨(some 14), .assign (.const (.bool false)), 4, none, []⟩])
    .ret)
    .skip))
  (.seq (.reg [⟨(some 52), .buildSlice 48 0 #[], 48, none, []⟩,
    ⟨(some 53), .fieldAddr 50 (.tmp 15) 2, 0, none, []⟩,
    ⟨(some 54), .load 48 (.tmp 53), 48, none, []⟩,
    ⟨(some 55), .call ⟨.builtin .append, #[(.tmp 52), (.tmp 54)], #[48, 48]⟩, 48, none, []⟩,
    ⟨(some 56), .fieldAddr 50 (.tmp 15) 2, 0, none, []⟩,
    ⟨none, .store 48 (.tmp 56) (.tmp 55), 0, none, []⟩])
  (.seq (.seq (.reg [⟨(some 57), .move (.tmp 4), 5, none, []⟩,
    ⟨(some 58), .binOp .rem 5 (.tmp 57) (.const (.int .u8 7)) 5, 5, none, []⟩])
  (.block 0 (.seq (.reg [⟨(some 60), .binOp .eql 5 (.tmp 58) (.const (.int .u8 0)) 5, 4, none, []⟩,
    ⟨(some 59), .assign (.tmp 60), 4, none, []⟩])
  (.cond (.tmp 59)
    (.reg [⟨(some 61), .move (.tmp 6), 3, none, []⟩,
      ⟨(some 62), .fieldAddr 50 (.tmp 15) 2, 0, none, []⟩,
      ⟨(some 63), .load 48 (.tmp 62), 48, none, []⟩,
      ⟨(some 64), .call ⟨.builtin .len, #[(.tmp 63)], #[48]⟩, 3, none, []⟩,
      ⟨(some 65), .binOp .sub 3 (.tmp 64) (.const (.int .i64 1)) 3, 3, none, []⟩,
      ⟨(some 66), .buildSlice 57 5 #[(0, (.tmp 61)), (1, (.const (.int .i64 0))), (2, (.const (.int .i64 40))), (3, (.const (.int .i64 41))), (4, (.tmp 65))], 57, none, []⟩,
      ⟨(some 67), .move (.tmp 5), 5, none, []⟩,
      ⟨(some 68), .convert 5 3 (.tmp 67), 3, none, []⟩,
      ⟨(some 69), .binOp .rem 3 (.tmp 68) (.const (.int .i64 5)) 3, 3, none, []⟩,
      ⟨(some 70), .indexAddr 57 (.tmp 66) (.tmp 69), 0, none, []⟩,
      ⟨(some 71), .load 3 (.tmp 70), 3, none, []⟩,
      ⟨(some 72), .fieldAddr 50 (.tmp 15) 0, 0, none, []⟩,
      ⟨none, .store 3 (.tmp 72) (.tmp 71), 0, none, []⟩])
    (.seq (.reg [⟨(some 74), .binOp .eql 5 (.tmp 58) (.const (.int .u8 1)) 5, 4, none, []⟩,
      ⟨(some 73), .assign (.tmp 74), 4, none, []⟩])
    (.cond (.tmp 73)
      (.reg [⟨(some 75), .move (.tmp 6), 3, none, []⟩,
        ⟨(some 76), .fieldAddr 50 (.tmp 15) 1, 0, none, []⟩,
        ⟨(some 77), .load 3 (.tmp 76), 3, none, []⟩,
        ⟨(some 78), .binOp .add 3 (.tmp 77) (.const (.int .i64 1)) 3, 3, none, []⟩,
        ⟨(some 79), .buildSlice 57 5 #[(0, (.tmp 75)), (1, (.const (.int .i64 (-1)))), (2, (.const (.int .i64 4294967295))), (3, (.const (.int .i64 4294967296))), (4, (.tmp 78))], 57, none, []⟩,
        ⟨(some 80), .move (.tmp 5), 5, none, []⟩,
        ⟨(some 81), .convert 5 3 (.tmp 80), 3, none, []⟩,
        ⟨(some 82), .binOp .rem 3 (.tmp 81) (.const (.int .i64 5)) 3, 3, none, []⟩,
        ⟨(some 83), .indexAddr 57 (.tmp 79) (.tmp 82), 0, none, []⟩,
        ⟨(some 84), .load 3 (.tmp 83), 3, none, []⟩,
        ⟨(some 85), .fieldAddr 50 (.tmp 15) 1, 0, none, []⟩,
        ⟨none, .store 3 (.tmp 85) (.tmp 84), 0, none, []⟩])
      (.seq (.reg [⟨(some 87), .binOp .eql 5 (.tmp 58) (.const (.int .u8 2)) 5, 4, none, []⟩,
        ⟨(some 86), .assign (.tmp 87), 4, none, []⟩])
      (.cond (.tmp 86)
        (.drw [(⟨(some 88), .fieldAddr 50 (.tmp 15) 2, 0, none, []⟩, []),
          (⟨(some 89), .load 48 (.tmp 88), 48, none, []⟩, []),
          (⟨(some 90), .move (.tmp 5), 5, none, []⟩, [1]),
          (⟨(some 91), .build 61 #[(0, (.tmp 90))], 61, none, []⟩, [1]),
          (⟨(some 92), .call ⟨.value (.func 33), #[(.tmp 91)], #[61]⟩, 59, none, []⟩, [0, 1]),
          (⟨(some 93), .buildSlice 48 1 #[(0, (.tmp 92))], 48, none, []⟩, [0, 1]),
          (⟨(some 94), .call ⟨.builtin .append, #[(.tmp 89), (.tmp 93)], #[48, 48]⟩, 48, none, []⟩, []),
          (⟨(some 95), .fieldAddr 50 (.tmp 15) 2, 0, none, []⟩, []),
          (⟨none, .store 48 (.tmp 95) (.tmp 94), 0, none, []⟩, [])])
        .skip))))))))
  (.seq (.seq (.reg [⟨(some 96), .fieldAddr 50 (.tmp 15) 2, 0, none, []⟩,
    ⟨(some 97), .load 48 (.tmp 96), 48, none, []⟩,
    ⟨(some 98), .call ⟨.builtin .len, #[(.tmp 97)], #[48]⟩, 3, none, []⟩,
    ⟨(some 99), .binOp .gtr 3 (.tmp 98) (.const (.int .i64 0)) 3, 4, none, []⟩])
  (.cond (.tmp 99)
    (.seq (.reg [⟨(some 100), .move (.tmp 5), 5, none, []⟩,
      ⟨(some 101), .convert 5 3 (.tmp 100), 3, none, []⟩,
      ⟨(some 102), .fieldAddr 50 (.tmp 15) 2, 0, none, []⟩,
      ⟨(some 103), .load 48 (.tmp 102), 48, none, []⟩,
      ⟨(some 104), .call ⟨.builtin .len, #[(.tmp 103)], #[48]⟩, 3, none, []⟩,
      ⟨(some 105), .binOp .rem 3 (.tmp 101) (.tmp 104) 3, 3, none, []⟩,
      ⟨(some 17), .assign (.tmp 105), 3, none, []⟩])
    (.seq (.reg [⟨(some 106), .move (.tmp 4), 5, none, []⟩,
      ⟨(some 107), .binOp .rem 5 (.tmp 106) (.const (.int .u8 7)) 5, 5, none, []⟩])
    (.block 1 (.seq (.reg [⟨(some 109), .binOp .eql 5 (.tmp 107) (.const (.int .u8 3)) 5, 4, none, []⟩,
      ⟨(some 108), .assign (.tmp 109), 4, none, []⟩])
    (.cond (.tmp 108)
      (.reg [⟨(some 110), .fieldAddr 50 (.tmp 15) 2, 0, none, []⟩,
        ⟨(some 111), .load 48 (.tmp 110), 48, none, []⟩,
        ⟨(some 112), .move (.tmp 17), 3, none, []⟩,
        ⟨(some 113), .move (.tmp 6), 3, none, []⟩,
        ⟨(some 114), .indexAddr 48 (.tmp 111) (.tmp 112), 0, none, []⟩,
        ⟨(some 115), .fieldAddr 59 (.tmp 114) 1, 0, none, []⟩,
        ⟨none, .store 3 (.tmp 115) (.tmp 113), 0, none, []⟩])
      (.seq (.reg [⟨(some 117), .binOp .eql 5 (.tmp 107) (.const (.int .u8 4)) 5, 4, none, []⟩,
        ⟨(some 116), .assign (.tmp 117), 4, none, []⟩])
      (.cond (.tmp 116)
        (.reg [⟨(some 118), .fieldAddr 50 (.tmp 15) 2, 0, none, []⟩,
          ⟨(some 119), .load 48 (.tmp 118), 48, none, []⟩,
          ⟨(some 120), .move (.tmp 17), 3, none, []⟩,
          ⟨(some 121), .move (.tmp 5), 5, none, []⟩,
          ⟨(some 122), .convert 5 3 (.tmp 121), 3, none, []⟩,
          ⟨(some 123), .binOp .rem 3 (.tmp 122) (.const (.int .i64 2)) 3, 3, none, []⟩,
          ⟨(some 124), .binOp .add 3 (.const (.int .i64 199)) (.tmp 123) 3, 3, none, []⟩,
          ⟨(some 125), .indexAddr 48 (.tmp 119) (.tmp 120), 0, none, []⟩,
          ⟨(some 126), .fieldAddr 59 (.tmp 125) 2, 0, none, []⟩,
          ⟨none, .store 3 (.tmp 126) (.tmp 124), 0, none, []⟩])
        (.seq (.reg [⟨(some 128), .binOp .eql 5 (.tmp 107) (.const (.int .u8 5)) 5, 4, none, []⟩,
          ⟨(some 127), .assign (.tmp 128), 4, none, []⟩])
        (.cond (.tmp 127)
          (.drw [(⟨(some 129), .fieldAddr 50 (.tmp 15) 2, 0, none, []⟩, []),
            (⟨(some 130), .load 48 (.tmp 129), 48, none, []⟩, []),
            (⟨(some 131), .move (.tmp 17), 3, none, []⟩, [1]),
            (⟨(some 132), .fieldAddr 50 (.tmp 15) 2, 0, none, []⟩, [1]),
            (⟨(some 133), .load 48 (.tmp 132), 48, none, []⟩, [0, 1, 2]),
            (⟨(some 134), .indexAddr 48 (.tmp 133) (.const (.int .i64 0)), 0, none, []⟩, [0, 1, 2]),
            (⟨(some 135), .load 59 (.tmp 134), 59, none, []⟩, [0, 1, 2]),
            (⟨(some 136), .indexAddr 48 (.tmp 130) (.tmp 131), 0, none, []⟩, []),
            (⟨none, .store 59 (.tmp 136) (.tmp 135), 0, none, []⟩, [])])
          (.seq (.reg [⟨(some 138), .binOp .eql 5 (.tmp 107) (.const (.int .u8 6)) 5, 4, none, []⟩,
            ⟨(some 137), .assign (.tmp 138), 4, none, []⟩])
          (.cond (.tmp 137)
            (.reg [⟨(some 139), .fieldAddr 50 (.tmp 15) 2, 0, none, []⟩,
              ⟨(some 140), .load 48 (.tmp 139), 48, none, []⟩,
              ⟨(some 141), .move (.tmp 17), 3, none, []⟩,
              ⟨(some 142), .indexAddr 48 (.tmp 140) (.tmp 141), 0, none, []⟩,
              ⟨(some 143), .fieldAddr 59 (.tmp 142) 0, 0, none, []⟩,
              ⟨(some 144), .fieldAddr 23 (.tmp 143) 2, 0, none, []⟩,
              ⟨none, .store 9 (.tmp 144) (.const (.string ⟨#[]⟩)), 0, none, []⟩])
            .skip)))))))))))
    .skip))
  (.seq (.reg [⟨(some 146), .move (.tmp 6), 3, none, []⟩,
    ⟨(some 147), .call ⟨.value (.func 34), #[(.tmp 146)], #[3]⟩, 63, none, []⟩,
    ⟨(some 145), .move (.tmp 147), 63, none, []⟩,
    ⟨(some 148), .extract (.tmp 145) 0, 50, none, []⟩,
    ⟨(some 149), .extract (.tmp 145) 1, 55, none, []⟩,
    ⟨(some 18), .alloc 50, 0, none, []⟩,
    ⟨none, .store 50 (.tmp 18) (.tmp 148), 0, none, []⟩,
    ⟨(some 19), .assign (.tmp 149), 55, none, []⟩])
  (.seq (.reg [⟨(some 151), .move (.tmp 6), 3, none, []⟩,
    ⟨(some 152), .call ⟨.value (.func 35), #[(.tmp 151)], #[3]⟩, 63, none, []⟩,
    ⟨(some 150), .move (.tmp 152), 63, none, []⟩,
    ⟨(some 153), .extract (.tmp 150) 0, 50, none, []⟩,
    ⟨(some 154), .extract (.tmp 150) 1, 55, none, []⟩,
    ⟨(some 20), .alloc 50, 0, none, []⟩,
    ⟨none, .store 50 (.tmp 20) (.tmp 153), 0, none, []⟩,
    ⟨(some 21), .assign (.tmp 154), 55, none, []⟩])
  (.seq (.reg [⟨(some 156), .move (.tmp 5), 5, none, []⟩,
    ⟨(some 157), .convert 5 3 (.tmp 156), 3, none, []⟩,
    ⟨(some 158), .binOp .rem 3 (.tmp 157) (.const (.int .i64 43)) 3, 3, none, []⟩,
    ⟨(some 159), .call ⟨.value (.func 34), #[(.tmp 158)], #[3]⟩, 63, none, []⟩,
    ⟨(some 155), .move (.tmp 159), 63, none, []⟩,
    ⟨(some 160), .extract (.tmp 155) 0, 50, none, []⟩,
    ⟨(some 161), .extract (.tmp 155) 1, 55, none, []⟩,
    ⟨(some 22), .alloc 50, 0, none, []⟩,
    ⟨none, .store 50 (.tmp 22) (.tmp 160), 0, none, []⟩,
    ⟨(some 23), .assign (.tmp 161), 55, none, []⟩])
  (.seq (.reg [⟨(some 163), .move (.tmp 5), 5, none, []⟩,
    ⟨(some 164), .convert 5 3 (.tmp 163), 3, none, []⟩,
    ⟨(some 165), .binOp .rem 3 (.tmp 164) (.const (.int .i64 43)) 3, 3, none, []⟩,
    ⟨(some 166), .call ⟨.value (.func 35), #[(.tmp 165)], #[3]⟩, 63, none, []⟩,
    ⟨(some 162), .move (.tmp 166), 63, none, []⟩,
    ⟨(some 167), .extract (.tmp 162) 0, 50, none, []⟩,
    ⟨(some 168), .extract (.tmp 162) 1, 55, none, []⟩,
    ⟨(some 24), .alloc 50, 0, none, []⟩,
    ⟨none, .store 50 (.tmp 24) (.tmp 167), 0, none, []⟩,
    ⟨(some 25), .assign (.tmp 168), 55, none, []⟩])
  (.seq (.drw [(⟨(some 169), .load 50 (.tmp 15), 50, none, []⟩, []),
    (⟨(some 170), .call ⟨.value (.func 31), #[(.tmp 169)], #[50]⟩, 55, none, []⟩, []),
    (⟨(some 171), .load 50 (.tmp 15), 50, none, []⟩, [0, 1]),
    (⟨(some 172), .call ⟨.value (.func 32), #[(.tmp 171)], #[50]⟩, 55, none, []⟩, []),
    (⟨(some 173), .binOp .eql 55 (.tmp 170) (.tmp 172) 55, 4, none, []⟩, []),
    (⟨(some 174), .move (.tmp 173), 4, none, []⟩, []),
    (⟨(some 175), .load 50 (.tmp 18), 50, some (174, true), []⟩, []),
    (⟨(some 176), .load 50 (.tmp 20), 50, some (174, true), []⟩, [6]),
    (⟨(some 177), .call ⟨.value (.func 36), #[(.tmp 175), (.tmp 176)], #[50, 50]⟩, 4, some (174, true), []⟩, []),
    (⟨(some 178), .pick (.tmp 174) (.tmp 177) (.const (.bool false)), 4, none, []⟩, []),
    (⟨(some 179), .move (.tmp 178), 4, none, []⟩, []),
    (⟨(some 180), .move (.tmp 19), 55, some (179, true), []⟩, []),
    (⟨(some 181), .move (.tmp 21), 55, some (179, true), []⟩, []),
    (⟨(some 182), .binOp .eql 55 (.tmp 180) (.tmp 181) 55, 4, some (179, true), []⟩, []),
    (⟨(some 183), .pick (.tmp 179) (.tmp 182) (.const (.bool false)), 4, none, []⟩, []),
    (⟨(some 184), .move (.tmp 183), 4, none, []⟩, []),
    (⟨(some 185), .load 50 (.tmp 22), 50, some (184, true), []⟩, []),
    (⟨(some 186), .load 50 (.tmp 24), 50, some (184, true), []⟩, [16]),
    (⟨(some 187), .call ⟨.value (.func 36), #[(.tmp 185), (.tmp 186)], #[50, 50]⟩, 4, some (184, true), []⟩, []),
    (⟨(some 188), .pick (.tmp 184) (.tmp 187) (.const (.bool false)), 4, none, []⟩, []),
    (⟨(some 189), .move (.tmp 188), 4, none, []⟩, []),
    (⟨(some 190), .move (.tmp 23), 55, some (189, true), []⟩, []),
    (⟨(some 191), .move (.tmp 25), 55, some (189, true), []⟩, []),
    (⟨(some 192), .binOp .eql 55 (.tmp 190) (.tmp 191) 55, 4, some (189, true), []⟩, []),
    (⟨(some 193), .pick (.tmp 189) (.tmp 192) (.const (.bool false)), 4, none, []⟩, []),
    (⟨(some 14), .assign (.tmp 193), 4, none, []⟩, [])])
  .ret)))))))))))))
theorem l6 : slimF Hs 6 Try.f6 = some (194, s6, [.tmp 14]) := by kernel_rfl

/-! 7 kerbsuite/kerbsuitelaw16.ReplayAdds -/
def s7_0 : SC :=
  (.seq (.seq (.reg [⟨(some 63), .move (.tmp 15), 3, none, []⟩,
    ⟨(some 64), .move (.tmp 2), 51, none, []⟩,
    ⟨(some 65), .call ⟨.builtin .len, #[(.tmp 64)], #[51]⟩, 3, none, []⟩,
    ⟨(some 66), .binOp .lss 3 (.tmp 63) (.tmp 65) 3, 4, none, []⟩])
  (.cond (.tmp 66)
    .skip
    (.exit 0)))
  (.seq (.block 1 (.seq (.drw [(⟨(some 69), .move (.tmp 2), 51, none, []⟩, []),
    (⟨(some 70), .move (.tmp 15), 3, none, []⟩, []),
    (⟨(some 71), .indexAddr 51 (.tmp 69) (.tmp 70), 0, none, []⟩, []),
    (⟨(some 72), .load 61 (.tmp 71), 61, none, []⟩, []),
    (⟨(some 73), .call ⟨.value (.func 33), #[(.tmp 72)], #[61]⟩, 59, none, []⟩, []),
    (⟨(some 74), .move (.tmp 2), 51, none, []⟩, [2, 3, 4]),
    (⟨(some 75), .move (.tmp 15), 3, none, []⟩, [2, 3, 4]),
    (⟨(some 76), .indexAddr 51 (.tmp 74) (.tmp 75), 0, none, []⟩, [0, 1, 2, 3, 4]),
    (⟨(some 77), .fieldAddr 61 (.tmp 76) 3, 0, none, []⟩, [2, 3, 4]),
    (⟨(some 78), .load 5 (.tmp 77), 5, none, []⟩, [0, 1, 2, 3, 4]),
    (⟨(some 79), .convert 5 3 (.tmp 78), 3, none, []⟩, [0, 1, 2, 3, 4]),
    (⟨(some 80), .binOp .quo 3 (.tmp 79) (.const (.int .i64 2)) 3, 3, none, []⟩, [2, 3, 4]),
    (⟨(some 81), .binOp .add 3 (.const (.int .i64 1000)) (.tmp 80) 3, 3, none, []⟩, [2, 3, 4]),
    (⟨(some 16), .alloc 59, 0, none, []⟩, [2, 3, 4, 7, 9, 10]),
    (⟨none, .store 59 (.tmp 16) (.tmp 73), 0, none, []⟩, [5, 6, 7, 8, 9, 10, 11, 12]),
    (⟨(some 17), .assign (.tmp 81), 3, none, []⟩, [])])
  (.seq (.reg [⟨(some 83), .load 50 (.tmp 13), 50, none, []⟩,
    ⟨(some 84), .load 59 (.tmp 16), 59, none, []⟩,
    ⟨(some 85), .move (.tmp 17), 3, none, []⟩,
    ⟨(some 86), .move (.tmp 1), 5, none, []⟩,
    ⟨(some 87), .convert 5 3 (.tmp 86), 3, none, []⟩,
    ⟨(some 88), .binOp .rem 3 (.tmp 87) (.const (.int .i64 40)) 3, 3, none, []⟩,
    ⟨(some 89), .call ⟨.value (.func 37), #[(.tmp 83), (.tmp 84), (.tmp 85), (.tmp 88)], #[50, 59, 3, 3]⟩, 63, none, []⟩,
    ⟨(some 82), .move (.tmp 89), 63, none, []⟩,
    ⟨(some 90), .extract (.tmp 82) 0, 50, none, []⟩,
    ⟨(some 91), .extract (.tmp 82) 1, 55, none, []⟩,
    ⟨(some 18), .alloc 50, 0, none, []⟩,
    ⟨none, .store 50 (.tmp 18) (.tmp 90), 0, none, []⟩,
    ⟨(some 19), .assign (.tmp 91), 55, none, []⟩])
  (.seq (.reg [⟨(some 93), .load 50 (.tmp 13), 50, none, []⟩,
    ⟨(some 94), .load 59 (.tmp 16), 59, none, []⟩,
    ⟨(some 95), .move (.tmp 17), 3, none, []⟩,
    ⟨(some 96), .move (.tmp 1), 5, none, []⟩,
    ⟨(some 97), .convert 5 3 (.tmp 96), 3, none, []⟩,
    ⟨(some 98), .binOp .rem 3 (.tmp 97) (.const (.int .i64 40)) 3, 3, none, []⟩,
    ⟨(some 99), .call ⟨.value (.func 38), #[(.tmp 93), (.tmp 94), (.tmp 95), (.tmp 98)], #[50, 59, 3, 3]⟩, 63, none, []⟩,
    ⟨(some 92), .move (.tmp 99), 63, none, []⟩,
    ⟨(some 100), .extract (.tmp 92) 0, 50, none, []⟩,
    ⟨(some 101), .extract (.tmp 92) 1, 55, none, []⟩,
    ⟨(some 20), .alloc 50, 0, none, []⟩,
    ⟨none, .store 50 (.tmp 20) (.tmp 100), 0, none, []⟩,
    ⟨(some 21), .assign (.tmp 101), 55, none, []⟩])
  (.seq (.seq (.drw [(⟨(some 102), .load 50 (.tmp 18), 50, none, []⟩, []),
    (⟨(some 103), .load 50 (.tmp 20), 50, none, []⟩, [0]),
    (⟨(some 104), .call ⟨.value (.func 36), #[(.tmp 102), (.tmp 103)], #[50, 50]⟩, 4, none, []⟩, []),
    (⟨(some 105), .unOp .not 4 (.tmp 104), 4, none, []⟩, []),
    (⟨(some 106), .move (.tmp 105), 4, none, []⟩, []),
    (⟨(some 107), .move (.tmp 19), 55, some (106, false), []⟩, []),
    (⟨(some 108), .move (.tmp 21), 55, some (106, false), []⟩, []),
    (⟨(some 109), .binOp .neq 55 (.tmp 107) (.tmp 108) 55, 4, some (106, false), []⟩, []),
    (⟨(some 110), .pick (.tmp 106) (.const (.bool true)) (.tmp 109), 4, none, []⟩, []),
    (⟨(some 111), .move (.tmp 110), 4, none, []⟩, []),
    (⟨(some 112), .load 50 (.tmp 13), 50, some (111, false), []⟩, []),
    (⟨(some 113), .load 59 (.tmp 16), 59, some (111, false), []⟩, [10]),
    (⟨(some 114), .call ⟨.value (.func 39), #[(.tmp 112), (.tmp 113)], #[50, 59]⟩, 4, some (111, false), []⟩, []),
    (⟨(some 115), .load 50 (.tmp 13), 50, some (111, false), []⟩, [10, 11, 12]),
    (⟨(some 116), .load 59 (.tmp 16), 59, some (111, false), []⟩, [10, 11, 12, 13]),
    (⟨(some 117), .call ⟨.value (.func 40), #[(.tmp 115), (.tmp 116)], #[50, 59]⟩, 4, some (111, false), []⟩, []),
    (⟨(some 118), .binOp .neq 4 (.tmp 114) (.tmp 117) 4, 4, some (111, false), []⟩, []),
    (⟨(some 119), .pick (.tmp 111) (.const (.bool true)) (.tmp 118), 4, none, []⟩, [])])
  (.cond (.tmp 119)
    (.seq (.reg [⟨(some 12), .assign (.const (.bool false)), 4, none, []⟩])
    .ret)
    .skip))
  (.seq (.reg [⟨(some 120), .move (.tmp 21), 55, none, []⟩,
    ⟨(some 121), .binOp .eql 55 (.tmp 120) (.const (.int .i64 0)) 55, 4, none, []⟩])
  (.cond (.tmp 121)
    (.reg [⟨(some 122), .load 50 (.tmp 20), 50, none, []⟩,
      ⟨none, .store 50 (.tmp 13) (.tmp 122), 0, none, []⟩])
    .skip)))))))
  (.reg [⟨(some 67), .move (.tmp 15), 3, none, []⟩,
    ⟨(some 68), .binOp .add 3 (.tmp 67) (.const (.int .i64 1)) 3, 3, none, []⟩,
    ⟨(some 15), .assign (.tmp 68), 3, none, []⟩])))
def s7_1 : SC :=
  (.seq (.seq (.reg [⟨(some 123), .move (.tmp 22), 3, none, []⟩,
    ⟨(some 124), .binOp .lss 3 (.tmp 123) (.const (.int .i64 3)) 3, 4, none, []⟩])
  (.cond (.tmp 124)
    .skip
    (.exit 2)))
  (.seq (.block 3 (.seq (.drw [(⟨(some 127), .move (.tmp 4), 3, none, []⟩, []),
    (⟨(some 128), .fieldAddr 59 (.tmp 9) 1, 0, none, []⟩, []),
    (⟨(some 129), .load 3 (.tmp 128), 3, none, []⟩, [0]),
    (⟨(some 130), .buildSlice 57 3 #[(0, (.tmp 127)), (1, (.tmp 129)), (2, (.const (.int .i64 1000)))], 57, none, []⟩, []),
    (⟨(some 131), .move (.tmp 22), 3, none, []⟩, [2, 3]),
    (⟨(some 132), .indexAddr 57 (.tmp 130) (.tmp 131), 0, none, []⟩, []),
    (⟨(some 133), .load 3 (.tmp 132), 3, none, []⟩, []),
    (⟨(some 134), .move (.tmp 5), 3, none, []⟩, [2, 3, 5, 6]),
    (⟨(some 135), .move (.tmp 1), 5, none, []⟩, [2, 3, 5, 6]),
    (⟨(some 136), .convert 5 3 (.tmp 135), 3, none, []⟩, [0, 1, 2, 3, 4, 5, 6, 7]),
    (⟨(some 137), .buildSlice 57 3 #[(0, (.tmp 134)), (1, (.const (.int .i64 300))), (2, (.tmp 136))], 57, none, []⟩, [0, 1, 2, 3, 4, 5, 6]),
    (⟨(some 138), .move (.tmp 22), 3, none, []⟩, [2, 3, 5, 6, 9, 10]),
    (⟨(some 139), .indexAddr 57 (.tmp 137) (.tmp 138), 0, none, []⟩, [0, 1, 2, 3, 4, 5, 6]),
    (⟨(some 140), .load 3 (.tmp 139), 3, none, []⟩, [0, 1, 2, 3, 4, 5, 6]),
    (⟨(some 23), .assign (.tmp 133), 3, none, []⟩, [9, 10, 12, 13]),
    (⟨(some 24), .assign (.tmp 140), 3, none, []⟩, [])])
  (.seq (.reg [⟨(some 142), .load 50 (.tmp 13), 50, none, []⟩,
    ⟨(some 143), .load 59 (.tmp 9), 59, none, []⟩,
    ⟨(some 144), .move (.tmp 23), 3, none, []⟩,
    ⟨(some 145), .move (.tmp 24), 3, none, []⟩,
    ⟨(some 146), .call ⟨.value (.func 37), #[(.tmp 142), (.tmp 143), (.tmp 144), (.tmp 145)], #[50, 59, 3, 3]⟩, 63, none, []⟩,
    ⟨(some 141), .move (.tmp 146), 63, none, []⟩,
    ⟨(some 147), .extract (.tmp 141) 0, 50, none, []⟩,
    ⟨(some 148), .extract (.tmp 141) 1, 55, none, []⟩,
    ⟨(some 25), .alloc 50, 0, none, []⟩,
    ⟨none, .store 50 (.tmp 25) (.tmp 147), 0, none, []⟩,
    ⟨(some 26), .assign (.tmp 148), 55, none, []⟩])
  (.seq (.reg [⟨(some 150), .load 50 (.tmp 13), 50, none, []⟩,
    ⟨(some 151), .load 59 (.tmp 9), 59, none, []⟩,
    ⟨(some 152), .move (.tmp 23), 3, none, []⟩,
    ⟨(some 153), .move (.tmp 24), 3, none, []⟩,
    ⟨(some 154), .call ⟨.value (.func 38), #[(.tmp 150), (.tmp 151), (.tmp 152), (.tmp 153)], #[50, 59, 3, 3]⟩, 63, none, []⟩,
    ⟨(some 149), .move (.tmp 154), 63, none, []⟩,
    ⟨(some 155), .extract (.tmp 149) 0, 50, none, []⟩,
    ⟨(some 156), .extract (.tmp 149) 1, 55, none, []⟩,
    ⟨(some 27), .alloc 50, 0, none, []⟩,
    ⟨none, .store 50 (.tmp 27) (.tmp 155), 0, none, []⟩,
    ⟨(some 28), .assign (.tmp 156), 55, none, []⟩])
  (.seq (.reg [⟨(some 157), .load 50 (.tmp 25), 50, none, []⟩,
    ⟨(some 158), .load 50 (.tmp 27), 50, none, []⟩,
    ⟨(some 159), .call ⟨.value (.func 36), #[(.tmp 157), (.tmp 158)], #[50, 50]⟩, 4, none, []⟩,
    ⟨(some 160), .unOp .not 4 (.tmp 159), 4, none, []⟩,
    ⟨(some 161), .move (.tmp 160), 4, none, []⟩,
    ⟨(some 162), .move (.tmp 26), 55, some (161, false), []⟩,
    ⟨(some 163), .move (.tmp 28), 55, some (161, false), []⟩,
    ⟨(some 164), .binOp .neq 55 (.tmp 162) (.tmp 163) 55, 4, some (161, false), []⟩,
    ⟨(some 165), .pick (.tmp 161) (.const (.bool true)) (.tmp 164), 4, none, []⟩])
  (.cond (.tmp 165)
    (.seq (.reg [⟨(some 12), .assign (.const (.bool false)), 4, none, []⟩])
    .ret)
    .skip))))))
  (.reg [⟨(some 125), .move (.tmp 22), 3, none, []⟩,
    ⟨(some 126), .binOp .add 3 (.tmp 125) (.const (.int .i64 1)) 3, 3, none, []⟩,
    ⟨(some 22), .assign (.tmp 126), 3, none, []⟩])))
def s7 : SC :=
  (.seq (.reg [⟨(some 9), .box 59 (.tmp 3), 0, none, []⟩,
    ⟨(some 12), .assign (.const (.bool false)), 4, none, []⟩])
  (.seq (.seq (.reg [⟨(some 29), .call ⟨.value (.func 28), #[], #[]⟩, 4, none, []⟩,
    ⟨(some 30), .unOp .not 4 (.tmp 29), 4, none, []⟩])
  (.cond (.tmp 30)
    (.seq (.reg [⟨(some 12), .assign (.const (.bool false)), 4, none, []⟩])
    .ret)
    .skip))
  (.seq (.seq (.reg [⟨(some 31), .move (.tmp 2), 51, none, []⟩,
    ⟨(some 32), .call ⟨.builtin .len, #[(.tmp 31)], #[51]⟩, 3, none, []⟩,
    ⟨(some 33), .binOp .gtr 3 (.tmp 32) (.const (.int .i64 60)) 3, 4, none, []⟩,
    ⟨(some 34), .move (.tmp 33), 4, none, []⟩,
    ⟨(some 35), .fieldAddr 59 (.tmp 9) 0, 0, some (34, false), []⟩,
    ⟨(some 36), .fieldAddr 23 (.tmp 35) 0, 0, some (34, false), []⟩,
    ⟨(some 37), .load 9 (.tmp 36), 9, some (34, false), []⟩,
    ⟨(some 38), .call ⟨.builtin .len, #[(.tmp 37)], #[9]⟩, 3, some (34, false), []⟩,
    ⟨(some 39), .binOp .gtr 3 (.tmp 38) (.const (.int .i64 100)) 3, 4, some (34, false), []⟩,
    ⟨(some 40), .pick (.tmp 34) (.const (.bool true)) (.tmp 39), 4, none, []⟩,
    ⟨(some 41), .move (.tmp 40), 4, none, []⟩,
    ⟨(some 42), .fieldAddr 59 (.tmp 9) 0, 0, some (41, false), []⟩,
    ⟨(some 43), .fieldAddr 23 (.tmp 42) 1, 0, some (41, false), []⟩,
    ⟨(some 44), .load 9 (.tmp 43), 9, some (41, false), []⟩,
    ⟨(some 45), .call ⟨.builtin .len, #[(.tmp 44)], #[9]⟩, 3, some (41, false), []⟩,
    ⟨(some 46), .binOp .gtr 3 (.tmp 45) (.const (.int .i64 100)) 3, 4, some (41, false), []⟩,
    ⟨(some 47), .pick (.tmp 41) (.const (.bool true)) (.tmp 46), 4, none, []⟩,
    ⟨(some 48), .move (.tmp 47), 4, none, []⟩,
    ⟨(some 49), .fieldAddr 59 (.tmp 9) 0, 0, some (48, false), []⟩,
    ⟨(some 50), .fieldAddr 23 (.tmp 49) 2, 0, some (48, false), []⟩,
    ⟨(some 51), .load 9 (.tmp 50), 9, some (48, false), []⟩,
    ⟨(some 52), .call ⟨.builtin .len, #[(.tmp 51)], #[9]⟩, 3, some (48, false), []⟩,
    ⟨(some 53), .binOp .gtr 3 (.tmp 52) (.const (.int .i64 100)) 3, 4, some (48, false), []⟩,
    ⟨(some 54), .pick (.tmp 48) (.const (.bool true)) (.tmp 53), 4, none, []⟩])
  (.cond (.tmp 54)
    (.seq (.reg [⟨(some 12), .assign (.const (.bool true)), 4, none, []⟩])
    .ret)
    .skip))
  (.seq (.reg [⟨(some 56), .move (.tmp 0), 5, none, []⟩,
    ⟨(some 57), .convert 5 3 (.tmp 56), 3, none, []⟩,
    ⟨(some 58), .binOp .rem 3 (.tmp 57) (.const (.int .i64 40)) 3, 3, none, []⟩,
    ⟨(some 59), .binOp .add 3 (.const (.int .i64 1)) (.tmp 58) 3, 3, none, []⟩,
    ⟨(some 60), .call ⟨.value (.func 35), #[(.tmp 59)], #[3]⟩, 63, none, []⟩,
    ⟨(some 55), .move (.tmp 60), 63, none, []⟩,
    ⟨(some 61), .extract (.tmp 55) 0, 50, none, []⟩,
    ⟨(some 62), .extract (.tmp 55) 1, 55, none, []⟩,
    ⟨(some 13), .alloc 50, 0, none, []⟩,
    ⟨none, .store 50 (.tmp 13) (.tmp 61), 0, none, []⟩,
    ⟨(some 14), .assign (.tmp 62), 55, none, []⟩])
  (.seq (.seq (.reg [⟨(some 15), .assign (.const (.int .i64 0)), 3, none, []⟩])
  (.block 0 (.loop (some ([1, 2, 4, 5, 9, 13, 15], 0)) s7_0)))
  (.seq (.seq (.reg [⟨(some 22), .assign (.const (.int .i64 0)), 3, none, []⟩])
  (.block 2 (.loop (some ([1, 4, 5, 9, 13, 22], 0)) s7_1)))
  (.seq (.drw [(⟨(some 166), .load 50 (.tmp 13), 50, none, []⟩, []),
    (⟨(some 167), .load 59 (.tmp 9), 59, none, []⟩, [0]),
    (⟨(some 168), .call ⟨.value (.func 39), #[(.tmp 166), (.tmp 167)], #[50, 59]⟩, 4, none, []⟩, []),
    (⟨(some 169), .load 50 (.tmp 13), 50, none, []⟩, [0, 1, 2]),
    (⟨(some 170), .load 59 (.tmp 9), 59, none, []⟩, [0, 1, 2, 3]),
    (⟨(some 171), .call ⟨.value (.func 40), #[(.tmp 169), (.tmp 170)], #[50, 59]⟩, 4, none, []⟩, []),
    (⟨(some 172), .binOp .eql 4 (.tmp 168) (.tmp 171) 4, 4, none, []⟩, []),
    (⟨(some 12), .assign (.tmp 172), 4, none, []⟩, [])])
  .ret)))))))
theorem l7 : slimF Hs 7 Try.f7 = some (173, s7, [.tmp 12]) := by kernel_rfl

/-! 8 kerbsuite/kerbsuitelaw16.ReplayAny -/
def s8_0 : SC :=
  (.seq (.seq (.reg [⟨(some 43), .move (.tmp 11), 3, none, []⟩,
    ⟨(some 44), .binOp .lss 3 (.tmp 43) (.const (.int .i64 2)) 3, 4, none, []⟩])
  (.cond (.tmp 44)
    .skip
    (.exit 0)))
  (.seq (.block 1 (.seq (.drw [(⟨(some 47), .load 59 (.tmp 6), 59, none, []⟩, []),
    (⟨(some 48), .load 61 (.tmp 9), 61, none, []⟩, [0]),
    (⟨(some 49), .call ⟨.value (.func 33), #[(.tmp 48)], #[61]⟩, 59, none, []⟩, [0]),
    (⟨(some 50), .buildSlice 48 2 #[(0, (.tmp 47)), (1, (.tmp 49))], 48, none, []⟩, []),
    (⟨(some 51), .move (.tmp 11), 3, none, []⟩, [0, 1, 2, 3]),
    (⟨(some 52), .indexAddr 48 (.tmp 50) (.tmp 51), 0, none, []⟩, []),
    (⟨(some 53), .load 59 (.tmp 52), 59, none, []⟩, []),
    (⟨(some 12), .alloc 59, 0, none, []⟩, [0, 1, 2, 3, 5, 6]),
    (⟨none, .store 59 (.tmp 12) (.tmp 53), 0, none, []⟩, [])])
  (.seq (.reg [⟨(some 54), .move (.tmp 2), 3, none, []⟩,
    ⟨(some 55), .fieldAddr 61 (.tmp 9) 3, 0, none, []⟩,
    ⟨(some 56), .load 5 (.tmp 55), 5, none, []⟩,
    ⟨(some 57), .convert 5 3 (.tmp 56), 3, none, []⟩,
    ⟨(some 58), .binOp .quo 3 (.tmp 57) (.const (.int .i64 2)) 3, 3, none, []⟩,
    ⟨(some 59), .binOp .add 3 (.const (.int .i64 1000)) (.tmp 58) 3, 3, none, []⟩,
    ⟨(some 60), .buildSlice 57 2 #[(0, (.tmp 54)), (1, (.tmp 59))], 57, none, []⟩,
    ⟨(some 61), .move (.tmp 11), 3, none, []⟩,
    ⟨(some 62), .indexAddr 57 (.tmp 60) (.tmp 61), 0, none, []⟩,
    ⟨(some 63), .load 3 (.tmp 62), 3, none, []⟩,
    ⟨(some 13), .assign (.tmp 63), 3, none, []⟩])
  (.seq (.reg [⟨(some 65), .load 50 (.tmp 5), 50, none, []⟩,
    ⟨(some 66), .load 59 (.tmp 12), 59, none, []⟩,
    ⟨(some 67), .move (.tmp 13), 3, none, []⟩,
    ⟨(some 68), .move (.tmp 3), 3, none, []⟩,
    ⟨(some 69), .call ⟨.value (.func 37), #[(.tmp 65), (.tmp 66), (.tmp 67), (.tmp 68)], #[50, 59, 3, 3]⟩, 63, none, []⟩,
    ⟨(some 64), .move (.tmp 69), 63, none, []⟩,
    ⟨(some 70), .extract (.tmp 64) 0, 50, none, []⟩,
    ⟨(some 71), .extract (.tmp 64) 1, 55, none, []⟩,
    ⟨(some 14), .alloc 50, 0, none, []⟩,
    ⟨none, .store 50 (.tmp 14) (.tmp 70), 0, none, []⟩,
    ⟨(some 15), .assign (.tmp 71), 55, none, []⟩])
  (.seq (.reg [⟨(some 73), .load 50 (.tmp 5), 50, none, []⟩,
    ⟨(some 74), .load 59 (.tmp 12), 59, none, []⟩,
    ⟨(some 75), .move (.tmp 13), 3, none, []⟩,
    ⟨(some 76), .move (.tmp 3), 3, none, []⟩,
    ⟨(some 77), .call ⟨.value (.func 38), #[(.tmp 73), (.tmp 74), (.tmp 75), (.tmp 76)], #[50, 59, 3, 3]⟩, 63, none, []⟩,
    ⟨(some 72), .move (.tmp 77), 63, none, []⟩,
    ⟨(some 78), .extract (.tmp 72) 0, 50, none, []⟩,
    ⟨(some 79), .extract (.tmp 72) 1, 55, none, []⟩,
    ⟨(some 16), .alloc 50, 0, none, []⟩,
    ⟨none, .store 50 (.tmp 16) (.tmp 78), 0, none, []⟩,
    ⟨(some 17), .assign (.tmp 79), 55, none, []⟩])
  (.seq (.drw [(⟨(some 80), .load 50 (.tmp 14), 50, none, []⟩, []),
    (⟨(some 81), .load 50 (.tmp 16), 50, none, []⟩, [0]),
    (⟨(some 82), .call ⟨.value (.func 36), #[(.tmp 80), (.tmp 81)], #[50, 50]⟩, 4, none, []⟩, []),
    (⟨(some 83), .unOp .not 4 (.tmp 82), 4, none, []⟩, []),
    (⟨(some 84), .move (.tmp 83), 4, none, []⟩, []),
    (⟨(some 85), .move (.tmp 15), 55, some (84, false), []⟩, []),
    (⟨(some 86), .move (.tmp 17), 55, some (84, false), []⟩, []),
    (⟨(some 87), .binOp .neq 55 (.tmp 85) (.tmp 86) 55, 4, some (84, false), []⟩, []),
    (⟨(some 88), .pick (.tmp 84) (.const (.bool true)) (.tmp 87), 4, none, []⟩, []),
    (⟨(some 89), .move (.tmp 88), 4, none, []⟩, []),
    (⟨(some 90), .load 50 (.tmp 5), 50, some (89, false), []⟩, []),
    (⟨(some 91), .load 59 (.tmp 12), 59, some (89, false), []⟩, [10]),
    (⟨(some 92), .call ⟨.value (.func 39), #[(.tmp 90), (.tmp 91)], #[50, 59]⟩, 4, some (89, false), []⟩, []),
    (⟨(some 93), .load 50 (.tmp 5), 50, some (89, false), []⟩, [10, 11, 12]),
    (⟨(some 94), .load 59 (.tmp 12), 59, some (89, false), []⟩, [10, 11, 12, 13]),
    (⟨(some 95), .call ⟨.value (.func 40), #[(.tmp 93), (.tmp 94)], #[50, 59]⟩, 4, some (89, false), []⟩, []),
    (⟨(some 96), .binOp .neq 4 (.tmp 92) (.tmp 95) 4, 4, some (89, false), []⟩, []),
    (⟨(some 97), .pick (.tmp 89) (.const (.bool true)) (.tmp 96), 4, none, []⟩, [])])
  (.cond (.tmp 97)
    (.seq (.reg [⟨(some 10), .assign (.const (.bool false)), 4, none, []⟩])
    .ret)
    .skip)))))))
  (.reg [⟨(some 45), .move (.tmp 11), 3, none, []⟩,
    ⟨(some 46), .binOp .add 3 (.tmp 45) (.const (.int .i64 1)) 3, 3, none, []⟩,
    ⟨(some 11), .assign (.tmp 46), 3, none, []⟩])))
def s8 : SC :=
  (.seq (.reg [⟨(some 5), .box 50 (.tmp 0), 0, none, []⟩,
    ⟨(some 6), .box 59 (.tmp 1), 0, none, []⟩,
    ⟨(some 9), .box 61 (.tmp 4), 0, none, []⟩,
    ⟨(some 10), .assign (.const (.bool false)), 4, none, []⟩])
  (.seq (.seq (.reg [⟨(some 18), .call ⟨.value (.func 28), #[], #[]⟩, 4, none, []⟩,
    ⟨(some 19), .unOp .not 4 (.tmp 18), 4, none, []⟩])
  (.cond (.tmp 19)
    (.seq (.reg [⟨(some 10), .assign (.const (.bool false)), 4, none, []⟩])
    .ret)
    .skip))
  (.seq (.seq (.reg [⟨(some 20), .load 50 (.tmp 5), 50, none, []⟩,
    ⟨(some 21), .call ⟨.value (.func 29), #[(.tmp 20)], #[50]⟩, 4, none, []⟩,
    ⟨(some 22), .move (.tmp 21), 4, none, []⟩,
    ⟨(some 23), .fieldAddr 59 (.tmp 6) 0, 0, some (22, false), []⟩,
    ⟨(some 24), .fieldAddr 23 (.tmp 23) 0, 0, some (22, false), []⟩,
    ⟨(some 25), .load 9 (.tmp 24), 9, some (22, false), []⟩,
    ⟨(some 26), .call ⟨.builtin .len, #[(.tmp 25)], #[9]⟩, 3, some (22, false), []⟩,
    ⟨(some 27), .binOp .gtr 3 (.tmp 26) (.const (.int .i64 100)) 3, 4, some (22, false), []⟩,
    ⟨(some 28), .pick (.tmp 22) (.const (.bool true)) (.tmp 27), 4, none, []⟩,
    ⟨(some 29), .move (.tmp 28), 4, none, []⟩,
    ⟨(some 30), .fieldAddr 59 (.tmp 6) 0, 0, some (29, false), []⟩,
    ⟨(some 31), .fieldAddr 23 (.tmp 30) 1, 0, some (29, false), []⟩,
    ⟨(some 32), .load 9 (.tmp 31), 9, some (29, false), []⟩,
    ⟨(some 33), .call ⟨.builtin .len, #[(.tmp 32)], #[9]⟩, 3, some (29, false), []⟩,
    ⟨(some 34), .binOp .gtr 3 (.tmp 33) (.const (.int .i64 100)) 3, 4, some (29, false), []⟩,
    ⟨(some 35), .pick (.tmp 29) (.const (.bool true)) (.tmp 34), 4, none, []⟩,
    ⟨(some 36), .move (.tmp 35), 4, none, []⟩,
    ⟨(some 37), .fieldAddr 59 (.tmp 6) 0, 0, some (36, false), []⟩,
    ⟨(some 38), .fieldAddr 23 (.tmp 37) 2, 0, some (36, false), []⟩,
    ⟨(some 39), .load 9 (.tmp 38), 9, some (36, false), []⟩,
    ⟨(some 40), .call ⟨.builtin .len, #[(.tmp 39)], #[9]⟩, 3, some (36, false), []⟩,
    ⟨(some 41), .binOp .gtr 3 (.tmp 40) (.const (.int .i64 100)) 3, 4, some (36, false), []⟩,
    ⟨(some 42), .pick (.tmp 36) (.const (.bool true)) (.tmp 41), 4, none, []⟩])
  (.cond (.tmp 42)
    (.seq (.reg [⟨(some 10), .assign (.const (.bool true)), 4, none, []⟩])
    .ret)
    .skip))
  (.seq (.seq (.reg [⟨(some 11), .assign (.const (.int .i64 0)), 3, none, []⟩])
  (.block 0 (.loop (some ([2, 3, 5, 6, 9, 11], 0)) s8_0)))
  (.seq (.reg [⟨(some 10), .assign (.const (.bool true)), 4, none, []⟩])
  .ret)))))
theorem l8 : slimF Hs 8 Try.f8 = some (98, s8, [.tmp 10]) := by kernel_rfl

/-! 9 kerbsuite/kerbsuitelaw16.ReplayOnce -/
def s9_0 : SC :=
  (.seq (.seq (.reg [⟨(some 61), .move (.tmp 14), 3, none, []⟩,
    ⟨(some 62), .move (.tmp 9), 48, none, []⟩,
    ⟨(some 63), .call ⟨.builtin .len, #[(.tmp 62)], #[48]⟩, 3, none, []⟩,
    ⟨(some 64), .binOp .lss 3 (.tmp 61) (.tmp 63) 3, 4, none, []⟩])
  (.cond (.tmp 64)
    .skip
    (.exit 2)))
  (.seq (.block 3 (.seq (.drw [(⟨(some 67), .move (.tmp 9), 48, none, []⟩, []),
    (⟨(some 68), .move (.tmp 14), 3, none, []⟩, []),
    (⟨(some 69), .indexAddr 48 (.tmp 67) (.tmp 68), 0, none, []⟩, []),
    (⟨(some 70), .load 59 (.tmp 69), 59, none, []⟩, []),
    (⟨(some 71), .load 59 (.tmp 11), 59, none, []⟩, [0, 1, 2, 3]),
    (⟨(some 72), .binOp .eql 59 (.tmp 70) (.tmp 71) 59, 4, none, []⟩, [])])
  (.cond (.tmp 72)
    (.seq (.reg [⟨(some 6), .assign (.const (.bool false)), 4, none, []⟩])
    .ret)
    .skip)))
  (.reg [⟨(some 65), .move (.tmp 14), 3, none, []⟩,
    ⟨(some 66), .binOp .add 3 (.tmp 65) (.const (.int .i64 1)) 3, 3, none, []⟩,
    ⟨(some 14), .assign (.tmp 66), 3, none, []⟩])))
def s9_1 : SC :=
  (.seq (.seq (.reg [⟨(some 31), .move (.tmp 10), 3, none, []⟩,
    ⟨(some 32), .move (.tmp 2), 51, none, []⟩,
    ⟨(some 33), .call ⟨.builtin .len, #[(.tmp 32)], #[51]⟩, 3, none, []⟩,
    ⟨(some 34), .binOp .lss 3 (.tmp 31) (.tmp 33) 3, 4, none, []⟩])
  (.cond (.tmp 34)
    .skip
    (.exit 0)))
  (.seq (.block 1 (.seq (.reg [⟨(some 37), .move (.tmp 2), 51, none, []⟩,
    ⟨(some 38), .move (.tmp 10), 3, none, []⟩,
    ⟨(some 39), .indexAddr 51 (.tmp 37) (.tmp 38), 0, none, []⟩,
    ⟨(some 40), .load 61 (.tmp 39), 61, none, []⟩,
    ⟨(some 41), .call ⟨.value (.func 33), #[(.tmp 40)], #[61]⟩, 59, none, []⟩,
    ⟨(some 11), .alloc 59, 0, none, []⟩,
    ⟨none, .store 59 (.tmp 11) (.tmp 41), 0, none, []⟩])
  (.seq (.drw [(⟨(some 43), .load 50 (.tmp 7), 50, none, []⟩, []),
    (⟨(some 44), .load 59 (.tmp 11), 59, none, []⟩, [0]),
    (⟨(some 45), .move (.tmp 2), 51, none, []⟩, [0, 1]),
    (⟨(some 46), .move (.tmp 10), 3, none, []⟩, [0, 1]),
    (⟨(some 47), .indexAddr 51 (.tmp 45) (.tmp 46), 0, none, []⟩, [0, 1]),
    (⟨(some 48), .fieldAddr 61 (.tmp 47) 3, 0, none, []⟩, [0, 1]),
    (⟨(some 49), .load 5 (.tmp 48), 5, none, []⟩, [0, 1]),
    (⟨(some 50), .convert 5 3 (.tmp 49), 3, none, []⟩, [0, 1]),
    (⟨(some 51), .binOp .quo 3 (.tmp 50) (.const (.int .i64 2)) 3, 3, none, []⟩, [0, 1]),
    (⟨(some 52), .binOp .add 3 (.const (.int .i64 1000)) (.tmp 51) 3, 3, none, []⟩, [0, 1]),
    (⟨(some 53), .move (.tmp 1), 5, none, []⟩, [0, 1, 4, 6, 7]),
    (⟨(some 54), .convert 5 3 (.tmp 53), 3, none, []⟩, [0, 1, 2, 3, 4, 5, 6, 7, 8, 9]),
    (⟨(some 55), .binOp .rem 3 (.tmp 54) (.const (.int .i64 40)) 3, 3, none, []⟩, [0, 1, 4, 6, 7]),
    (⟨(some 56), .call ⟨.value (.func 37), #[(.tmp 43), (.tmp 44), (.tmp 52), (.tmp 55)], #[50, 59, 3, 3]⟩, 63, none, []⟩, []),
    (⟨(some 42), .move (.tmp 56), 63, none, []⟩, []),
    (⟨(some 57), .extract (.tmp 42) 0, 50, none, []⟩, []),
    (⟨(some 58), .extract (.tmp 42) 1, 55, none, []⟩, []),
    (⟨(some 12), .alloc 50, 0, none, []⟩, [0, 1, 4, 6, 7, 11, 13]),
    (⟨none, .store 50 (.tmp 12) (.tmp 57), 0, none, []⟩, [16]),
    (⟨(some 13), .assign (.tmp 58), 55, none, []⟩, [])])
  (.seq (.seq (.reg [⟨(some 59), .move (.tmp 13), 55, none, []⟩,
    ⟨(some 60), .binOp .neq 55 (.tmp 59) (.const (.int .i64 0)) 55, 4, none, []⟩])
  (.cond (.tmp 60)
    (.exit 1)
    .skip))
  (.seq (.seq (.reg [⟨(some 14), .assign (.const (.int .i64 0)), 3, none, []⟩])
  (.block 2 (.loop (some ([1, 2, 7, 9, 10, 11, 12, 14], 0)) s9_0)))
  (.seq (.reg [⟨(some 73), .move (.tmp 9), 48, none, []⟩,
    ⟨(some 74), .load 59 (.tmp 11), 59, none, []⟩,
    ⟨(some 75), .buildSlice 48 1 #[(0, (.tmp 74))], 48, none, []⟩,
    ⟨(some 76), .call ⟨.builtin .append, #[(.tmp 73), (.tmp 75)], #[48, 48]⟩, 48, none, []⟩,
    ⟨(some 9), .assign (.tmp 76), 48, none, []⟩])
  (.seq (.seq (.reg [⟨(some 77), .fieldAddr 50 (.tmp 12) 1, 0, none, []⟩,
    ⟨(some 78), .load 3 (.tmp 77), 3, none, []⟩,
    ⟨(some 79), .fieldAddr 50 (.tmp 7) 1, 0, none, []⟩,
    ⟨(some 80), .load 3 (.tmp 79), 3, none, []⟩,
    ⟨(some 81), .binOp .lss 3 (.tmp 78) (.tmp 80) 3, 4, none, []⟩,
    ⟨(some 82), .move (.tmp 81), 4, none, []⟩,
    ⟨(some 83), .fieldAddr 50 (.tmp 12) 2, 0, some (82, false), []⟩,
    ⟨(some 84), .load 48 (.tmp 83), 48, some (82, false), []⟩,
    ⟨(some 85), .call ⟨.builtin .len, #[(.tmp 84)], #[48]⟩, 3, some (82, false), []⟩,
    ⟨(some 86), .fieldAddr 50 (.tmp 12) 0, 0, some (82, false), []⟩,
    ⟨(some 87), .load 3 (.tmp 86), 3, some (82, false), []⟩,
    ⟨(some 88), .binOp .gtr 3 (.tmp 85) (.tmp 87) 3, 4, some (82, false), []⟩,
    ⟨(some 89), .pick (.tmp 82) (.const (.bool true)) (.tmp 88), 4, none, []⟩,
    ⟨(some 90), .move (.tmp 89), 4, none, []⟩,
    ⟨(some 91), .load 50 (.tmp 12), 50, some (90, false), []⟩,
    ⟨(some 92), .call ⟨.value (.func 31), #[(.tmp 91)], #[50]⟩, 55, some (90, false), []⟩,
    ⟨(some 93), .binOp .neq 55 (.tmp 92) (.const (.int .i64 0)) 55, 4, some (90, false), []⟩,
    ⟨(some 94), .pick (.tmp 90) (.const (.bool true)) (.tmp 93), 4, none, []⟩,
    ⟨(some 95), .move (.tmp 94), 4, none, []⟩,
    ⟨(some 96), .load 50 (.tmp 12), 50, some (95, false), []⟩,
    ⟨(some 97), .load 59 (.tmp 11), 59, some (95, false), []⟩,
    ⟨(some 98), .call ⟨.value (.func 39), #[(.tmp 96), (.tmp 97)], #[50, 59]⟩, 4, some (95, false), []⟩,
    ⟨(some 99), .unOp .not 4 (.tmp 98), 4, some (95, false), []⟩,
    ⟨(some 100), .pick (.tmp 95) (.const (.bool true)) (.tmp 99), 4, none, []⟩])
  (.cond (.tmp 100)
    (.seq (.reg [⟨(some 6), .assign (.const (.bool false)), 4, none, []⟩])
    .ret)
    .skip))
  (.reg [⟨(some 101), .load 50 (.tmp 12), 50, none, []⟩,
    ⟨none, .store 50 (.tmp 7) (.tmp 101), 0, none, []⟩]))))))))
  (.reg [⟨(some 35), .move (.tmp 10), 3, none, []⟩,
    ⟨(some 36), .binOp .add 3 (.tmp 35) (.const (.int .i64 1)) 3, 3, none, []⟩,
    ⟨(some 10), .assign (.tmp 36), 3, none, []⟩])))
def s9_2 : SC :=
  (.seq (.seq (.reg [⟨(some 102), .move (.tmp 15), 3, none, []⟩,
    ⟨(some 103), .move (.tmp 9), 48, none, []⟩,
    ⟨(some 104), .call ⟨.builtin .len, #[(.tmp 103)], #[48]⟩, 3, none, []⟩,
    ⟨(some 105), .binOp .lss 3 (.tmp 102) (.tmp 104) 3, 4, none, []⟩])
  (.cond (.tmp 105)
    .skip
    (.exit 4)))
  (.seq (.block 5 (.seq (.drw [(⟨(some 108), .load 50 (.tmp 7), 50, none, []⟩, []),
    (⟨(some 109), .move (.tmp 9), 48, none, []⟩, [0]),
    (⟨(some 110), .move (.tmp 15), 3, none, []⟩, [0]),
    (⟨(some 111), .indexAddr 48 (.tmp 109) (.tmp 110), 0, none, []⟩, [0]),
    (⟨(some 112), .load 59 (.tmp 111), 59, none, []⟩, [0]),
    (⟨(some 113), .call ⟨.value (.func 39), #[(.tmp 108), (.tmp 112)], #[50, 59]⟩, 4, none, []⟩, []),
    (⟨(some 114), .unOp .not 4 (.tmp 113), 4, none, []⟩, []),
    (⟨(some 115), .move (.tmp 114), 4, none, []⟩, []),
    (⟨(some 116), .move (.tmp 9), 48, some (115, true), []⟩, []),
    (⟨(some 117), .move (.tmp 15), 3, some (115, true), []⟩, []),
    (⟨(some 118), .indexAddr 48 (.tmp 116) (.tmp 117), 0, some (115, true), []⟩, []),
    (⟨(some 119), .fieldAddr 59 (.tmp 118) 1, 0, some (115, true), []⟩, []),
    (⟨(some 120), .load 3 (.tmp 119), 3, some (115, true), []⟩, []),
    (⟨(some 121), .fieldAddr 50 (.tmp 7) 1, 0, some (115, true), []⟩, [10, 12]),
    (⟨(some 122), .load 3 (.tmp 121), 3, some (115, true), []⟩, [8, 9, 10, 11, 12]),
    (⟨(some 123), .binOp .geq 3 (.tmp 120) (.tmp 122) 3, 4, some (115, true), []⟩, []),
    (⟨(some 124), .pick (.tmp 115) (.tmp 123) (.const (.bool false)), 4, none, []⟩, [])])
  (.cond (.tmp 124)
    (.seq (.reg [⟨(some 6), .assign (.const (.bool false)), 4, none, []⟩])
    .ret)
    .skip)))
  (.reg [⟨(some 106), .move (.tmp 15), 3, none, []⟩,
    ⟨(some 107), .binOp .add 3 (.tmp 106) (.const (.int .i64 1)) 3, 3, none, []⟩,
    ⟨(some 15), .assign (.tmp 107), 3, none, []⟩])))
def s9 : SC :=
  (.seq (.reg [⟨(some 6), .assign (.const (.bool false)), 4, none, []⟩])
  (.seq (.seq (.reg [⟨(some 16), .call ⟨.value (.func 28), #[], #[]⟩, 4, none, []⟩,
    ⟨(some 17), .unOp .not 4 (.tmp 16), 4, none, []⟩])
  (.cond (.tmp 17)
    (.seq (.reg [⟨(some 6), .assign (.const (.bool false)), 4, none, []⟩])
    .ret)
    .skip))
  (.seq (.seq (.reg [⟨(some 18), .move (.tmp 2), 51, none, []⟩,
    ⟨(some 19), .call ⟨.builtin .len, #[(.tmp 18)], #[51]⟩, 3, none, []⟩,
    ⟨(some 20), .binOp .gtr 3 (.tmp 19) (.const (.int .i64 60)) 3, 4, none, []⟩])
  (.cond (.tmp 20)
    (.seq (.reg [⟨(some 6), .assign (.const (.bool true)), 4, none, []⟩])
    .ret)
    .skip))
  (.seq (.reg [⟨(some 22), .move (.tmp 0), 5, none, []⟩,
    ⟨(some 23), .convert 5 3 (.tmp 22), 3, none, []⟩,
    ⟨(some 24), .binOp .rem 3 (.tmp 23) (.const (.int .i64 40)) 3, 3, none, []⟩,
    ⟨(some 25), .binOp .add 3 (.const (.int .i64 1)) (.tmp 24) 3, 3, none, []⟩,
    ⟨(some 26), .call ⟨.value (.func 34), #[(.tmp 25)], #[3]⟩, 63, none, []⟩,
    ⟨(some 21), .move (.tmp 26), 63, none, []⟩,
    ⟨(some 27), .extract (.tmp 21) 0, 50, none, []⟩,
    ⟨(some 28), .extract (.tmp 21) 1, 55, none, []⟩,
    ⟨(some 7), .alloc 50, 0, none, []⟩,
    ⟨none, .store 50 (.tmp 7) (.tmp 27), 0, none, []⟩,
    ⟨(some 8), .assign (.tmp 28), 55, none, []⟩])
  (.seq (.seq (.reg [⟨(some 29), .move (.tmp 8), 55, none, []⟩,
    ⟨(some 30), .binOp .neq 55 (.tmp 29) (.const (.int .i64 0)) 55, 4, none, []⟩])
  (.cond (.tmp 30)
    (.seq (.reg [⟨(some 6), .assign (.const (.bool false)), 4, none, []⟩])
    .ret)
    .skip))
  (.seq (.reg [⟨(some 9), .assign (.const (.slice none 0 0)), 48, none, [0]⟩])
  (.seq (.seq (.reg [⟨(some 10), .assign (.const (.int .i64 0)), 3, none, []⟩])
  (.block 0 (.loop (some ([1, 2, 7, 9, 10], 0)) s9_1)))
  (.seq (.seq (.reg [⟨(some 15), .assign (.const (.int .i64 0)), 3, none, []⟩])
  (.block 4 (.loop (some ([7, 9, 15], 0)) s9_2)))
  (.seq (.reg [⟨(some 6), .assign (.const (.bool true)), 4, none, []⟩])
  .ret)))))))))
theorem l9 : slimF Hs 9 Try.f9 = some (125, s9, [.tmp 6]) := by kernel_rfl

/-! 14 kerbsuite/kerbsuitelaw26.awake -/
def s14 : SC :=
  (.seq (.reg [⟨(some 0), .assign (.const (.bool false)), 4, none, []⟩])
  (.seq (.reg [⟨(some 6), .call ⟨.value (.func 16), #[(.const (.int .i64 0))], #[3]⟩, 23, none, []⟩,
    ⟨(some 7), .call ⟨.value (.func 17), #[(.const (.int .i64 0))], #[3]⟩, 23, none, []⟩,
    ⟨(some 8), .call ⟨.value (.func 18), #[(.const (.int .i64 1))], #[3]⟩, 25, none, []⟩,
    ⟨(some 9), .build 27 #[(0, (.tmp 6)), (1, (.tmp 7)), (2, (.tmp 8)), (3, (.const (.int .i64 1000))), (4, (.const (.int .i64 1299)))], 27, none, []⟩,
    ⟨(some 1), .alloc 27, 0, none, []⟩,
    ⟨none, .store 27 (.tmp 1) (.tmp 9), 0, none, []⟩])
  (.seq (.reg [⟨(some 11), .load 27 (.tmp 1), 27, none, []⟩,
    ⟨(some 12), .call ⟨.value (.func 19), #[(.tmp 11)], #[27]⟩, 36, none, []⟩,
    ⟨(some 10), .move (.tmp 12), 36, none, []⟩,
    ⟨(some 13), .extract (.tmp 10) 0, 35, none, []⟩,
    ⟨(some 14), .extract (.tmp 10) 1, 4, none, []⟩,
    ⟨(some 2), .alloc 35, 0, none, []⟩,
    ⟨none, .store 35 (.tmp 2) (.tmp 13), 0, none, []⟩,
    ⟨(some 3), .assign (.tmp 14), 4, none, []⟩])
  (.seq (.reg [⟨(some 15), .fieldAddr 27 (.tmp 1) 4, 0, none, []⟩,
    ⟨none, .store 3 (.tmp 15) (.const (.int .i64 1300)), 0, none, []⟩])
  (.seq (.reg [⟨(some 17), .load 27 (.tmp 1), 27, none, []⟩,
    ⟨(some 18), .call ⟨.value (.func 19), #[(.tmp 17)], #[27]⟩, 36, none, []⟩,
    ⟨(some 16), .move (.tmp 18), 36, none, []⟩,
    ⟨(some 19), .extract (.tmp 16) 0, 35, none, []⟩,
    ⟨(some 20), .extract (.tmp 16) 1, 4, none, []⟩,
    ⟨(some 4), .alloc 35, 0, none, []⟩,
    ⟨none, .store 35 (.tmp 4) (.tmp 19), 0, none, []⟩,
    ⟨(some 5), .assign (.tmp 20), 4, none, []⟩])
  (.seq (.drw [(⟨(some 21), .move (.tmp 3), 4, none, []⟩, []),
    (⟨(some 22), .unOp .not 4 (.tmp 21), 4, none, []⟩, []),
    (⟨(some 23), .move (.tmp 22), 4, none, []⟩, []),
    (⟨(some 24), .move (.tmp 5), 4, some (23, true), []⟩, []),
    (⟨(some 25), .pick (.tmp 23) (.tmp 24) (.const (.bool false)), 4, none, []⟩, []),
    (⟨(some 26), .move (.tmp 25), 4, none, []⟩, []),
    (⟨(some 27), .fieldAddr 35 (.tmp 4) 4, 0, some (26, true), []⟩, []),
    (⟨(some 28), .load 3 (.tmp 27), 3, some (26, true), []⟩, []),
    (⟨(some 29), .binOp .eql 3 (.tmp 28) (.const (.int .i64 0)) 3, 4, some (26, true), []⟩, []),
    (⟨(some 30), .pick (.tmp 26) (.tmp 29) (.const (.bool false)), 4, none, []⟩, []),
    (⟨(some 31), .move (.tmp 30), 4, none, []⟩, []),
    (⟨(some 32), .fieldAddr 35 (.tmp 4) 5, 0, some (31, true), []⟩, []),
    (⟨(some 33), .load 3 (.tmp 32), 3, some (31, true), []⟩, []),
    (⟨(some 34), .binOp .eql 3 (.tmp 33) (.const (.int .i64 1000)) 3, 4, some (31, true), []⟩, []),
    (⟨(some 35), .pick (.tmp 31) (.tmp 34) (.const (.bool false)), 4, none, []⟩, []),
    (⟨(some 36), .move (.tmp 35), 4, none, []⟩, []),
    (⟨(some 37), .fieldAddr 35 (.tmp 4) 3, 0, some (36, true), []⟩, []),
    (⟨(some 38), .load 25 (.tmp 37), 25, some (36, true), []⟩, []),
    (⟨(some 39), .call ⟨.value (.func 18), #[(.const (.int .i64 1))], #[3]⟩, 25, some (36, true), []⟩, [16, 17]),
    (⟨(some 40), .binOp .eql 25 (.tmp 38) (.tmp 39) 25, 4, some (36, true), []⟩, []),
    (⟨(some 41), .pick (.tmp 36) (.tmp 40) (.const (.bool false)), 4, none, []⟩, []),
    (⟨(some 0), .assign (.tmp 41), 4, none, []⟩, [])])
  .ret))))))
theorem l14 : slimF Hs 14 Try.f14 = some (42, s14, [.tmp 0]) := by kernel_rfl

/-! 15 kerbsuite/kerbsuitelaw26.long -/
def s15_0 : SC :=
  (.seq (.seq (.reg [⟨(some 4), .move (.tmp 3), 3, none, []⟩,
    ⟨(some 5), .move (.tmp 0), 96, none, []⟩,
    ⟨(some 6), .call ⟨.builtin .len, #[(.tmp 5)], #[96]⟩, 3, none, []⟩,
    ⟨(some 7), .binOp .lss 3 (.tmp 4) (.tmp 6) 3, 4, none, []⟩])
  (.cond (.tmp 7)
    .skip
    (.exit 0)))
  (.seq (.block 1 (.seq (.reg [⟨(some 10), .move (.tmp 0), 96, none, []⟩,
    ⟨(some 11), .move (.tmp 3), 3, none, []⟩,
    ⟨(some 12), .indexAddr 96 (.tmp 10) (.tmp 11), 0, none, []⟩,
    ⟨(some 13), .fieldAddr 23 (.tmp 12) 0, 0, none, []⟩,
    ⟨(some 14), .load 9 (.tmp 13), 9, none, []⟩,
    ⟨(some 15), .call ⟨.builtin .len, #[(.tmp 14)], #[9]⟩, 3, none, []⟩,
    ⟨(some 16), .binOp .gtr 3 (.tmp 15) (.const (.int .i64 100)) 3, 4, none, []⟩,
    ⟨(some 17), .move (.tmp 16), 4, none, []⟩,
    ⟨(some 18), .move (.tmp 0), 96, some (17, false), []⟩,
    ⟨(some 19), .move (.tmp 3), 3, some (17, false), []⟩,
    ⟨(some 20), .indexAddr 96 (.tmp 18) (.tmp 19), 0, some (17, false), []⟩,
    ⟨(some 21), .fieldAddr 23 (.tmp 20) 1, 0, some (17, false), []⟩,
    ⟨(some 22), .load 9 (.tmp 21), 9, some (17, false), []⟩,
    ⟨(some 23), .call ⟨.builtin .len, #[(.tmp 22)], #[9]⟩, 3, some (17, false), []⟩,
    ⟨(some 24), .binOp .gtr 3 (.tmp 23) (.const (.int .i64 100)) 3, 4, some (17, false), []⟩,
    ⟨(some 25), .pick (.tmp 17) (.const (.bool true)) (.tmp 24), 4, none, []⟩,
    ⟨(some 26), .move (.tmp 25), 4, none, []⟩,
    ⟨(some 27), .move (.tmp 0), 96, some (26, false), []⟩,
    ⟨(some 28), .move (.tmp 3), 3, some (26, false), []⟩,
    ⟨(some 29), .indexAddr 96 (.tmp 27) (.tmp 28), 0, some (26, false), []⟩,
    ⟨(some 30), .fieldAddr 23 (.tmp 29) 2, 0, some (26, false), []⟩,
    ⟨(some 31), .load 9 (.tmp 30), 9, some (26, false), []⟩,
    ⟨(some 32), .call ⟨.builtin .len, #[(.tmp 31)], #[9]⟩, 3, some (26, false), []⟩,
    ⟨(some 33), .binOp .gtr 3 (.tmp 32) (.const (.int .i64 100)) 3, 4, some (26, false), []⟩,
    ⟨(some 34), .pick (.tmp 26) (.const (.bool true)) (.tmp 33), 4, none, []⟩])
  (.cond (.tmp 34)
    (.seq (.reg [⟨(some 2), .assign (.const (.bool true)), 4, none, []⟩])
    .ret)
    .skip)))
  (.reg [⟨(some 8), .move (.tmp 3), 3, none, []⟩,
    ⟨(some 9), .binOp .add 3 (.tmp 8) (.const (.int .i64 1)) 3, 3, none, []⟩,
    ⟨(some 3), .assign (.tmp 9), 3, none, []⟩])))
def s15 : SC :=
  (.seq (.reg [⟨(some 2), .assign (.const (.bool false)), 4, none, []⟩])
  (.seq (.seq (.reg [⟨(some 3), .assign (.const (.int .i64 0)), 3, none, []⟩])
  (.block 0 (.loop (some ([0, 3], 0)) s15_0)))
  (.seq (.reg [⟨(some 2), .assign (.const (.bool false)), 4, none, []⟩])
  .ret)))
theorem l15 : slimF Hs 15 Try.f15 = some (35, s15, [.tmp 2]) := by kernel_rfl

/-! 16 kerbsuite/kerbsuitedata.User -/
def s16 : SC :=
  (.seq (.reg [⟨(some 2), .alloc 23, 0, none, []⟩])
  (.seq (.drw [(⟨(some 3), .buildSlice 89 3 #[(0, (.const (.string ⟨#[97, 110, 110]⟩))), (1, (.const (.string ⟨#[98, 111, 98]⟩))), (2, (.const (.string ⟨#[99, 97, 116]⟩)))], 89, none, []⟩, []),
    (⟨(some 4), .move (.tmp 0), 3, none, []⟩, [0]),
    (⟨(some 5), .binOp .rem 3 (.tmp 4) (.const (.int .i64 3)) 3, 3, none, []⟩, [0]),
    (⟨(some 6), .indexAddr 89 (.tmp 3) (.tmp 5), 0, none, []⟩, []),
    (⟨(some 7), .load 9 (.tmp 6), 9, none, []⟩, []),
    (⟨(some 8), .move (.tmp 0), 3, none, []⟩, [0, 3, 4]),
    (⟨(some 9), .binOp .quo 3 (.tmp 8) (.const (.int .i64 3)) 3, 3, none, []⟩, [0, 3, 4]),
    (⟨(some 10), .call ⟨.value (.func 56), #[(.tmp 9)], #[3]⟩, 9, none, []⟩, [0, 1, 2, 3, 4]),
    (⟨(some 11), .build 23 #[(0, (.tmp 7)), (2, (.tmp 10))], 23, none, []⟩, []),
    (⟨none, .store 23 (.tmp 2) (.tmp 11), 0, none, []⟩, [])])
  .ret))
theorem l16 : slimF Hs 16 Try.f16 = some (12, s16, [.cell 2 23]) := by kernel_rfl

/-! 17 kerbsuite/kerbsuitedata.Service -/
def s17 : SC :=
  (.seq (.reg [⟨(some 2), .alloc 23, 0, none, []⟩])
  (.seq (.reg [⟨(some 4), .build 23 #[(0, (.const (.string ⟨#[109, 97, 105, 108]⟩)))], 23, none, []⟩,
    ⟨(some 5), .build 23 #[(0, (.const (.string ⟨#[110, 102, 115]⟩))), (1, (.const (.string ⟨#[104, 111, 109, 101]⟩)))], 23, none, []⟩,
    ⟨(some 6), .build 23 #[(0, (.const (.string ⟨#[107, 114, 98, 116, 103, 116]⟩))), (1, (.const (.string ⟨#[65, 84, 72]⟩)))], 23, none, []⟩,
    ⟨(some 7), .buildSlice 96 3 #[(0, (.tmp 4)), (1, (.tmp 5)), (2, (.tmp 6))], 96, none, []⟩,
    ⟨(some 8), .move (.tmp 0), 3, none, []⟩,
    ⟨(some 9), .binOp .rem 3 (.tmp 8) (.const (.int .i64 3)) 3, 3, none, []⟩,
    ⟨(some 10), .indexAddr 96 (.tmp 7) (.tmp 9), 0, none, []⟩,
    ⟨(some 11), .load 23 (.tmp 10), 23, none, []⟩,
    ⟨(some 3), .alloc 23, 0, none, []⟩,
    ⟨none, .store 23 (.tmp 3) (.tmp 11), 0, none, []⟩])
  (.seq (.reg [⟨(some 12), .move (.tmp 0), 3, none, []⟩,
    ⟨(some 13), .binOp .quo 3 (.tmp 12) (.const (.int .i64 3)) 3, 3, none, []⟩,
    ⟨(some 14), .call ⟨.value (.func 56), #[(.tmp 13)], #[3]⟩, 9, none, []⟩,
    ⟨(some 15), .fieldAddr 23 (.tmp 3) 2, 0, none, []⟩,
    ⟨none, .store 9 (.tmp 15) (.tmp 14), 0, none, []⟩])
  (.seq (.reg [⟨(some 16), .load 23 (.tmp 3), 23, none, []⟩,
    ⟨none, .store 23 (.tmp 2) (.tmp 16), 0, none, []⟩])
  .ret))))
theorem l17 : slimF Hs 17 Try.f17 = some (17, s17, [.cell 2 23]) := by kernel_rfl

/-! 18 kerbsuite/kerbsuitedata.Session -/
def s18 : SC :=
  (.seq (.reg [⟨(some 2), .assign (.const (.int .u64 0)), 25, none, []⟩])
  (.seq (.reg [⟨(some 3), .move (.tmp 0), 3, none, []⟩,
    ⟨(some 4), .binOp .add 3 (.const (.int .i64 1)) (.tmp 3) 3, 3, none, []⟩,
    ⟨(some 5), .convert 3 25 (.tmp 4), 25, none, []⟩,
    ⟨(some 6), .binOp .or 25 (.const (.int .u64 144115188075855872)) (.tmp 5) 25, 25, none, []⟩,
    ⟨(some 2), .assign (.tmp 6), 25, none, []⟩])
  .ret))
theorem l18 : slimF Hs 18 Try.f18 = some (7, s18, [.tmp 2]) := by kernel_rfl

/-! 19 kerbsuite/converter.Convert -/
def s19 : SC :=
  (.seq (.reg [⟨(some 1), .box 27 (.tmp 0), 0, none, []⟩,
    ⟨(some 2), .alloc 35, 0, none, []⟩,
    ⟨(some 3), .assign (.const (.bool false)), 4, none, []⟩])
  (.seq (.reg [⟨(some 8), .fieldAddr 27 (.tmp 1) 4, 0, none, []⟩,
    ⟨(some 9), .load 3 (.tmp 8), 3, none, []⟩,
    ⟨(some 10), .fieldAddr 27 (.tmp 1) 3, 0, none, []⟩,
    ⟨(some 11), .load 3 (.tmp 10), 3, none, []⟩,
    ⟨(some 12), .binOp .sub 3 (.tmp 9) (.tmp 11) 3, 3, none, []⟩,
    ⟨(some 13), .call ⟨.value (.func 63), #[(.tmp 12)], #[3]⟩, 91, none, []⟩,
    ⟨(some 7), .move (.tmp 13), 91, none, []⟩,
    ⟨(some 14), .extract (.tmp 7) 0, 3, none, []⟩,
    ⟨(some 15), .extract (.tmp 7) 1, 4, none, []⟩,
    ⟨(some 4), .assign (.tmp 14), 3, none, []⟩,
    ⟨(some 5), .assign (.tmp 15), 4, none, []⟩])
  (.seq (.reg [⟨(some 16), .fieldAddr 27 (.tmp 1) 0, 0, none, []⟩,
    ⟨(some 17), .load 23 (.tmp 16), 23, none, []⟩,
    ⟨(some 18), .fieldAddr 27 (.tmp 1) 5, 0, none, []⟩,
    ⟨(some 19), .load 3 (.tmp 18), 3, none, []⟩,
    ⟨(some 20), .fieldAddr 27 (.tmp 1) 2, 0, none, []⟩,
    ⟨(some 21), .load 25 (.tmp 20), 25, none, []⟩,
    ⟨(some 22), .move (.tmp 4), 3, none, []⟩,
    ⟨(some 23), .fieldAddr 27 (.tmp 1) 3, 0, none, []⟩,
    ⟨(some 24), .load 3 (.tmp 23), 3, none, []⟩,
    ⟨(some 25), .fieldAddr 27 (.tmp 1) 1, 0, none, []⟩,
    ⟨(some 26), .fieldAddr 23 (.tmp 25) 0, 0, none, []⟩,
    ⟨(some 27), .load 9 (.tmp 26), 9, none, []⟩,
    ⟨(some 28), .fieldAddr 27 (.tmp 1) 1, 0, none, []⟩,
    ⟨(some 29), .fieldAddr 23 (.tmp 28) 1, 0, none, []⟩,
    ⟨(some 30), .load 9 (.tmp 29), 9, none, []⟩,
    ⟨(some 31), .build 35 #[(1, (.tmp 17)), (2, (.tmp 19)), (3, (.tmp 21)), (4, (.tmp 22)), (5, (.tmp 24)), (6, (.tmp 27)), (7, (.tmp 30))], 35, none, []⟩,
    ⟨(some 6), .alloc 35, 0, none, []⟩,
    ⟨none, .store 35 (.tmp 6) (.tmp 31), 0, none, []⟩])
  (.seq (.seq (.reg [⟨(some 32), .move (.tmp 5), 4, none, []⟩,
    ⟨(some 33), .unOp .not 4 (.tmp 32), 4, none, []⟩,
    ⟨(some 34), .move (.tmp 33), 4, none, []⟩,
    ⟨(some 35), .fieldAddr 27 (.tmp 1) 3, 0, some (34, false), []⟩,
    ⟨(some 36), .load 3 (.tmp 35), 3, some (34, false), []⟩,
    ⟨(some 37), .fieldAddr 27 (.tmp 1) 4, 0, some (34, false), []⟩,
    ⟨(some 38), .load 3 (.tmp 37), 3, some (34, false), []⟩,
    ⟨(some 39), .binOp .gtr 3 (.tmp 36) (.tmp 38) 3, 4, some (34, false), []⟩,
    ⟨(some 40), .pick (.tmp 34) (.const (.bool true)) (.tmp 39), 4, none, []⟩,
    ⟨(some 41), .move (.tmp 40), 4, none, []⟩,
    ⟨(some 42), .load 35 (.tmp 6), 35, some (41, false), []⟩,
    ⟨(some 43), .call ⟨.value (.func 64), #[(.tmp 42)], #[35]⟩, 55, some (41, false), []⟩,
    ⟨(some 44), .binOp .neq 55 (.tmp 43) (.const (.int .i64 0)) 55, 4, some (41, false), []⟩,
    ⟨(some 45), .pick (.tmp 41) (.const (.bool true)) (.tmp 44), 4, none, []⟩])
  (.cond (.tmp 45)
    (.seq (.reg [⟨(some 46), .build 35 #[], 35, none, []⟩,
      ⟨none, .store 35 (.tmp 2) (.tmp 46), 0, none, []⟩,
      ⟨(some 3), .assign (.const (.bool false)), 4, none, []⟩])
    .ret)
    .skip))
  (.seq (.reg [⟨(some 47), .load 35 (.tmp 6), 35, none, []⟩,
    ⟨none, .store 35 (.tmp 2) (.tmp 47), 0, none, []⟩,
    ⟨(some 3), .assign (.const (.bool true)), 4, none, []⟩])
  .ret)))))
theorem l19 : slimF Hs 19 Try.f19 = some (48, s19, [.cell 2 35, .tmp 3]) := by kernel_rfl

/-! 20 kerbsuite/kerbsuiteref26.Convert -/
def s20 : SC :=
  (.seq (.reg [⟨(some 1), .box 27 (.tmp 0), 0, none, []⟩,
    ⟨(some 2), .alloc 35, 0, none, []⟩,
    ⟨(some 3), .assign (.const (.bool false)), 4, none, []⟩])
  (.seq (.seq (.reg [⟨(some 7), .fieldAddr 27 (.tmp 1) 3, 0, none, []⟩,
    ⟨(some 8), .load 3 (.tmp 7), 3, none, []⟩,
    ⟨(some 9), .binOp .lss 3 (.tmp 8) (.const (.int .i64 0)) 3, 4, none, []⟩,
    ⟨(some 10), .move (.tmp 9), 4, none, []⟩,
    ⟨(some 11), .fieldAddr 27 (.tmp 1) 3, 0, some (10, false), []⟩,
    ⟨(some 12), .load 3 (.tmp 11), 3, some (10, false), []⟩,
    ⟨(some 13), .binOp .gtr 3 (.tmp 12) (.const (.int .i64 4294967295)) 3, 4, some (10, false), []⟩,
    ⟨(some 14), .pick (.tmp 10) (.const (.bool true)) (.tmp 13), 4, none, []⟩,
    ⟨(some 15), .move (.tmp 14), 4, none, []⟩,
    ⟨(some 16), .fieldAddr 27 (.tmp 1) 4, 0, some (15, false), []⟩,
    ⟨(some 17), .load 3 (.tmp 16), 3, some (15, false), []⟩,
    ⟨(some 18), .fieldAddr 27 (.tmp 1) 3, 0, some (15, false), []⟩,
    ⟨(some 19), .load 3 (.tmp 18), 3, some (15, false), []⟩,
    ⟨(some 20), .binOp .lss 3 (.tmp 17) (.tmp 19) 3, 4, some (15, false), []⟩,
    ⟨(some 21), .pick (.tmp 15) (.const (.bool true)) (.tmp 20), 4, none, []⟩])
  (.cond (.tmp 21)
    (.seq (.reg [⟨(some 22), .build 35 #[], 35, none, []⟩,
      ⟨none, .store 35 (.tmp 2) (.tmp 22), 0, none, []⟩,
      ⟨(some 3), .assign (.const (.bool false)), 4, none, []⟩])
    .ret)
    .skip))
  (.seq (.reg [⟨(some 24), .fieldAddr 27 (.tmp 1) 4, 0, none, []⟩,
    ⟨(some 25), .load 3 (.tmp 24), 3, none, []⟩,
    ⟨(some 26), .fieldAddr 27 (.tmp 1) 3, 0, none, []⟩,
    ⟨(some 27), .load 3 (.tmp 26), 3, none, []⟩,
    ⟨(some 28), .binOp .sub 3 (.tmp 25) (.tmp 27) 3, 3, none, []⟩,
    ⟨(some 29), .call ⟨.value (.func 65), #[(.tmp 28)], #[3]⟩, 91, none, []⟩,
    ⟨(some 23), .move (.tmp 29), 91, none, []⟩,
    ⟨(some 30), .extract (.tmp 23) 0, 3, none, []⟩,
    ⟨(some 31), .extract (.tmp 23) 1, 4, none, []⟩,
    ⟨(some 4), .assign (.tmp 30), 3, none, []⟩,
    ⟨(some 5), .assign (.tmp 31), 4, none, []⟩])
  (.seq (.reg [⟨(some 32), .fieldAddr 27 (.tmp 1) 0, 0, none, []⟩,
    ⟨(some 33), .load 23 (.tmp 32), 23, none, []⟩,
    ⟨(some 34), .fieldAddr 27 (.tmp 1) 5, 0, none, []⟩,
    ⟨(some 35), .load 3 (.tmp 34), 3, none, []⟩,
    ⟨(some 36), .fieldAddr 27 (.tmp 1) 2, 0, none, []⟩,
    ⟨(some 37), .load 25 (.tmp 36), 25, none, []⟩,
    ⟨(some 38), .move (.tmp 4), 3, none, []⟩,
    ⟨(some 39), .fieldAddr 27 (.tmp 1) 3, 0, none, []⟩,
    ⟨(some 40), .load 3 (.tmp 39), 3, none, []⟩,
    ⟨(some 41), .fieldAddr 27 (.tmp 1) 1, 0, none, []⟩,
    ⟨(some 42), .fieldAddr 23 (.tmp 41) 0, 0, none, []⟩,
    ⟨(some 43), .load 9 (.tmp 42), 9, none, []⟩,
    ⟨(some 44), .fieldAddr 27 (.tmp 1) 1, 0, none, []⟩,
    ⟨(some 45), .fieldAddr 23 (.tmp 44) 1, 0, none, []⟩,
    ⟨(some 46), .load 9 (.tmp 45), 9, none, []⟩,
    ⟨(some 47), .build 35 #[(1, (.tmp 33)), (2, (.tmp 35)), (3, (.tmp 37)), (4, (.tmp 38)), (5, (.tmp 40)), (6, (.tmp 43)), (7, (.tmp 46))], 35, none, []⟩,
    ⟨(some 6), .alloc 35, 0, none, []⟩,
    ⟨none, .store 35 (.tmp 6) (.tmp 47), 0, none, []⟩])
  (.seq (.seq (.reg [⟨(some 48), .move (.tmp 5), 4, none, []⟩,
    ⟨(some 49), .unOp .not 4 (.tmp 48), 4, none, []⟩,
    ⟨(some 50), .move (.tmp 49), 4, none, []⟩,
    ⟨(some 51), .load 35 (.tmp 6), 35, some (50, false), []⟩,
    ⟨(some 52), .call ⟨.value (.func 66), #[(.tmp 51)], #[35]⟩, 55, some (50, false), []⟩,
    ⟨(some 53), .binOp .neq 55 (.tmp 52) (.const (.int .i64 0)) 55, 4, some (50, false), []⟩,
    ⟨(some 54), .pick (.tmp 50) (.const (.bool true)) (.tmp 53), 4, none, []⟩])
  (.cond (.tmp 54)
    (.seq (.reg [⟨(some 55), .build 35 #[], 35, none, []⟩,
      ⟨none, .store 35 (.tmp 2) (.tmp 55), 0, none, []⟩,
      ⟨(some 3), .assign (.const (.bool false)), 4, none, []⟩])
    .ret)
    .skip))
  (.seq (.reg [⟨(some 56), .load 35 (.tmp 6), 35, none, []⟩,
    ⟨none, .store 35 (.tmp 2) (.tmp 56), 0, none, []⟩,
    ⟨(some 3), .assign (.const (.bool true)), 4, none, []⟩])
  .ret))))))
theorem l20 : slimF Hs 20 Try.f20 = some (57, s20, [.cell 2 35, .tmp 3]) := by kernel_rfl

/-! 21 kerbsuite/kerbsuitelaw3.awake -/
def s21 : SC :=
  (.seq (.reg [⟨(some 0), .assign (.const (.bool false)), 4, none, []⟩])
  (.seq (.reg [⟨(some 4), .call ⟨.value (.func 67), #[(.const (.int .i64 2)), (.const (.int .i64 5))], #[3, 3]⟩, 25, none, []⟩,
    ⟨(some 5), .call ⟨.value (.func 67), #[(.const (.int .i64 2)), (.const (.int .i64 6))], #[3, 3]⟩, 25, none, []⟩,
    ⟨(some 6), .buildSlice 42 2 #[(0, (.tmp 4)), (1, (.tmp 5))], 42, none, []⟩,
    ⟨(some 1), .assign (.tmp 6), 42, none, []⟩])
  (.seq (.reg [⟨(some 8), .move (.tmp 1), 42, none, []⟩,
    ⟨(some 9), .call ⟨.value (.func 68), #[(.tmp 8), (.const (.int .i64 2)), (.const (.int .i64 5))], #[42, 3, 3]⟩, 44, none, []⟩,
    ⟨(some 7), .move (.tmp 9), 44, none, []⟩,
    ⟨(some 10), .extract (.tmp 7) 0, 25, none, []⟩,
    ⟨(some 11), .extract (.tmp 7) 1, 4, none, []⟩,
    ⟨(some 2), .assign (.tmp 10), 25, none, []⟩,
    ⟨(some 3), .assign (.tmp 11), 4, none, []⟩])
  (.seq (.reg [⟨(some 12), .move (.tmp 3), 4, none, []⟩,
    ⟨(some 13), .move (.tmp 12), 4, none, []⟩,
    ⟨(some 14), .move (.tmp 2), 25, some (13, true), []⟩,
    ⟨(some 15), .call ⟨.value (.func 69), #[(.tmp 14)], #[25]⟩, 3, some (13, true), []⟩,
    ⟨(some 16), .binOp .eql 3 (.tmp 15) (.const (.int .i64 7)) 3, 4, some (13, true), []⟩,
    ⟨(some 17), .pick (.tmp 13) (.tmp 16) (.const (.bool false)), 4, none, []⟩,
    ⟨(some 18), .move (.tmp 17), 4, none, []⟩,
    ⟨(some 19), .move (.tmp 2), 25, some (18, true), []⟩,
    ⟨(some 20), .call ⟨.value (.func 70), #[(.tmp 19)], #[25]⟩, 3, some (18, true), []⟩,
    ⟨(some 21), .binOp .eql 3 (.tmp 20) (.const (.int .i64 2)) 3, 4, some (18, true), []⟩,
    ⟨(some 22), .pick (.tmp 18) (.tmp 21) (.const (.bool false)), 4, none, []⟩,
    ⟨(some 23), .move (.tmp 22), 4, none, []⟩,
    ⟨(some 24), .move (.tmp 2), 25, some (23, true), []⟩,
    ⟨(some 25), .call ⟨.value (.func 71), #[(.tmp 24)], #[25]⟩, 4, some (23, true), []⟩,
    ⟨(some 26), .pick (.tmp 23) (.tmp 25) (.const (.bool false)), 4, none, []⟩,
    ⟨(some 0), .assign (.tmp 26), 4, none, []⟩])
  .ret))))
theorem l21 : slimF Hs 21 Try.f21 = some (27, s21, [.tmp 0]) := by kernel_rfl

/-! 22 kerbsuite/kerbsuiteref3.Make -/
def s22 : SC :=
  (.seq (.reg [⟨(some 4), .assign (.const (.int .u64 0)), 25, none, []⟩])
  (.seq (.seq (.reg [⟨(some 5), .move (.tmp 0), 3, none, []⟩,
    ⟨(some 6), .binOp .neq 3 (.tmp 5) (.const (.int .i64 1)) 3, 4, none, []⟩,
    ⟨(some 7), .move (.tmp 6), 4, none, []⟩,
    ⟨(some 8), .move (.tmp 0), 3, some (7, true), []⟩,
    ⟨(some 9), .binOp .neq 3 (.tmp 8) (.const (.int .i64 2)) 3, 4, some (7, true), []⟩,
    ⟨(some 10), .pick (.tmp 7) (.tmp 9) (.const (.bool false)), 4, none, []⟩,
    ⟨(some 11), .move (.tmp 10), 4, none, []⟩,
    ⟨(some 12), .move (.tmp 1), 3, some (11, false), []⟩,
    ⟨(some 13), .binOp .lss 3 (.tmp 12) (.const (.int .i64 1)) 3, 4, some (11, false), []⟩,
    ⟨(some 14), .pick (.tmp 11) (.const (.bool true)) (.tmp 13), 4, none, []⟩,
    ⟨(some 15), .move (.tmp 14), 4, none, []⟩,
    ⟨(some 16), .move (.tmp 1), 3, some (15, false), []⟩,
    ⟨(some 17), .binOp .gtr 3 (.tmp 16) (.const (.int .i64 4294967295)) 3, 4, some (15, false), []⟩,
    ⟨(some 18), .pick (.tmp 15) (.const (.bool true)) (.tmp 17), 4, none, []⟩])
  (.cond (.tmp 18)
    (.seq (.reg [⟨(some 4), .assign (.const (.int .u64 0)), 25, none, []⟩])
    .ret)
    .skip))
  (.seq (.reg [⟨(some 19), .move (.tmp 0), 3, none, []⟩,
    ⟨(some 20), .convert 3 25 (.tmp 19), 25, none, []⟩,
    ⟨(some 21), .binOp .shl 25 (.tmp 20) (.const (.int .u64 56)) 101, 25, none, []⟩,
    ⟨(some 22), .move (.tmp 1), 3, none, []⟩,
    ⟨(some 23), .convert 3 25 (.tmp 22), 25, none, []⟩,
    ⟨(some 24), .binOp .or 25 (.tmp 21) (.tmp 23) 25, 25, none, []⟩,
    ⟨(some 4), .assign (.tmp 24), 25, none, []⟩])
  .ret)))
theorem l22 : slimF Hs 22 Try.f22 = some (25, s22, [.tmp 4]) := by kernel_rfl

/-! 23 kerbsuite/key.Bytes -/
def s23_0 : SC :=
  (.seq (.reg [⟨(some 9), .binOp .lss 3 (.tmp 8) (.tmp 7) 3, 0, none, []⟩])
  (.seq (.cond (.tmp 9)
    .skip
    (.exit 0))
  (.seq (.block 1 (.seq (.reg [⟨(some 10), .move (.tmp 8), 3, none, []⟩,
    ⟨(some 4), .assign (.tmp 10), 3, none, []⟩])
  (.reg [⟨(some 11), .move (.tmp 3), 40, none, []⟩,
    ⟨(some 12), .move (.tmp 4), 3, none, []⟩,
    ⟨(some 13), .move (.tmp 0), 25, none, []⟩,
    ⟨(some 14), .move (.tmp 4), 3, none, []⟩,
    ⟨(some 15), .binOp .mul 3 (.const (.int .i64 8)) (.tmp 14) 3, 3, none, []⟩,
    ⟨(some 16), .binOp .sub 3 (.const (.int .i64 56)) (.tmp 15) 3, 3, none, []⟩,
    ⟨(some 17), .binOp .shr 25 (.tmp 13) (.tmp 16) 3, 25, none, []⟩,
    ⟨(some 18), .convert 25 5 (.tmp 17), 5, none, []⟩,
    ⟨(some 19), .indexAddr 40 (.tmp 11) (.tmp 12), 0, none, []⟩,
    ⟨none, .store 5 (.tmp 19) (.tmp 18), 0, none, []⟩])))
  (.reg [⟨(some 20), .binOp .add 3 (.tmp 8) (.const (.int .i64 1)) 3, 3, none, []⟩,
    ⟨(some 8), .move (.tmp 20), 3, none, []⟩]))))
def s23 : SC :=
  (.seq (.reg [⟨(some 2), .assign (.const (.slice none 0 0)), 40, none, []⟩])
  (.seq (.reg [⟨(some 5), .makeSlice 40 (.const (.int .i64 8)) (.const (.int .i64 8)), 40, none, []⟩,
    ⟨(some 3), .assign (.tmp 5), 40, none, []⟩])
  (.seq (.seq (.reg [⟨(some 6), .move (.tmp 3), 40, none, []⟩,
    ⟨(some 7), .call ⟨.builtin .len, #[(.tmp 6)], #[40]⟩, 3, none, []⟩,
    ⟨(some 8), .move (.const (.int .i64 0)), 3, none, []⟩])
  (.block 0 (.loop (some ([0, 3, 7, 8], 0)) s23_0)))
  (.seq (.reg [⟨(some 21), .move (.tmp 3), 40, none, []⟩,
    ⟨(some 2), .assign (.tmp 21), 40, none, []⟩])
  .ret))))
theorem l23 : slimF Hs 23 Try.f23 = some (22, s23, [.tmp 2]) := by kernel_rfl

/-! 24 kerbsuite/kerbsuiteref3.Bytes -/
def s24_0 : SC :=
  (.seq (.seq (.reg [⟨(some 5), .move (.tmp 4), 3, none, []⟩,
    ⟨(some 6), .binOp .geq 3 (.tmp 5) (.const (.int .i64 0)) 3, 4, none, []⟩])
  (.cond (.tmp 6)
    .skip
    (.exit 0)))
  (.seq (.block 1 (.reg [⟨(some 9), .move (.tmp 3), 40, none, []⟩,
    ⟨(some 10), .move (.tmp 0), 25, none, []⟩,
    ⟨(some 11), .move (.tmp 4), 3, none, []⟩,
    ⟨(some 12), .binOp .mul 3 (.const (.int .i64 8)) (.tmp 11) 3, 3, none, []⟩,
    ⟨(some 13), .convert 3 101 (.tmp 12), 101, none, []⟩,
    ⟨(some 14), .binOp .shr 25 (.tmp 10) (.tmp 13) 101, 25, none, []⟩,
    ⟨(some 15), .convert 25 5 (.tmp 14), 5, none, []⟩,
    ⟨(some 16), .buildSlice 40 1 #[(0, (.tmp 15))], 40, none, []⟩,
    ⟨(some 17), .call ⟨.builtin .append, #[(.tmp 9), (.tmp 16)], #[40, 40]⟩, 40, none, []⟩,
    ⟨(some 3), .assign (.tmp 17), 40, none, []⟩]))
  (.reg [⟨(some 7), .move (.tmp 4), 3, none, []⟩,
    ⟨(some 8), .binOp .sub 3 (.tmp 7) (.const (.int .i64 1)) 3, 3, none, []⟩,
    ⟨(some 4), .assign (.tmp 8), 3, none, []⟩])))
def s24 : SC :=
  (.seq (.reg [⟨(some 2), .assign (.const (.slice none 0 0)), 40, none, []⟩])
  (.seq (.reg [⟨(some 3), .assign (.const (.slice none 0 0)), 40, none, [0]⟩])
  (.seq (.seq (.reg [⟨(some 4), .assign (.const (.int .i64 7)), 3, none, []⟩])
  (.block 0 (.loop (some ([0, 3, 4], 0)) s24_0)))
  (.seq (.reg [⟨(some 18), .move (.tmp 3), 40, none, []⟩,
    ⟨(some 2), .assign (.tmp 18), 40, none, []⟩])
  .ret))))
theorem l24 : slimF Hs 24 Try.f24 = some (19, s24, [.tmp 2]) := by kernel_rfl

/-! 25 kerbsuite/key.Read -/
def s25_0 : SC :=
  (.seq (.reg [⟨(some 13), .binOp .lss 3 (.tmp 12) (.tmp 11) 3, 0, none, []⟩])
  (.seq (.cond (.tmp 13)
    .skip
    (.exit 0))
  (.seq (.block 1 (.seq (.reg [⟨(some 14), .indexAddr 40 (.tmp 10) (.tmp 12), 0, none, []⟩,
    ⟨(some 15), .load 5 (.tmp 14), 5, none, []⟩,
    ⟨(some 6), .assign (.tmp 15), 5, none, []⟩])
  (.reg [⟨(some 16), .move (.tmp 4), 25, none, []⟩,
    ⟨(some 17), .binOp .shl 25 (.tmp 16) (.const (.int .u64 8)) 101, 25, none, []⟩,
    ⟨(some 18), .move (.tmp 6), 5, none, []⟩,
    ⟨(some 19), .convert 5 25 (.tmp 18), 25, none, []⟩,
    ⟨(some 20), .binOp .or 25 (.tmp 17) (.tmp 19) 25, 25, none, []⟩,
    ⟨(some 4), .assign (.tmp 20), 25, none, []⟩])))
  (.reg [⟨(some 21), .binOp .add 3 (.tmp 12) (.const (.int .i64 1)) 3, 3, none, []⟩,
    ⟨(some 12), .move (.tmp 21), 3, none, []⟩]))))
def s25 : SC :=
  (.seq (.reg [⟨(some 2), .assign (.const (.int .u64 0)), 25, none, []⟩,
    ⟨(some 3), .assign (.const (.bool false)), 4, none, []⟩])
  (.seq (.seq (.reg [⟨(some 7), .move (.tmp 0), 40, none, []⟩,
    ⟨(some 8), .call ⟨.builtin .len, #[(.tmp 7)], #[40]⟩, 3, none, []⟩,
    ⟨(some 9), .binOp .neq 3 (.tmp 8) (.const (.int .i64 8)) 3, 4, none, []⟩])
  (.cond (.tmp 9)
    (.seq (.reg [⟨(some 2), .assign (.const (.int .u64 0)), 25, none, []⟩,
      ⟨(some 3), .assign (.const (.bool false)), 4, none, []⟩])
    .ret)
    .skip))
  (.seq (.reg [⟨(some 4), .assign (.const (.int .u64 0)), 25, none, []⟩])
  (.seq (.seq (.reg [⟨(some 10), .move (.tmp 0), 40, none, []⟩,
    ⟨(some 11), .call ⟨.builtin .len, #[(.tmp 10)], #[40]⟩, 3, none, []⟩,
    ⟨(some 12), .move (.const (.int .i64 0)), 3, none, []⟩])
  (.block 0 (.loop (some ([4, 10, 11, 12], 0)) s25_0)))
  (.seq (.seq (.reg [⟨(some 22), .move (.tmp 4), 25, none, []⟩,
    ⟨(some 23), .call ⟨.value (.func 71), #[(.tmp 22)], #[25]⟩, 4, none, []⟩,
    ⟨(some 24), .unOp .not 4 (.tmp 23), 4, none, []⟩])
  (.cond (.tmp 24)
    (.seq (.reg [⟨(some 2), .assign (.const (.int .u64 0)), 25, none, []⟩,
      ⟨(some 3), .assign (.const (.bool false)), 4, none, []⟩])
    .ret)
    .skip))
  (.seq (.reg [⟨(some 25), .move (.tmp 4), 25, none, []⟩,
    ⟨(some 2), .assign (.tmp 25), 25, none, []⟩,
    ⟨(some 3), .assign (.const (.bool true)), 4, none, []⟩])
  .ret))))))
theorem l25 : slimF Hs 25 Try.f25 = some (26, s25, [.tmp 2, .tmp 3]) := by kernel_rfl

/-! 26 kerbsuite/kerbsuiteref3.Valid -/
def s26 : SC :=
  (.seq (.reg [⟨(some 2), .assign (.const (.bool false)), 4, none, []⟩])
  (.seq (.reg [⟨(some 3), .move (.tmp 0), 25, none, []⟩,
    ⟨(some 4), .binOp .neq 25 (.tmp 3) (.const (.int .u64 0)) 25, 4, none, []⟩,
    ⟨(some 5), .move (.tmp 4), 4, none, []⟩,
    ⟨(some 6), .move (.tmp 0), 25, some (5, true), []⟩,
    ⟨(some 7), .binOp .shr 25 (.tmp 6) (.const (.int .u64 56)) 101, 25, some (5, true), []⟩,
    ⟨(some 8), .convert 25 3 (.tmp 7), 3, some (5, true), []⟩,
    ⟨(some 9), .move (.tmp 0), 25, some (5, true), []⟩,
    ⟨(some 10), .binOp .and 25 (.tmp 9) (.const (.int .u64 72057594037927935)) 25, 25, some (5, true), []⟩,
    ⟨(some 11), .convert 25 3 (.tmp 10), 3, some (5, true), []⟩,
    ⟨(some 12), .call ⟨.value (.func 22), #[(.tmp 8), (.tmp 11)], #[3, 3]⟩, 25, some (5, true), []⟩,
    ⟨(some 13), .move (.tmp 0), 25, some (5, true), []⟩,
    ⟨(some 14), .binOp .eql 25 (.tmp 12) (.tmp 13) 25, 4, some (5, true), []⟩,
    ⟨(some 15), .pick (.tmp 5) (.tmp 14) (.const (.bool false)), 4, none, []⟩,
    ⟨(some 2), .assign (.tmp 15), 4, none, []⟩])
  .ret))
theorem l26 : slimF Hs 26 Try.f26 = some (16, s26, [.tmp 2]) := by kernel_rfl

/-! 27 kerbsuite/kerbsuiteref3.Read -/
def s27_0 : SC :=
  (.seq (.seq (.reg [⟨(some 9), .move (.tmp 5), 3, none, []⟩,
    ⟨(some 10), .binOp .lss 3 (.tmp 9) (.const (.int .i64 8)) 3, 4, none, []⟩])
  (.cond (.tmp 10)
    .skip
    (.exit 0)))
  (.seq (.block 1 (.reg [⟨(some 13), .move (.tmp 4), 25, none, []⟩,
    ⟨(some 14), .binOp .shl 25 (.tmp 13) (.const (.int .u64 8)) 101, 25, none, []⟩,
    ⟨(some 15), .move (.tmp 0), 40, none, []⟩,
    ⟨(some 16), .move (.tmp 5), 3, none, []⟩,
    ⟨(some 17), .indexAddr 40 (.tmp 15) (.tmp 16), 0, none, []⟩,
    ⟨(some 18), .load 5 (.tmp 17), 5, none, []⟩,
    ⟨(some 19), .convert 5 25 (.tmp 18), 25, none, []⟩,
    ⟨(some 20), .binOp .or 25 (.tmp 14) (.tmp 19) 25, 25, none, []⟩,
    ⟨(some 4), .assign (.tmp 20), 25, none, []⟩]))
  (.reg [⟨(some 11), .move (.tmp 5), 3, none, []⟩,
    ⟨(some 12), .binOp .add 3 (.tmp 11) (.const (.int .i64 1)) 3, 3, none, []⟩,
    ⟨(some 5), .assign (.tmp 12), 3, none, []⟩])))
def s27 : SC :=
  (.seq (.reg [⟨(some 2), .assign (.const (.int .u64 0)), 25, none, []⟩,
    ⟨(some 3), .assign (.const (.bool false)), 4, none, []⟩])
  (.seq (.seq (.reg [⟨(some 6), .move (.tmp 0), 40, none, []⟩,
    ⟨(some 7), .call ⟨.builtin .len, #[(.tmp 6)], #[40]⟩, 3, none, []⟩,
    ⟨(some 8), .binOp .neq 3 (.tmp 7) (.const (.int .i64 8)) 3, 4, none, []⟩])
  (.cond (.tmp 8)
    (.seq (.reg [⟨(some 2), .assign (.const (.int .u64 0)), 25, none, []⟩,
      ⟨(some 3), .assign (.const (.bool false)), 4, none, []⟩])
    .ret)
    .skip))
  (.seq (.reg [⟨(some 4), .assign (.const (.int .u64 0)), 25, none, []⟩])
  (.seq (.seq (.reg [⟨(some 5), .assign (.const (.int .i64 0)), 3, none, []⟩])
  (.block 0 (.loop (some ([0, 4, 5], 0)) s27_0)))
  (.seq (.seq (.reg [⟨(some 21), .move (.tmp 4), 25, none, []⟩,
    ⟨(some 22), .call ⟨.value (.func 26), #[(.tmp 21)], #[25]⟩, 4, none, []⟩,
    ⟨(some 23), .unOp .not 4 (.tmp 22), 4, none, []⟩])
  (.cond (.tmp 23)
    (.seq (.reg [⟨(some 2), .assign (.const (.int .u64 0)), 25, none, []⟩,
      ⟨(some 3), .assign (.const (.bool false)), 4, none, []⟩])
    .ret)
    .skip))
  (.seq (.reg [⟨(some 24), .move (.tmp 4), 25, none, []⟩,
    ⟨(some 2), .assign (.tmp 24), 25, none, []⟩,
    ⟨(some 3), .assign (.const (.bool true)), 4, none, []⟩])
  .ret))))))
theorem l27 : slimF Hs 27 Try.f27 = some (25, s27, [.tmp 2, .tmp 3]) := by kernel_rfl

/-! 28 kerbsuite/kerbsuitelaw16.awake -/
def s28 : SC :=
  (.seq (.reg [⟨(some 0), .assign (.const (.bool false)), 4, none, []⟩])
  (.seq (.reg [⟨(some 8), .call ⟨.value (.func 34), #[(.const (.int .i64 1))], #[3]⟩, 63, none, []⟩,
    ⟨(some 7), .move (.tmp 8), 63, none, []⟩,
    ⟨(some 9), .extract (.tmp 7) 0, 50, none, []⟩,
    ⟨(some 10), .extract (.tmp 7) 1, 55, none, []⟩,
    ⟨(some 1), .alloc 50, 0, none, []⟩,
    ⟨none, .store 50 (.tmp 1) (.tmp 9), 0, none, []⟩,
    ⟨(some 2), .assign (.tmp 10), 55, none, []⟩])
  (.seq (.drw [(⟨(some 12), .load 50 (.tmp 1), 50, none, []⟩, []),
    (⟨(some 13), .call ⟨.value (.func 16), #[(.const (.int .i64 0))], #[3]⟩, 23, none, []⟩, [0]),
    (⟨(some 14), .build 59 #[(0, (.tmp 13)), (1, (.const (.int .i64 1000)))], 59, none, []⟩, [0]),
    (⟨(some 15), .call ⟨.value (.func 37), #[(.tmp 12), (.tmp 14), (.const (.int .i64 1000)), (.const (.int .i64 300))], #[50, 59, 3, 3]⟩, 63, none, []⟩, []),
    (⟨(some 11), .move (.tmp 15), 63, none, []⟩, []),
    (⟨(some 16), .extract (.tmp 11) 0, 50, none, []⟩, []),
    (⟨(some 17), .extract (.tmp 11) 1, 55, none, []⟩, []),
    (⟨none, .store 50 (.tmp 1) (.tmp 16), 0, none, []⟩, [6]),
    (⟨(some 3), .assign (.tmp 17), 55, none, []⟩, [])])
  (.seq (.drw [(⟨(some 19), .load 50 (.tmp 1), 50, none, []⟩, []),
    (⟨(some 20), .call ⟨.value (.func 16), #[(.const (.int .i64 1))], #[3]⟩, 23, none, []⟩, [0]),
    (⟨(some 21), .build 59 #[(0, (.tmp 20)), (1, (.const (.int .i64 1000)))], 59, none, []⟩, [0]),
    (⟨(some 22), .call ⟨.value (.func 37), #[(.tmp 19), (.tmp 21), (.const (.int .i64 1000)), (.const (.int .i64 300))], #[50, 59, 3, 3]⟩, 63, none, []⟩, []),
    (⟨(some 18), .move (.tmp 22), 63, none, []⟩, []),
    (⟨(some 23), .extract (.tmp 18) 0, 50, none, []⟩, []),
    (⟨(some 24), .extract (.tmp 18) 1, 55, none, []⟩, []),
    (⟨(some 4), .alloc 50, 0, none, []⟩, [0, 1, 3]),
    (⟨none, .store 50 (.tmp 4) (.tmp 23), 0, none, []⟩, [6]),
    (⟨(some 5), .assign (.tmp 24), 55, none, []⟩, [])])
  (.seq (.drw [(⟨(some 26), .load 50 (.tmp 1), 50, none, []⟩, []),
    (⟨(some 27), .call ⟨.value (.func 16), #[(.const (.int .i64 1))], #[3]⟩, 23, none, []⟩, [0]),
    (⟨(some 28), .build 59 #[(0, (.tmp 27)), (1, (.const (.int .i64 1301)))], 59, none, []⟩, [0]),
    (⟨(some 29), .call ⟨.value (.func 37), #[(.tmp 26), (.tmp 28), (.const (.int .i64 1301)), (.const (.int .i64 300))], #[50, 59, 3, 3]⟩, 63, none, []⟩, []),
    (⟨(some 25), .move (.tmp 29), 63, none, []⟩, []),
    (⟨(some 30), .extract (.tmp 25) 0, 50, none, []⟩, []),
    (⟨(some 31), .extract (.tmp 25) 1, 55, none, []⟩, []),
    (⟨none, .store 50 (.tmp 1) (.tmp 30), 0, none, []⟩, [6]),
    (⟨(some 6), .assign (.tmp 31), 55, none, []⟩, [])])
  (.seq (.reg [⟨(some 32), .move (.tmp 2), 55, none, []⟩,
    ⟨(some 33), .binOp .eql 55 (.tmp 32) (.const (.int .i64 0)) 55, 4, none, []⟩,
    ⟨(some 34), .move (.tmp 33), 4, none, []⟩,
    ⟨(some 35), .move (.tmp 3), 55, some (34, true), []⟩,
    ⟨(some 36), .binOp .eql 55 (.tmp 35) (.const (.int .i64 0)) 55, 4, some (34, true), []⟩,
    ⟨(some 37), .pick (.tmp 34) (.tmp 36) (.const (.bool false)), 4, none, []⟩,
    ⟨(some 38), .move (.tmp 37), 4, none, []⟩,
    ⟨(some 39), .move (.tmp 5), 55, some (38, true), []⟩,
    ⟨(some 40), .binOp .eql 55 (.tmp 39) (.const (.int .i64 82)) 55, 4, some (38, true), []⟩,
    ⟨(some 41), .pick (.tmp 38) (.tmp 40) (.const (.bool false)), 4, none, []⟩,
    ⟨(some 42), .move (.tmp 41), 4, none, []⟩,
    ⟨(some 43), .move (.tmp 6), 55, some (42, true), []⟩,
    ⟨(some 44), .binOp .eql 55 (.tmp 43) (.const (.int .i64 0)) 55, 4, some (42, true), []⟩,
    ⟨(some 45), .pick (.tmp 42) (.tmp 44) (.const (.bool false)), 4, none, []⟩,
    ⟨(some 46), .move (.tmp 45), 4, none, []⟩,
    ⟨(some 47), .fieldAddr 50 (.tmp 1) 2, 0, some (46, true), []⟩,
    ⟨(some 48), .load 48 (.tmp 47), 48, some (46, true), []⟩,
    ⟨(some 49), .call ⟨.builtin .len, #[(.tmp 48)], #[48]⟩, 3, some (46, true), []⟩,
    ⟨(some 50), .binOp .eql 3 (.tmp 49) (.const (.int .i64 1)) 3, 4, some (46, true), []⟩,
    ⟨(some 51), .pick (.tmp 46) (.tmp 50) (.const (.bool false)), 4, none, []⟩,
    ⟨(some 52), .move (.tmp 51), 4, none, []⟩,
    ⟨(some 53), .fieldAddr 50 (.tmp 1) 1, 0, some (52, true), []⟩,
    ⟨(some 54), .load 3 (.tmp 53), 3, some (52, true), []⟩,
    ⟨(some 55), .binOp .eql 3 (.tmp 54) (.const (.int .i64 1001)) 3, 4, some (52, true), []⟩,
    ⟨(some 56), .pick (.tmp 52) (.tmp 55) (.const (.bool false)), 4, none, []⟩,
    ⟨(some 0), .assign (.tmp 56), 4, none, []⟩])
  .ret))))))
theorem l28 : slimF Hs 28 Try.f28 = some (57, s28, [.tmp 0]) := by kernel_rfl

/-! 29 kerbsuite/kerbsuitelaw16.long -/
def s29_0 : SC :=
  (.seq (.seq (.reg [⟨(some 8), .move (.tmp 3), 3, none, []⟩,
    ⟨(some 9), .fieldAddr 50 (.tmp 1) 2, 0, none, []⟩,
    ⟨(some 10), .load 48 (.tmp 9), 48, none, []⟩,
    ⟨(some 11), .call ⟨.builtin .len, #[(.tmp 10)], #[48]⟩, 3, none, []⟩,
    ⟨(some 12), .binOp .lss 3 (.tmp 8) (.tmp 11) 3, 4, none, []⟩])
  (.cond (.tmp 12)
    .skip
    (.exit 0)))
  (.seq (.block 1 (.seq (.reg [⟨(some 15), .fieldAddr 50 (.tmp 1) 2, 0, none, []⟩,
    ⟨(some 16), .load 48 (.tmp 15), 48, none, []⟩,
    ⟨(some 17), .move (.tmp 3), 3, none, []⟩,
    ⟨(some 18), .indexAddr 48 (.tmp 16) (.tmp 17), 0, none, []⟩,
    ⟨(some 19), .fieldAddr 59 (.tmp 18) 0, 0, none, []⟩,
    ⟨(some 20), .fieldAddr 23 (.tmp 19) 0, 0, none, []⟩,
    ⟨(some 21), .load 9 (.tmp 20), 9, none, []⟩,
    ⟨(some 22), .call ⟨.builtin .len, #[(.tmp 21)], #[9]⟩, 3, none, []⟩,
    ⟨(some 23), .binOp .gtr 3 (.tmp 22) (.const (.int .i64 100)) 3, 4, none, []⟩,
    ⟨(some 24), .move (.tmp 23), 4, none, []⟩,
    ⟨(some 25), .fieldAddr 50 (.tmp 1) 2, 0, some (24, false), []⟩,
    ⟨(some 26), .load 48 (.tmp 25), 48, some (24, false), []⟩,
    ⟨(some 27), .move (.tmp 3), 3, some (24, false), []⟩,
    ⟨(some 28), .indexAddr 48 (.tmp 26) (.tmp 27), 0, some (24, false), []⟩,
    ⟨(some 29), .fieldAddr 59 (.tmp 28) 0, 0, some (24, false), []⟩,
    ⟨(some 30), .fieldAddr 23 (.tmp 29) 1, 0, some (24, false), []⟩,
    ⟨(some 31), .load 9 (.tmp 30), 9, some (24, false), []⟩,
    ⟨(some 32), .call ⟨.builtin .len, #[(.tmp 31)], #[9]⟩, 3, some (24, false), []⟩,
    ⟨(some 33), .binOp .gtr 3 (.tmp 32) (.const (.int .i64 100)) 3, 4, some (24, false), []⟩,
    ⟨(some 34), .pick (.tmp 24) (.const (.bool true)) (.tmp 33), 4, none, []⟩,
    ⟨(some 35), .move (.tmp 34), 4, none, []⟩,
    ⟨(some 36), .fieldAddr 50 (.tmp 1) 2, 0, some (35, false), []⟩,
    ⟨(some 37), .load 48 (.tmp 36), 48, some (35, false), []⟩,
    ⟨(some 38), .move (.tmp 3), 3, some (35, false), []⟩,
    ⟨(some 39), .indexAddr 48 (.tmp 37) (.tmp 38), 0, some (35, false), []⟩,
    ⟨(some 40), .fieldAddr 59 (.tmp 39) 0, 0, some (35, false), []⟩,
    ⟨(some 41), .fieldAddr 23 (.tmp 40) 2, 0, some (35, false), []⟩,
    ⟨(some 42), .load 9 (.tmp 41), 9, some (35, false), []⟩,
    ⟨(some 43), .call ⟨.builtin .len, #[(.tmp 42)], #[9]⟩, 3, some (35, false), []⟩,
    ⟨(some 44), .binOp .gtr 3 (.tmp 43) (.const (.int .i64 100)) 3, 4, some (35, false), []⟩,
    ⟨(some 45), .pick (.tmp 35) (.const (.bool true)) (.tmp 44), 4, none, []⟩])
  (.cond (.tmp 45)
    (.seq (.reg [⟨(some 2), .assign (.const (.bool true)), 4, none, []⟩])
    .ret)
    .skip)))
  (.reg [⟨(some 13), .move (.tmp 3), 3, none, []⟩,
    ⟨(some 14), .binOp .add 3 (.tmp 13) (.const (.int .i64 1)) 3, 3, none, []⟩,
    ⟨(some 3), .assign (.tmp 14), 3, none, []⟩])))
def s29 : SC :=
  (.seq (.reg [⟨(some 1), .box 50 (.tmp 0), 0, none, []⟩,
    ⟨(some 2), .assign (.const (.bool false)), 4, none, []⟩])
  (.seq (.seq (.reg [⟨(some 4), .fieldAddr 50 (.tmp 1) 2, 0, none, []⟩,
    ⟨(some 5), .load 48 (.tmp 4), 48, none, []⟩,
    ⟨(some 6), .call ⟨.builtin .len, #[(.tmp 5)], #[48]⟩, 3, none, []⟩,
    ⟨(some 7), .binOp .gtr 3 (.tmp 6) (.const (.int .i64 50)) 3, 4, none, []⟩])
  (.cond (.tmp 7)
    (.seq (.reg [⟨(some 2), .assign (.const (.bool true)), 4, none, []⟩])
    .ret)
    .skip))
  (.seq (.seq (.reg [⟨(some 3), .assign (.const (.int .i64 0)), 3, none, []⟩])
  (.block 0 (.loop (some ([1, 3], 0)) s29_0)))
  (.seq (.reg [⟨(some 2), .assign (.const (.bool false)), 4, none, []⟩])
  .ret))))
theorem l29 : slimF Hs 29 Try.f29 = some (46, s29, [.tmp 2]) := by kernel_rfl

/-! 30 kerbsuite/kerbsuitelaw16.filled -/
def s30_0 : SC :=
  (.seq (.seq (.reg [⟨(some 22), .move (.tmp 11), 3, none, []⟩,
    ⟨(some 23), .move (.tmp 2), 51, none, []⟩,
    ⟨(some 24), .call ⟨.builtin .len, #[(.tmp 23)], #[51]⟩, 3, none, []⟩,
    ⟨(some 25), .binOp .lss 3 (.tmp 22) (.tmp 24) 3, 4, none, []⟩])
  (.cond (.tmp 25)
    .skip
    (.exit 0)))
  (.seq (.block 1 (.seq (.drw [(⟨(some 29), .load 50 (.tmp 8), 50, none, []⟩, []),
    (⟨(some 30), .move (.tmp 2), 51, none, []⟩, [0]),
    (⟨(some 31), .move (.tmp 11), 3, none, []⟩, [0]),
    (⟨(some 32), .indexAddr 51 (.tmp 30) (.tmp 31), 0, none, []⟩, [0]),
    (⟨(some 33), .load 61 (.tmp 32), 61, none, []⟩, [0]),
    (⟨(some 34), .call ⟨.value (.func 33), #[(.tmp 33)], #[61]⟩, 59, none, []⟩, [0]),
    (⟨(some 35), .move (.tmp 2), 51, none, []⟩, [0, 3, 4, 5]),
    (⟨(some 36), .move (.tmp 11), 3, none, []⟩, [0, 3, 4, 5]),
    (⟨(some 37), .indexAddr 51 (.tmp 35) (.tmp 36), 0, none, []⟩, [0, 1, 2, 3, 4, 5]),
    (⟨(some 38), .fieldAddr 61 (.tmp 37) 3, 0, none, []⟩, [0, 3, 4, 5]),
    (⟨(some 39), .load 5 (.tmp 38), 5, none, []⟩, [0, 1, 2, 3, 4, 5]),
    (⟨(some 40), .convert 5 3 (.tmp 39), 3, none, []⟩, [0, 1, 2, 3, 4, 5]),
    (⟨(some 41), .binOp .quo 3 (.tmp 40) (.const (.int .i64 2)) 3, 3, none, []⟩, [0, 3, 4, 5]),
    (⟨(some 42), .binOp .add 3 (.const (.int .i64 1000)) (.tmp 41) 3, 3, none, []⟩, [0, 3, 4, 5]),
    (⟨(some 43), .move (.tmp 1), 5, none, []⟩, [0, 3, 4, 5, 8, 10, 11]),
    (⟨(some 44), .convert 5 3 (.tmp 43), 3, none, []⟩, [0, 1, 2, 3, 4, 5, 6, 7, 8, 9, 10, 11, 12, 13]),
    (⟨(some 45), .binOp .rem 3 (.tmp 44) (.const (.int .i64 40)) 3, 3, none, []⟩, [0, 3, 4, 5, 8, 10, 11]),
    (⟨(some 46), .call ⟨.value (.func 37), #[(.tmp 29), (.tmp 34), (.tmp 42), (.tmp 45)], #[50, 59, 3, 3]⟩, 63, none, []⟩, []),
    (⟨(some 28), .move (.tmp 46), 63, none, []⟩, []),
    (⟨(some 47), .extract (.tmp 28) 0, 50, none, []⟩, []),
    (⟨(some 48), .extract (.tmp 28) 1, 55, none, []⟩, []),
    (⟨(some 12), .alloc 50, 0, none, []⟩, [0, 3, 4, 5, 8, 10, 11, 15, 17]),
    (⟨none, .store 50 (.tmp 12) (.tmp 47), 0, none, []⟩, [20]),
    (⟨(some 13), .assign (.tmp 48), 55, none, []⟩, [])])
  (.seq (.reg [⟨(some 49), .move (.tmp 13), 55, none, []⟩,
    ⟨(some 50), .binOp .eql 55 (.tmp 49) (.const (.int .i64 0)) 55, 4, none, []⟩])
  (.cond (.tmp 50)
    (.seq (.reg [⟨(some 51), .load 50 (.tmp 12), 50, none, []⟩,
      ⟨none, .store 50 (.tmp 8) (.tmp 51), 0, none, []⟩])
    (.reg [⟨(some 52), .move (.tmp 10), 3, none, []⟩,
      ⟨(some 53), .binOp .add 3 (.tmp 52) (.const (.int .i64 1)) 3, 3, none, []⟩,
      ⟨(some 10), .assign (.tmp 53), 3, none, []⟩]))
    .skip))))
  (.reg [⟨(some 26), .move (.tmp 11), 3, none, []⟩,
    ⟨(some 27), .binOp .add 3 (.tmp 26) (.const (.int .i64 1)) 3, 3, none, []⟩,
    ⟨(some 11), .assign (.tmp 27), 3, none, []⟩])))
def s30 : SC :=
  (.seq (.reg [⟨(some 6), .alloc 50, 0, none, []⟩,
    ⟨(some 7), .assign (.const (.int .i64 0)), 3, none, []⟩])
  (.seq (.reg [⟨(some 15), .move (.tmp 0), 5, none, []⟩,
    ⟨(some 16), .convert 5 3 (.tmp 15), 3, none, []⟩,
    ⟨(some 17), .binOp .rem 3 (.tmp 16) (.const (.int .i64 40)) 3, 3, none, []⟩,
    ⟨(some 18), .binOp .add 3 (.const (.int .i64 1)) (.tmp 17) 3, 3, none, []⟩,
    ⟨(some 19), .call ⟨.value (.func 34), #[(.tmp 18)], #[3]⟩, 63, none, []⟩,
    ⟨(some 14), .move (.tmp 19), 63, none, []⟩,
    ⟨(some 20), .extract (.tmp 14) 0, 50, none, []⟩,
    ⟨(some 21), .extract (.tmp 14) 1, 55, none, []⟩,
    ⟨(some 8), .alloc 50, 0, none, []⟩,
    ⟨none, .store 50 (.tmp 8) (.tmp 20), 0, none, []⟩,
    ⟨(some 9), .assign (.tmp 21), 55, none, []⟩])
  (.seq (.reg [⟨(some 10), .assign (.const (.int .i64 0)), 3, none, []⟩])
  (.seq (.seq (.reg [⟨(some 11), .assign (.const (.int .i64 0)), 3, none, []⟩])
  (.block 0 (.loop (some ([1, 2, 6, 8, 10, 11], 0)) s30_0)))
  (.seq (.reg [⟨(some 54), .load 50 (.tmp 8), 50, none, []⟩,
    ⟨(some 55), .move (.tmp 10), 3, none, []⟩,
    ⟨none, .store 50 (.tmp 6) (.tmp 54), 0, none, []⟩,
    ⟨(some 7), .assign (.tmp 55), 3, none, []⟩])
  .ret)))))
theorem l30 : slimF Hs 30 Try.f30 = some (56, s30, [.cell 6 50, .tmp 7]) := by kernel_rfl

/-! 31 kerbsuite/replay.Check -/
def s31_0 : SC :=
  (.seq (.reg [⟨(some 29), .binOp .lss 3 (.tmp 28) (.tmp 27) 3, 0, none, []⟩])
  (.seq (.cond (.tmp 29)
    .skip
    (.exit 0))
  (.seq (.block 1 (.seq (.reg [⟨(some 30), .move (.tmp 28), 3, none, []⟩,
    ⟨(some 31), .indexAddr 48 (.tmp 26) (.tmp 28), 0, none, []⟩,
    ⟨(some 32), .load 59 (.tmp 31), 59, none, []⟩,
    ⟨(some 4), .alloc 59, 0, none, []⟩,
    ⟨(some 3), .assign (.tmp 30), 3, none, []⟩,
    ⟨none, .store 59 (.tmp 4) (.tmp 32), 0, none, []⟩])
  (.block 2 (.seq (.reg [⟨(some 34), .fieldAddr 59 (.tmp 4) 0, 0, none, []⟩,
    ⟨(some 35), .load 23 (.tmp 34), 23, none, []⟩,
    ⟨(some 36), .call ⟨.value (.func 73), #[(.tmp 35)], #[23]⟩, 4, none, []⟩,
    ⟨(some 37), .unOp .not 4 (.tmp 36), 4, none, []⟩,
    ⟨(some 33), .assign (.tmp 37), 4, none, []⟩])
  (.cond (.tmp 33)
    (.seq (.reg [⟨(some 2), .assign (.const (.int .i64 103)), 55, none, []⟩])
    .ret)
    (.seq (.reg [⟨(some 39), .fieldAddr 59 (.tmp 4) 1, 0, none, []⟩,
      ⟨(some 40), .load 3 (.tmp 39), 3, none, []⟩,
      ⟨(some 41), .fieldAddr 50 (.tmp 1) 1, 0, none, []⟩,
      ⟨(some 42), .load 3 (.tmp 41), 3, none, []⟩,
      ⟨(some 43), .binOp .lss 3 (.tmp 40) (.tmp 42) 3, 4, none, []⟩,
      ⟨(some 44), .move (.tmp 43), 4, none, []⟩,
      ⟨(some 45), .fieldAddr 59 (.tmp 4) 1, 0, some (44, false), []⟩,
      ⟨(some 46), .load 3 (.tmp 45), 3, some (44, false), []⟩,
      ⟨(some 47), .binOp .gtr 3 (.tmp 46) (.const (.int .i64 4294967295)) 3, 4, some (44, false), []⟩,
      ⟨(some 48), .pick (.tmp 44) (.const (.bool true)) (.tmp 47), 4, none, []⟩,
      ⟨(some 49), .move (.tmp 48), 4, none, []⟩,
      ⟨(some 50), .fieldAddr 59 (.tmp 4) 2, 0, some (49, false), []⟩,
      ⟨(some 51), .load 3 (.tmp 50), 3, some (49, false), []⟩,
      ⟨(some 52), .call ⟨.value (.func 74), #[(.tmp 51)], #[3]⟩, 4, some (49, false), []⟩,
      ⟨(some 53), .unOp .not 4 (.tmp 52), 4, some (49, false), []⟩,
      ⟨(some 54), .pick (.tmp 49) (.const (.bool true)) (.tmp 53), 4, none, []⟩,
      ⟨(some 38), .assign (.tmp 54), 4, none, []⟩])
    (.cond (.tmp 38)
      (.seq (.reg [⟨(some 2), .assign (.const (.int .i64 104)), 55, none, []⟩])
      .ret)
      (.seq (.drw [(⟨(some 56), .fieldAddr 50 (.tmp 1) 2, 0, none, []⟩, []),
        (⟨(some 57), .load 48 (.tmp 56), 48, none, []⟩, []),
        (⟨(some 58), .move (.tmp 3), 3, none, []⟩, [1]),
        (⟨(some 59), .slice 48 (.tmp 57) none (some (.tmp 58)) none, 48, none, []⟩, []),
        (⟨(some 60), .load 59 (.tmp 4), 59, none, []⟩, [0, 1, 2, 3]),
        (⟨(some 61), .call ⟨.value (.func 75), #[(.tmp 59), (.tmp 60)], #[48, 59]⟩, 4, none, []⟩, []),
        (⟨(some 55), .assign (.tmp 61), 4, none, []⟩, [])])
      (.cond (.tmp 55)
        (.seq (.reg [⟨(some 2), .assign (.const (.int .i64 107)), 55, none, []⟩])
        .ret)
        .skip)))))))))
  (.reg [⟨(some 62), .binOp .add 3 (.tmp 28) (.const (.int .i64 1)) 3, 3, none, []⟩,
    ⟨(some 28), .move (.tmp 62), 3, none, []⟩]))))
def s31 : SC :=
  (.seq (.reg [⟨(some 1), .box 50 (.tmp 0), 0, none, []⟩,
    ⟨(some 2), .assign (.const (.int .i64 0)), 55, none, []⟩])
  (.seq (.seq (.reg [⟨(some 5), .fieldAddr 50 (.tmp 1) 0, 0, none, []⟩,
    ⟨(some 6), .load 3 (.tmp 5), 3, none, []⟩,
    ⟨(some 7), .call ⟨.value (.func 72), #[(.tmp 6)], #[3]⟩, 4, none, []⟩,
    ⟨(some 8), .unOp .not 4 (.tmp 7), 4, none, []⟩,
    ⟨(some 9), .move (.tmp 8), 4, none, []⟩,
    ⟨(some 10), .fieldAddr 50 (.tmp 1) 1, 0, some (9, false), []⟩,
    ⟨(some 11), .load 3 (.tmp 10), 3, some (9, false), []⟩,
    ⟨(some 12), .binOp .lss 3 (.tmp 11) (.const (.int .i64 0)) 3, 4, some (9, false), []⟩,
    ⟨(some 13), .pick (.tmp 9) (.const (.bool true)) (.tmp 12), 4, none, []⟩,
    ⟨(some 14), .move (.tmp 13), 4, none, []⟩,
    ⟨(some 15), .fieldAddr 50 (.tmp 1) 1, 0, some (14, false), []⟩,
    ⟨(some 16), .load 3 (.tmp 15), 3, some (14, false), []⟩,
    ⟨(some 17), .binOp .gtr 3 (.tmp 16) (.const (.int .i64 4294967295)) 3, 4, some (14, false), []⟩,
    ⟨(some 18), .pick (.tmp 14) (.const (.bool true)) (.tmp 17), 4, none, []⟩])
  (.cond (.tmp 18)
    (.seq (.reg [⟨(some 2), .assign (.const (.int .i64 104)), 55, none, []⟩])
    .ret)
    .skip))
  (.seq (.seq (.reg [⟨(some 19), .fieldAddr 50 (.tmp 1) 2, 0, none, []⟩,
    ⟨(some 20), .load 48 (.tmp 19), 48, none, []⟩,
    ⟨(some 21), .call ⟨.builtin .len, #[(.tmp 20)], #[48]⟩, 3, none, []⟩,
    ⟨(some 22), .fieldAddr 50 (.tmp 1) 0, 0, none, []⟩,
    ⟨(some 23), .load 3 (.tmp 22), 3, none, []⟩,
    ⟨(some 24), .binOp .gtr 3 (.tmp 21) (.tmp 23) 3, 4, none, []⟩])
  (.cond (.tmp 24)
    (.seq (.reg [⟨(some 2), .assign (.const (.int .i64 106)), 55, none, []⟩])
    .ret)
    .skip))
  (.seq (.seq (.reg [⟨(some 25), .fieldAddr 50 (.tmp 1) 2, 0, none, []⟩,
    ⟨(some 26), .load 48 (.tmp 25), 48, none, []⟩,
    ⟨(some 27), .call ⟨.builtin .len, #[(.tmp 26)], #[48]⟩, 3, none, []⟩,
    ⟨(some 28), .move (.const (.int .i64 0)), 3, none, []⟩])
  (.block 0 (.loop (some ([1, 26, 27, 28], 0)) s31_0)))
  (.seq (.reg [⟨(some 2), .assign (.const (.int .i64 0)), 55, none, []⟩])
  .ret)))))
theorem l31 : slimF Hs 31 Try.f31 = some (63, s31, [.tmp 2]) := by kernel_rfl

/-! 32 kerbsuite/kerbsuiteref16.Check -/
def s32_0 : SC :=
  (.seq (.seq (.reg [⟨(some 29), .move (.tmp 3), 3, none, []⟩,
    ⟨(some 30), .fieldAddr 50 (.tmp 1) 2, 0, none, []⟩,
    ⟨(some 31), .load 48 (.tmp 30), 48, none, []⟩,
    ⟨(some 32), .call ⟨.builtin .len, #[(.tmp 31)], #[48]⟩, 3, none, []⟩,
    ⟨(some 33), .binOp .lss 3 (.tmp 29) (.tmp 32) 3, 4, none, []⟩])
  (.cond (.tmp 33)
    .skip
    (.exit 0)))
  (.seq (.block 1 (.seq (.reg [⟨(some 36), .fieldAddr 50 (.tmp 1) 2, 0, none, []⟩,
    ⟨(some 37), .load 48 (.tmp 36), 48, none, []⟩,
    ⟨(some 38), .move (.tmp 3), 3, none, []⟩,
    ⟨(some 39), .indexAddr 48 (.tmp 37) (.tmp 38), 0, none, []⟩,
    ⟨(some 40), .load 59 (.tmp 39), 59, none, []⟩,
    ⟨(some 4), .alloc 59, 0, none, []⟩,
    ⟨none, .store 59 (.tmp 4) (.tmp 40), 0, none, []⟩])
  (.seq (.seq (.reg [⟨(some 41), .fieldAddr 59 (.tmp 4) 0, 0, none, []⟩,
    ⟨(some 42), .load 23 (.tmp 41), 23, none, []⟩,
    ⟨(some 43), .call ⟨.value (.func 76), #[(.tmp 42)], #[23]⟩, 4, none, []⟩,
    ⟨(some 44), .unOp .not 4 (.tmp 43), 4, none, []⟩])
  (.cond (.tmp 44)
    (.seq (.reg [⟨(some 2), .assign (.const (.int .i64 103)), 55, none, []⟩])
    .ret)
    .skip))
  (.seq (.seq (.reg [⟨(some 45), .fieldAddr 59 (.tmp 4) 1, 0, none, []⟩,
    ⟨(some 46), .load 3 (.tmp 45), 3, none, []⟩,
    ⟨(some 47), .fieldAddr 50 (.tmp 1) 1, 0, none, []⟩,
    ⟨(some 48), .load 3 (.tmp 47), 3, none, []⟩,
    ⟨(some 49), .binOp .lss 3 (.tmp 46) (.tmp 48) 3, 4, none, []⟩,
    ⟨(some 50), .move (.tmp 49), 4, none, []⟩,
    ⟨(some 51), .fieldAddr 59 (.tmp 4) 1, 0, some (50, false), []⟩,
    ⟨(some 52), .load 3 (.tmp 51), 3, some (50, false), []⟩,
    ⟨(some 53), .binOp .gtr 3 (.tmp 52) (.const (.int .i64 4294967295)) 3, 4, some (50, false), []⟩,
    ⟨(some 54), .pick (.tmp 50) (.const (.bool true)) (.tmp 53), 4, none, []⟩,
    ⟨(some 55), .move (.tmp 54), 4, none, []⟩,
    ⟨(some 56), .fieldAddr 59 (.tmp 4) 2, 0, some (55, false), []⟩,
    ⟨(some 57), .load 3 (.tmp 56), 3, some (55, false), []⟩,
    ⟨(some 58), .binOp .lss 3 (.tmp 57) (.const (.int .i64 0)) 3, 4, some (55, false), []⟩,
    ⟨(some 59), .pick (.tmp 55) (.const (.bool true)) (.tmp 58), 4, none, []⟩,
    ⟨(some 60), .move (.tmp 59), 4, none, []⟩,
    ⟨(some 61), .fieldAddr 59 (.tmp 4) 2, 0, some (60, false), []⟩,
    ⟨(some 62), .load 3 (.tmp 61), 3, some (60, false), []⟩,
    ⟨(some 63), .binOp .gtr 3 (.tmp 62) (.const (.int .i64 199)) 3, 4, some (60, false), []⟩,
    ⟨(some 64), .pick (.tmp 60) (.const (.bool true)) (.tmp 63), 4, none, []⟩])
  (.cond (.tmp 64)
    (.seq (.reg [⟨(some 2), .assign (.const (.int .i64 104)), 55, none, []⟩])
    .ret)
    .skip))
  (.seq (.drw [(⟨(some 65), .fieldAddr 50 (.tmp 1) 2, 0, none, []⟩, []),
    (⟨(some 66), .load 48 (.tmp 65), 48, none, []⟩, []),
    (⟨(some 67), .move (.tmp 3), 3, none, []⟩, [1]),
    (⟨(some 68), .slice 48 (.tmp 66) none (some (.tmp 67)) none, 48, none, []⟩, []),
    (⟨(some 69), .build 50 #[(2, (.tmp 68))], 50, none, []⟩, []),
    (⟨(some 70), .load 59 (.tmp 4), 59, none, []⟩, [0, 1, 2, 3, 4]),
    (⟨(some 71), .call ⟨.value (.func 40), #[(.tmp 69), (.tmp 70)], #[50, 59]⟩, 4, none, []⟩, [])])
  (.cond (.tmp 71)
    (.seq (.reg [⟨(some 2), .assign (.const (.int .i64 107)), 55, none, []⟩])
    .ret)
    .skip))))))
  (.reg [⟨(some 34), .move (.tmp 3), 3, none, []⟩,
    ⟨(some 35), .binOp .add 3 (.tmp 34) (.const (.int .i64 1)) 3, 3, none, []⟩,
    ⟨(some 3), .assign (.tmp 35), 3, none, []⟩])))
def s32 : SC :=
  (.seq (.reg [⟨(some 1), .box 50 (.tmp 0), 0, none, []⟩,
    ⟨(some 2), .assign (.const (.int .i64 0)), 55, none, []⟩])
  (.seq (.seq (.reg [⟨(some 5), .fieldAddr 50 (.tmp 1) 0, 0, none, []⟩,
    ⟨(some 6), .load 3 (.tmp 5), 3, none, []⟩,
    ⟨(some 7), .binOp .lss 3 (.tmp 6) (.const (.int .i64 1)) 3, 4, none, []⟩,
    ⟨(some 8), .move (.tmp 7), 4, none, []⟩,
    ⟨(some 9), .fieldAddr 50 (.tmp 1) 0, 0, some (8, false), []⟩,
    ⟨(some 10), .load 3 (.tmp 9), 3, some (8, false), []⟩,
    ⟨(some 11), .binOp .gtr 3 (.tmp 10) (.const (.int .i64 40)) 3, 4, some (8, false), []⟩,
    ⟨(some 12), .pick (.tmp 8) (.const (.bool true)) (.tmp 11), 4, none, []⟩,
    ⟨(some 13), .move (.tmp 12), 4, none, []⟩,
    ⟨(some 14), .fieldAddr 50 (.tmp 1) 1, 0, some (13, false), []⟩,
    ⟨(some 15), .load 3 (.tmp 14), 3, some (13, false), []⟩,
    ⟨(some 16), .binOp .lss 3 (.tmp 15) (.const (.int .i64 0)) 3, 4, some (13, false), []⟩,
    ⟨(some 17), .pick (.tmp 13) (.const (.bool true)) (.tmp 16), 4, none, []⟩,
    ⟨(some 18), .move (.tmp 17), 4, none, []⟩,
    ⟨(some 19), .fieldAddr 50 (.tmp 1) 1, 0, some (18, false), []⟩,
    ⟨(some 20), .load 3 (.tmp 19), 3, some (18, false), []⟩,
    ⟨(some 21), .binOp .gtr 3 (.tmp 20) (.const (.int .i64 4294967295)) 3, 4, some (18, false), []⟩,
    ⟨(some 22), .pick (.tmp 18) (.const (.bool true)) (.tmp 21), 4, none, []⟩])
  (.cond (.tmp 22)
    (.seq (.reg [⟨(some 2), .assign (.const (.int .i64 104)), 55, none, []⟩])
    .ret)
    .skip))
  (.seq (.seq (.reg [⟨(some 23), .fieldAddr 50 (.tmp 1) 2, 0, none, []⟩,
    ⟨(some 24), .load 48 (.tmp 23), 48, none, []⟩,
    ⟨(some 25), .call ⟨.builtin .len, #[(.tmp 24)], #[48]⟩, 3, none, []⟩,
    ⟨(some 26), .fieldAddr 50 (.tmp 1) 0, 0, none, []⟩,
    ⟨(some 27), .load 3 (.tmp 26), 3, none, []⟩,
    ⟨(some 28), .binOp .gtr 3 (.tmp 25) (.tmp 27) 3, 4, none, []⟩])
  (.cond (.tmp 28)
    (.seq (.reg [⟨(some 2), .assign (.const (.int .i64 106)), 55, none, []⟩])
    .ret)
    .skip))
  (.seq (.seq (.reg [⟨(some 3), .assign (.const (.int .i64 0)), 3, none, []⟩])
  (.block 0 (.loop (some ([1, 3], 0)) s32_0)))
  (.seq (.reg [⟨(some 2), .assign (.const (.int .i64 0)), 55, none, []⟩])
  .ret)))))
theorem l32 : slimF Hs 32 Try.f32 = some (72, s32, [.tmp 2]) := by kernel_rfl

/-! 33 (kerbsuite/kerbsuitelaw16.Use).mark -/
def s33 : SC :=
  (.seq (.reg [⟨(some 1), .box 61 (.tmp 0), 0, none, []⟩,
    ⟨(some 2), .alloc 59, 0, none, []⟩])
  (.seq (.drw [(⟨(some 3), .fieldAddr 61 (.tmp 1) 0, 0, none, []⟩, []),
    (⟨(some 4), .load 5 (.tmp 3), 5, none, []⟩, []),
    (⟨(some 5), .convert 5 3 (.tmp 4), 3, none, []⟩, []),
    (⟨(some 6), .binOp .rem 3 (.tmp 5) (.const (.int .i64 4)) 3, 3, none, []⟩, []),
    (⟨(some 7), .call ⟨.value (.func 16), #[(.tmp 6)], #[3]⟩, 23, none, []⟩, []),
    (⟨(some 8), .fieldAddr 61 (.tmp 1) 1, 0, none, []⟩, [1, 2, 4]),
    (⟨(some 9), .load 5 (.tmp 8), 5, none, []⟩, [0, 1, 2, 3, 4]),
    (⟨(some 10), .convert 5 3 (.tmp 9), 3, none, []⟩, [0, 1, 2, 3, 4]),
    (⟨(some 11), .binOp .quo 3 (.tmp 10) (.const (.int .i64 2)) 3, 3, none, []⟩, [1, 2, 4]),
    (⟨(some 12), .binOp .add 3 (.const (.int .i64 1000)) (.tmp 11) 3, 3, none, []⟩, [1, 2, 4]),
    (⟨(some 13), .fieldAddr 61 (.tmp 1) 2, 0, none, []⟩, [1, 2, 4, 6, 7]),
    (⟨(some 14), .load 5 (.tmp 13), 5, none, []⟩, [0, 1, 2, 3, 4, 5, 6, 7, 8, 9]),
    (⟨(some 15), .convert 5 3 (.tmp 14), 3, none, []⟩, [0, 1, 2, 3, 4, 5, 6, 7, 8, 9]),
    (⟨(some 16), .binOp .rem 3 (.tmp 15) (.const (.int .i64 3)) 3, 3, none, []⟩, [1, 2, 4, 6, 7]),
    (⟨(some 17), .build 59 #[(0, (.tmp 7)), (1, (.tmp 12)), (2, (.tmp 16))], 59, none, []⟩, []),
    (⟨none, .store 59 (.tmp 2) (.tmp 17), 0, none, []⟩, [])])
  .ret))
theorem l33 : slimF Hs 33 Try.f33 = some (18, s33, [.cell 2 59]) := by kernel_rfl

/-! 34 kerbsuite/replay.New -/
def s34 : SC :=
  (.seq (.reg [⟨(some 2), .alloc 50, 0, none, []⟩,
    ⟨(some 3), .assign (.const (.int .i64 0)), 55, none, []⟩])
  (.seq (.seq (.reg [⟨(some 4), .move (.tmp 0), 3, none, []⟩,
    ⟨(some 5), .call ⟨.value (.func 72), #[(.tmp 4)], #[3]⟩, 4, none, []⟩,
    ⟨(some 6), .unOp .not 4 (.tmp 5), 4, none, []⟩])
  (.cond (.tmp 6)
    (.seq (.reg [⟨(some 7), .build 50 #[], 50, none, []⟩,
      ⟨none, .store 50 (.tmp 2) (.tmp 7), 0, none, []⟩,
      ⟨(some 3), .assign (.const (.int .i64 104)), 55, none, []⟩])
    .ret)
    .skip))
  (.seq (.reg [⟨(some 8), .move (.tmp 0), 3, none, []⟩,
    ⟨(some 9), .build 50 #[(0, (.tmp 8))], 50, none, []⟩,
    ⟨none, .store 50 (.tmp 2) (.tmp 9), 0, none, []⟩,
    ⟨(some 3), .assign (.const (.int .i64 0)), 55, none, []⟩])
  .ret)))
theorem l34 : slimF Hs 34 Try.f34 = some (10, s34, [.cell 2 50, .tmp 3]) := by kernel_rfl

/-! 35 kerbsuite/kerbsuiteref16.New -/
def s35 : SC :=
  (.seq (.reg [⟨(some 2), .alloc 50, 0, none, []⟩,
    ⟨(some 3), .assign (.const (.int .i64 0)), 55, none, []⟩])
  (.seq (.seq (.reg [⟨(some 4), .move (.tmp 0), 3, none, []⟩,
    ⟨(some 5), .binOp .lss 3 (.tmp 4) (.const (.int .i64 1)) 3, 4, none, []⟩,
    ⟨(some 6), .move (.tmp 5), 4, none, []⟩,
    ⟨(some 7), .move (.tmp 0), 3, some (6, false), []⟩,
    ⟨(some 8), .binOp .gtr 3 (.tmp 7) (.const (.int .i64 40)) 3, 4, some (6, false), []⟩,
    ⟨(some 9), .pick (.tmp 6) (.const (.bool true)) (.tmp 8), 4, none, []⟩])
  (.cond (.tmp 9)
    (.seq (.reg [⟨(some 10), .build 50 #[], 50, none, []⟩,
      ⟨none, .store 50 (.tmp 2) (.tmp 10), 0, none, []⟩,
      ⟨(some 3), .assign (.const (.int .i64 104)), 55, none, []⟩])
    .ret)
    .skip))
  (.seq (.reg [⟨(some 11), .move (.tmp 0), 3, none, []⟩,
    ⟨(some 12), .build 50 #[(0, (.tmp 11))], 50, none, []⟩,
    ⟨none, .store 50 (.tmp 2) (.tmp 12), 0, none, []⟩,
    ⟨(some 3), .assign (.const (.int .i64 0)), 55, none, []⟩])
  .ret)))
theorem l35 : slimF Hs 35 Try.f35 = some (13, s35, [.cell 2 50, .tmp 3]) := by kernel_rfl

/-! 36 kerbsuite/kerbsuiteref16.Same -/
def s36_0 : SC :=
  (.seq (.seq (.reg [⟨(some 27), .move (.tmp 5), 3, none, []⟩,
    ⟨(some 28), .fieldAddr 50 (.tmp 2) 2, 0, none, []⟩,
    ⟨(some 29), .load 48 (.tmp 28), 48, none, []⟩,
    ⟨(some 30), .call ⟨.builtin .len, #[(.tmp 29)], #[48]⟩, 3, none, []⟩,
    ⟨(some 31), .binOp .lss 3 (.tmp 27) (.tmp 30) 3, 4, none, []⟩])
  (.cond (.tmp 31)
    .skip
    (.exit 0)))
  (.seq (.block 1 (.seq (.drw [(⟨(some 34), .fieldAddr 50 (.tmp 2) 2, 0, none, []⟩, []),
    (⟨(some 35), .load 48 (.tmp 34), 48, none, []⟩, []),
    (⟨(some 36), .move (.tmp 5), 3, none, []⟩, [1]),
    (⟨(some 37), .indexAddr 48 (.tmp 35) (.tmp 36), 0, none, []⟩, []),
    (⟨(some 38), .load 59 (.tmp 37), 59, none, []⟩, []),
    (⟨(some 39), .fieldAddr 50 (.tmp 3) 2, 0, none, []⟩, [1, 3, 4]),
    (⟨(some 40), .load 48 (.tmp 39), 48, none, []⟩, [0, 1, 2, 3, 4]),
    (⟨(some 41), .move (.tmp 5), 3, none, []⟩, [1, 3, 4, 6]),
    (⟨(some 42), .indexAddr 48 (.tmp 40) (.tmp 41), 0, none, []⟩, [0, 1, 2, 3, 4]),
    (⟨(some 43), .load 59 (.tmp 42), 59, none, []⟩, [0, 1, 2, 3, 4]),
    (⟨(some 44), .binOp .neq 59 (.tmp 38) (.tmp 43) 59, 4, none, []⟩, [])])
  (.cond (.tmp 44)
    (.seq (.reg [⟨(some 4), .assign (.const (.bool false)), 4, none, []⟩])
    .ret)
    .skip)))
  (.reg [⟨(some 32), .move (.tmp 5), 3, none, []⟩,
    ⟨(some 33), .binOp .add 3 (.tmp 32) (.const (.int .i64 1)) 3, 3, none, []⟩,
    ⟨(some 5), .assign (.tmp 33), 3, none, []⟩])))
def s36 : SC :=
  (.seq (.reg [⟨(some 2), .box 50 (.tmp 0), 0, none, []⟩,
    ⟨(some 3), .box 50 (.tmp 1), 0, none, []⟩,
    ⟨(some 4), .assign (.const (.bool false)), 4, none, []⟩])
  (.seq (.seq (.reg [⟨(some 6), .fieldAddr 50 (.tmp 2) 0, 0, none, []⟩,
    ⟨(some 7), .load 3 (.tmp 6), 3, none, []⟩,
    ⟨(some 8), .fieldAddr 50 (.tmp 3) 0, 0, none, []⟩,
    ⟨(some 9), .load 3 (.tmp 8), 3, none, []⟩,
    ⟨(some 10), .binOp .neq 3 (.tmp 7) (.tmp 9) 3, 4, none, []⟩,
    ⟨(some 11), .move (.tmp 10), 4, none, []⟩,
    ⟨(some 12), .fieldAddr 50 (.tmp 2) 1, 0, some (11, false), []⟩,
    ⟨(some 13), .load 3 (.tmp 12), 3, some (11, false), []⟩,
    ⟨(some 14), .fieldAddr 50 (.tmp 3) 1, 0, some (11, false), []⟩,
    ⟨(some 15), .load 3 (.tmp 14), 3, some (11, false), []⟩,
    ⟨(some 16), .binOp .neq 3 (.tmp 13) (.tmp 15) 3, 4, some (11, false), []⟩,
    ⟨(some 17), .pick (.tmp 11) (.const (.bool true)) (.tmp 16), 4, none, []⟩,
    ⟨(some 18), .move (.tmp 17), 4, none, []⟩,
    ⟨(some 19), .fieldAddr 50 (.tmp 2) 2, 0, some (18, false), []⟩,
    ⟨(some 20), .load 48 (.tmp 19), 48, some (18, false), []⟩,
    ⟨(some 21), .call ⟨.builtin .len, #[(.tmp 20)], #[48]⟩, 3, some (18, false), []⟩,
    ⟨(some 22), .fieldAddr 50 (.tmp 3) 2, 0, some (18, false), []⟩,
    ⟨(some 23), .load 48 (.tmp 22), 48, some (18, false), []⟩,
    ⟨(some 24), .call ⟨.builtin .len, #[(.tmp 23)], #[48]⟩, 3, some (18, false), []⟩,
    ⟨(some 25), .binOp .neq 3 (.tmp 21) (.tmp 24) 3, 4, some (18, false), []⟩,
    ⟨(some 26), .pick (.tmp 18) (.const (.bool true)) (.tmp 25), 4, none, []⟩])
  (.cond (.tmp 26)
    (.seq (.reg [⟨(some 4), .assign (.const (.bool false)), 4, none, []⟩])
    .ret)
    .skip))
  (.seq (.seq (.reg [⟨(some 5), .assign (.const (.int .i64 0)), 3, none, []⟩])
  (.block 0 (.loop (some ([2, 3, 5], 0)) s36_0)))
  (.seq (.reg [⟨(some 4), .assign (.const (.bool true)), 4, none, []⟩])
  .ret))))
theorem l36 : slimF Hs 36 Try.f36 = some (45, s36, [.tmp 4]) := by kernel_rfl

/-! 37 kerbsuite/replay.Add -/
def s37_0 : SC :=
  (.seq (.reg [⟨(some 63), .binOp .lss 3 (.tmp 62) (.tmp 61) 3, 0, none, []⟩])
  (.seq (.cond (.tmp 63)
    .skip
    (.exit 1))
  (.seq (.block 2 (.seq (.reg [⟨(some 64), .indexAddr 48 (.tmp 60) (.tmp 62), 0, none, []⟩,
    ⟨(some 65), .load 59 (.tmp 64), 59, none, []⟩,
    ⟨(some 12), .alloc 59, 0, none, []⟩,
    ⟨none, .store 59 (.tmp 12) (.tmp 65), 0, none, []⟩])
  (.seq (.reg [⟨(some 66), .fieldAddr 59 (.tmp 12) 1, 0, none, []⟩,
    ⟨(some 67), .load 3 (.tmp 66), 3, none, []⟩,
    ⟨(some 68), .fieldAddr 50 (.tmp 10) 1, 0, none, []⟩,
    ⟨(some 69), .load 3 (.tmp 68), 3, none, []⟩,
    ⟨(some 70), .binOp .geq 3 (.tmp 67) (.tmp 69) 3, 4, none, []⟩])
  (.cond (.tmp 70)
    (.reg [⟨(some 71), .fieldAddr 50 (.tmp 10) 2, 0, none, []⟩,
      ⟨(some 72), .load 48 (.tmp 71), 48, none, []⟩,
      ⟨(some 73), .load 59 (.tmp 12), 59, none, []⟩,
      ⟨(some 74), .buildSlice 48 1 #[(0, (.tmp 73))], 48, none, []⟩,
      ⟨(some 75), .call ⟨.builtin .append, #[(.tmp 72), (.tmp 74)], #[48, 48]⟩, 48, none, []⟩,
      ⟨(some 76), .fieldAddr 50 (.tmp 10) 2, 0, none, []⟩,
      ⟨none, .store 48 (.tmp 76) (.tmp 75), 0, none, []⟩])
    .skip))))
  (.reg [⟨(some 77), .binOp .add 3 (.tmp 62) (.const (.int .i64 1)) 3, 3, none, []⟩,
    ⟨(some 62), .move (.tmp 77), 3, none, []⟩]))))
def s37 : SC :=
  (.seq (.reg [⟨(some 4), .box 50 (.tmp 0), 0, none, []⟩,
    ⟨(some 5), .box 59 (.tmp 1), 0, none, []⟩,
    ⟨(some 8), .alloc 50, 0, none, []⟩,
    ⟨(some 9), .assign (.const (.int .i64 0)), 55, none, []⟩])
  (.seq (.block 0 (.seq (.reg [⟨(some 14), .load 50 (.tmp 4), 50, none, []⟩,
    ⟨(some 15), .call ⟨.value (.func 31), #[(.tmp 14)], #[50]⟩, 55, none, []⟩,
    ⟨(some 16), .binOp .neq 55 (.tmp 15) (.const (.int .i64 0)) 55, 4, none, []⟩,
    ⟨(some 13), .assign (.tmp 16), 4, none, []⟩])
  (.cond (.tmp 13)
    (.seq (.reg [⟨(some 17), .build 50 #[], 50, none, []⟩,
      ⟨none, .store 50 (.tmp 8) (.tmp 17), 0, none, []⟩,
      ⟨(some 9), .assign (.const (.int .i64 108)), 55, none, []⟩])
    .ret)
    (.seq (.reg [⟨(some 19), .fieldAddr 59 (.tmp 5) 0, 0, none, []⟩,
      ⟨(some 20), .load 23 (.tmp 19), 23, none, []⟩,
      ⟨(some 21), .call ⟨.value (.func 73), #[(.tmp 20)], #[23]⟩, 4, none, []⟩,
      ⟨(some 22), .unOp .not 4 (.tmp 21), 4, none, []⟩,
      ⟨(some 18), .assign (.tmp 22), 4, none, []⟩])
    (.cond (.tmp 18)
      (.seq (.reg [⟨(some 23), .build 50 #[], 50, none, []⟩,
        ⟨none, .store 50 (.tmp 8) (.tmp 23), 0, none, []⟩,
        ⟨(some 9), .assign (.const (.int .i64 103)), 55, none, []⟩])
      .ret)
      (.seq (.reg [⟨(some 25), .fieldAddr 59 (.tmp 5) 2, 0, none, []⟩,
        ⟨(some 26), .load 3 (.tmp 25), 3, none, []⟩,
        ⟨(some 27), .call ⟨.value (.func 74), #[(.tmp 26)], #[3]⟩, 4, none, []⟩,
        ⟨(some 28), .unOp .not 4 (.tmp 27), 4, none, []⟩,
        ⟨(some 24), .assign (.tmp 28), 4, none, []⟩])
      (.cond (.tmp 24)
        (.seq (.reg [⟨(some 29), .build 50 #[], 50, none, []⟩,
          ⟨none, .store 50 (.tmp 8) (.tmp 29), 0, none, []⟩,
          ⟨(some 9), .assign (.const (.int .i64 104)), 55, none, []⟩])
        .ret)
        (.seq (.reg [⟨(some 31), .fieldAddr 59 (.tmp 5) 1, 0, none, []⟩,
          ⟨(some 32), .load 3 (.tmp 31), 3, none, []⟩,
          ⟨(some 33), .move (.tmp 2), 3, none, []⟩,
          ⟨(some 34), .move (.tmp 3), 3, none, []⟩,
          ⟨(some 35), .call ⟨.value (.func 77), #[(.tmp 32), (.tmp 33), (.tmp 34)], #[3, 3, 3]⟩, 4, none, []⟩,
          ⟨(some 36), .unOp .not 4 (.tmp 35), 4, none, []⟩,
          ⟨(some 37), .move (.tmp 36), 4, none, []⟩,
          ⟨(some 38), .fieldAddr 59 (.tmp 5) 1, 0, some (37, false), []⟩,
          ⟨(some 39), .load 3 (.tmp 38), 3, some (37, false), []⟩,
          ⟨(some 40), .fieldAddr 50 (.tmp 4) 1, 0, some (37, false), []⟩,
          ⟨(some 41), .load 3 (.tmp 40), 3, some (37, false), []⟩,
          ⟨(some 42), .binOp .lss 3 (.tmp 39) (.tmp 41) 3, 4, some (37, false), []⟩,
          ⟨(some 43), .pick (.tmp 37) (.const (.bool true)) (.tmp 42), 4, none, []⟩,
          ⟨(some 30), .assign (.tmp 43), 4, none, []⟩])
        (.cond (.tmp 30)
          (.seq (.reg [⟨(some 44), .build 50 #[], 50, none, []⟩,
            ⟨none, .store 50 (.tmp 8) (.tmp 44), 0, none, []⟩,
            ⟨(some 9), .assign (.const (.int .i64 37)), 55, none, []⟩])
          .ret)
          (.seq (.reg [⟨(some 46), .load 50 (.tmp 4), 50, none, []⟩,
            ⟨(some 47), .load 59 (.tmp 5), 59, none, []⟩,
            ⟨(some 48), .call ⟨.value (.func 39), #[(.tmp 46), (.tmp 47)], #[50, 59]⟩, 4, none, []⟩,
            ⟨(some 45), .assign (.tmp 48), 4, none, []⟩])
          (.cond (.tmp 45)
            (.seq (.reg [⟨(some 49), .build 50 #[], 50, none, []⟩,
              ⟨none, .store 50 (.tmp 8) (.tmp 49), 0, none, []⟩,
              ⟨(some 9), .assign (.const (.int .i64 34)), 55, none, []⟩])
            .ret)
            .skip)))))))))))
  (.seq (.reg [⟨(some 50), .fieldAddr 50 (.tmp 4) 0, 0, none, []⟩,
    ⟨(some 51), .load 3 (.tmp 50), 3, none, []⟩,
    ⟨(some 52), .fieldAddr 50 (.tmp 4) 1, 0, none, []⟩,
    ⟨(some 53), .load 3 (.tmp 52), 3, none, []⟩,
    ⟨(some 54), .move (.tmp 2), 3, none, []⟩,
    ⟨(some 55), .move (.tmp 3), 3, none, []⟩,
    ⟨(some 56), .binOp .sub 3 (.tmp 54) (.tmp 55) 3, 3, none, []⟩,
    ⟨(some 57), .call ⟨.builtin .max, #[(.tmp 53), (.tmp 56)], #[3, 3]⟩, 3, none, []⟩,
    ⟨(some 58), .build 50 #[(0, (.tmp 51)), (1, (.tmp 57))], 50, none, [2]⟩,
    ⟨(some 10), .alloc 50, 0, none, []⟩,
    ⟨none, .store 50 (.tmp 10) (.tmp 58), 0, none, []⟩])
  (.seq (.seq (.reg [⟨(some 59), .fieldAddr 50 (.tmp 4) 2, 0, none, []⟩,
    ⟨(some 60), .load 48 (.tmp 59), 48, none, []⟩,
    ⟨(some 61), .call ⟨.builtin .len, #[(.tmp 60)], #[48]⟩, 3, none, []⟩,
    ⟨(some 62), .move (.const (.int .i64 0)), 3, none, []⟩])
  (.block 1 (.loop (some ([5, 8, 10, 60, 61, 62], 0)) s37_0)))
  (.seq (.seq (.reg [⟨(some 78), .fieldAddr 50 (.tmp 10) 2, 0, none, []⟩,
    ⟨(some 79), .load 48 (.tmp 78), 48, none, []⟩,
    ⟨(some 80), .call ⟨.builtin .len, #[(.tmp 79)], #[48]⟩, 3, none, []⟩,
    ⟨(some 81), .fieldAddr 50 (.tmp 10) 0, 0, none, []⟩,
    ⟨(some 82), .load 3 (.tmp 81), 3, none, []⟩,
    ⟨(some 83), .binOp .eql 3 (.tmp 80) (.tmp 82) 3, 4, none, []⟩])
  (.cond (.tmp 83)
    (.seq (.reg [⟨(some 84), .build 50 #[], 50, none, []⟩,
      ⟨none, .store 50 (.tmp 8) (.tmp 84), 0, none, []⟩,
      ⟨(some 9), .assign (.const (.int .i64 82)), 55, none, []⟩])
    .ret)
    .skip))
  (.seq (.reg [⟨(some 85), .fieldAddr 50 (.tmp 10) 2, 0, none, []⟩,
    ⟨(some 86), .load 48 (.tmp 85), 48, none, []⟩,
    ⟨(some 87), .load 59 (.tmp 5), 59, none, []⟩,
    ⟨(some 88), .buildSlice 48 1 #[(0, (.tmp 87))], 48, none, []⟩,
    ⟨(some 89), .call ⟨.builtin .append, #[(.tmp 86), (.tmp 88)], #[48, 48]⟩, 48, none, []⟩,
    ⟨(some 90), .fieldAddr 50 (.tmp 10) 2, 0, none, []⟩,
    ⟨none, .store 48 (.tmp 90) (.tmp 89), 0, none, []⟩])
  (.seq (.reg [⟨(some 91), .load 50 (.tmp 10), 50, none, []⟩,
    ⟨none, .store 50 (.tmp 8) (.tmp 91), 0, none, []⟩,
    ⟨(some 9), .assign (.const (.int .i64 0)), 55, none, []⟩])
  .ret)))))))
theorem l37 : slimF Hs 37 Try.f37 = some (92, s37, [.cell 8 50, .tmp 9]) := by kernel_rfl

/-! 38 kerbsuite/kerbsuiteref16.Add -/
def s38_0 : SC :=
  (.seq (.seq (.reg [⟨(some 57), .move (.tmp 11), 3, none, []⟩,
    ⟨(some 58), .fieldAddr 50 (.tmp 4) 2, 0, none, []⟩,
    ⟨(some 59), .load 48 (.tmp 58), 48, none, []⟩,
    ⟨(some 60), .call ⟨.builtin .len, #[(.tmp 59)], #[48]⟩, 3, none, []⟩,
    ⟨(some 61), .binOp .lss 3 (.tmp 57) (.tmp 60) 3, 4, none, []⟩])
  (.cond (.tmp 61)
    .skip
    (.exit 0)))
  (.seq (.block 1 (.seq (.drw [(⟨(some 64), .fieldAddr 50 (.tmp 4) 2, 0, none, []⟩, []),
    (⟨(some 65), .load 48 (.tmp 64), 48, none, []⟩, []),
    (⟨(some 66), .move (.tmp 11), 3, none, []⟩, [1]),
    (⟨(some 67), .indexAddr 48 (.tmp 65) (.tmp 66), 0, none, []⟩, []),
    (⟨(some 68), .fieldAddr 59 (.tmp 67) 1, 0, none, []⟩, []),
    (⟨(some 69), .load 3 (.tmp 68), 3, none, []⟩, []),
    (⟨(some 70), .fieldAddr 50 (.tmp 10) 1, 0, none, []⟩, [1, 3, 5]),
    (⟨(some 71), .load 3 (.tmp 70), 3, none, []⟩, [0, 1, 2, 3, 4, 5]),
    (⟨(some 72), .binOp .geq 3 (.tmp 69) (.tmp 71) 3, 4, none, []⟩, [])])
  (.cond (.tmp 72)
    (.drw [(⟨(some 73), .fieldAddr 50 (.tmp 10) 2, 0, none, []⟩, []),
      (⟨(some 74), .load 48 (.tmp 73), 48, none, []⟩, []),
      (⟨(some 75), .fieldAddr 50 (.tmp 4) 2, 0, none, []⟩, [1]),
      (⟨(some 76), .load 48 (.tmp 75), 48, none, []⟩, [0, 1]),
      (⟨(some 77), .move (.tmp 11), 3, none, []⟩, [1, 3]),
      (⟨(some 78), .indexAddr 48 (.tmp 76) (.tmp 77), 0, none, []⟩, [0, 1]),
      (⟨(some 79), .load 59 (.tmp 78), 59, none, []⟩, [0, 1]),
      (⟨(some 80), .buildSlice 48 1 #[(0, (.tmp 79))], 48, none, []⟩, [0, 1]),
      (⟨(some 81), .call ⟨.builtin .append, #[(.tmp 74), (.tmp 80)], #[48, 48]⟩, 48, none, []⟩, []),
      (⟨(some 82), .fieldAddr 50 (.tmp 10) 2, 0, none, []⟩, []),
      (⟨none, .store 48 (.tmp 82) (.tmp 81), 0, none, []⟩, [])])
    .skip)))
  (.reg [⟨(some 62), .move (.tmp 11), 3, none, []⟩,
    ⟨(some 63), .binOp .add 3 (.tmp 62) (.const (.int .i64 1)) 3, 3, none, []⟩,
    ⟨(some 11), .assign (.tmp 63), 3, none, []⟩])))
def s38 : SC :=
  (.seq (.reg [⟨(some 4), .box 50 (.tmp 0), 0, none, []⟩,
    ⟨(some 5), .box 59 (.tmp 1), 0, none, []⟩,
    ⟨(some 8), .alloc 50, 0, none, []⟩,
    ⟨(some 9), .assign (.const (.int .i64 0)), 55, none, []⟩])
  (.seq (.seq (.reg [⟨(some 12), .load 50 (.tmp 4), 50, none, []⟩,
    ⟨(some 13), .call ⟨.value (.func 32), #[(.tmp 12)], #[50]⟩, 55, none, []⟩,
    ⟨(some 14), .binOp .neq 55 (.tmp 13) (.const (.int .i64 0)) 55, 4, none, []⟩])
  (.cond (.tmp 14)
    (.seq (.reg [⟨(some 15), .build 50 #[], 50, none, []⟩,
      ⟨none, .store 50 (.tmp 8) (.tmp 15), 0, none, []⟩,
      ⟨(some 9), .assign (.const (.int .i64 108)), 55, none, []⟩])
    .ret)
    .skip))
  (.seq (.seq (.reg [⟨(some 16), .fieldAddr 59 (.tmp 5) 0, 0, none, []⟩,
    ⟨(some 17), .load 23 (.tmp 16), 23, none, []⟩,
    ⟨(some 18), .call ⟨.value (.func 76), #[(.tmp 17)], #[23]⟩, 4, none, []⟩,
    ⟨(some 19), .unOp .not 4 (.tmp 18), 4, none, []⟩])
  (.cond (.tmp 19)
    (.seq (.reg [⟨(some 20), .build 50 #[], 50, none, []⟩,
      ⟨none, .store 50 (.tmp 8) (.tmp 20), 0, none, []⟩,
      ⟨(some 9), .assign (.const (.int .i64 103)), 55, none, []⟩])
    .ret)
    .skip))
  (.seq (.seq (.reg [⟨(some 21), .fieldAddr 59 (.tmp 5) 2, 0, none, []⟩,
    ⟨(some 22), .load 3 (.tmp 21), 3, none, []⟩,
    ⟨(some 23), .binOp .lss 3 (.tmp 22) (.const (.int .i64 0)) 3, 4, none, []⟩,
    ⟨(some 24), .move (.tmp 23), 4, none, []⟩,
    ⟨(some 25), .fieldAddr 59 (.tmp 5) 2, 0, some (24, false), []⟩,
    ⟨(some 26), .load 3 (.tmp 25), 3, some (24, false), []⟩,
    ⟨(some 27), .binOp .gtr 3 (.tmp 26) (.const (.int .i64 199)) 3, 4, some (24, false), []⟩,
    ⟨(some 28), .pick (.tmp 24) (.const (.bool true)) (.tmp 27), 4, none, []⟩])
  (.cond (.tmp 28)
    (.seq (.reg [⟨(some 29), .build 50 #[], 50, none, []⟩,
      ⟨none, .store 50 (.tmp 8) (.tmp 29), 0, none, []⟩,
      ⟨(some 9), .assign (.const (.int .i64 104)), 55, none, []⟩])
    .ret)
    .skip))
  (.seq (.seq (.reg [⟨(some 30), .fieldAddr 59 (.tmp 5) 1, 0, none, []⟩,
    ⟨(some 31), .load 3 (.tmp 30), 3, none, []⟩,
    ⟨(some 32), .move (.tmp 2), 3, none, []⟩,
    ⟨(some 33), .move (.tmp 3), 3, none, []⟩,
    ⟨(some 34), .call ⟨.value (.func 78), #[(.tmp 31), (.tmp 32), (.tmp 33)], #[3, 3, 3]⟩, 4, none, []⟩,
    ⟨(some 35), .unOp .not 4 (.tmp 34), 4, none, []⟩,
    ⟨(some 36), .move (.tmp 35), 4, none, []⟩,
    ⟨(some 37), .fieldAddr 59 (.tmp 5) 1, 0, some (36, false), []⟩,
    ⟨(some 38), .load 3 (.tmp 37), 3, some (36, false), []⟩,
    ⟨(some 39), .fieldAddr 50 (.tmp 4) 1, 0, some (36, false), []⟩,
    ⟨(some 40), .load 3 (.tmp 39), 3, some (36, false), []⟩,
    ⟨(some 41), .binOp .lss 3 (.tmp 38) (.tmp 40) 3, 4, some (36, false), []⟩,
    ⟨(some 42), .pick (.tmp 36) (.const (.bool true)) (.tmp 41), 4, none, []⟩])
  (.cond (.tmp 42)
    (.seq (.reg [⟨(some 43), .build 50 #[], 50, none, []⟩,
      ⟨none, .store 50 (.tmp 8) (.tmp 43), 0, none, []⟩,
      ⟨(some 9), .assign (.const (.int .i64 37)), 55, none, []⟩])
    .ret)
    .skip))
  (.seq (.seq (.reg [⟨(some 44), .load 50 (.tmp 4), 50, none, []⟩,
    ⟨(some 45), .load 59 (.tmp 5), 59, none, []⟩,
    ⟨(some 46), .call ⟨.value (.func 40), #[(.tmp 44), (.tmp 45)], #[50, 59]⟩, 4, none, []⟩])
  (.cond (.tmp 46)
    (.seq (.reg [⟨(some 47), .build 50 #[], 50, none, []⟩,
      ⟨none, .store 50 (.tmp 8) (.tmp 47), 0, none, []⟩,
      ⟨(some 9), .assign (.const (.int .i64 34)), 55, none, []⟩])
    .ret)
    .skip))
  (.seq (.reg [⟨(some 48), .fieldAddr 50 (.tmp 4) 0, 0, none, []⟩,
    ⟨(some 49), .load 3 (.tmp 48), 3, none, []⟩,
    ⟨(some 50), .fieldAddr 50 (.tmp 4) 1, 0, none, []⟩,
    ⟨(some 51), .load 3 (.tmp 50), 3, none, []⟩,
    ⟨(some 52), .move (.tmp 2), 3, none, []⟩,
    ⟨(some 53), .move (.tmp 3), 3, none, []⟩,
    ⟨(some 54), .binOp .sub 3 (.tmp 52) (.tmp 53) 3, 3, none, []⟩,
    ⟨(some 55), .call ⟨.builtin .max, #[(.tmp 51), (.tmp 54)], #[3, 3]⟩, 3, none, []⟩,
    ⟨(some 56), .build 50 #[(0, (.tmp 49)), (1, (.tmp 55))], 50, none, [2]⟩,
    ⟨(some 10), .alloc 50, 0, none, []⟩,
    ⟨none, .store 50 (.tmp 10) (.tmp 56), 0, none, []⟩])
  (.seq (.seq (.reg [⟨(some 11), .assign (.const (.int .i64 0)), 3, none, []⟩])
  (.block 0 (.loop (some ([4, 5, 8, 10, 11], 0)) s38_0)))
  (.seq (.seq (.reg [⟨(some 83), .fieldAddr 50 (.tmp 10) 2, 0, none, []⟩,
    ⟨(some 84), .load 48 (.tmp 83), 48, none, []⟩,
    ⟨(some 85), .call ⟨.builtin .len, #[(.tmp 84)], #[48]⟩, 3, none, []⟩,
    ⟨(some 86), .fieldAddr 50 (.tmp 4) 0, 0, none, []⟩,
    ⟨(some 87), .load 3 (.tmp 86), 3, none, []⟩,
    ⟨(some 88), .binOp .eql 3 (.tmp 85) (.tmp 87) 3, 4, none, []⟩])
  (.cond (.tmp 88)
    (.seq (.reg [⟨(some 89), .build 50 #[], 50, none, []⟩,
      ⟨none, .store 50 (.tmp 8) (.tmp 89), 0, none, []⟩,
      ⟨(some 9), .assign (.const (.int .i64 82)), 55, none, []⟩])
    .ret)
    .skip))
  (.seq (.reg [⟨(some 90), .fieldAddr 50 (.tmp 10) 2, 0, none, []⟩,
    ⟨(some 91), .load 48 (.tmp 90), 48, none, []⟩,
    ⟨(some 92), .load 59 (.tmp 5), 59, none, []⟩,
    ⟨(some 93), .buildSlice 48 1 #[(0, (.tmp 92))], 48, none, []⟩,
    ⟨(some 94), .call ⟨.builtin .append, #[(.tmp 91), (.tmp 93)], #[48, 48]⟩, 48, none, []⟩,
    ⟨(some 95), .fieldAddr 50 (.tmp 10) 2, 0, none, []⟩,
    ⟨none, .store 48 (.tmp 95) (.tmp 94), 0, none, []⟩])
  (.seq (.reg [⟨(some 96), .load 50 (.tmp 10), 50, none, []⟩,
    ⟨none, .store 50 (.tmp 8) (.tmp 96), 0, none, []⟩,
    ⟨(some 9), .assign (.const (.int .i64 0)), 55, none, []⟩])
  .ret)))))))))))
theorem l38 : slimF Hs 38 Try.f38 = some (97, s38, [.cell 8 50, .tmp 9]) := by kernel_rfl

/-! 39 kerbsuite/replay.Has -/
def s39 : SC :=
  (.seq (.reg [⟨(some 2), .box 50 (.tmp 0), 0, none, []⟩,
    ⟨(some 3), .box 59 (.tmp 1), 0, none, []⟩,
    ⟨(some 4), .assign (.const (.bool false)), 4, none, []⟩])
  (.seq (.reg [⟨(some 5), .fieldAddr 50 (.tmp 2) 2, 0, none, []⟩,
    ⟨(some 6), .load 48 (.tmp 5), 48, none, []⟩,
    ⟨(some 7), .load 59 (.tmp 3), 59, none, []⟩,
    ⟨(some 8), .call ⟨.value (.func 75), #[(.tmp 6), (.tmp 7)], #[48, 59]⟩, 4, none, []⟩,
    ⟨(some 4), .assign (.tmp 8), 4, none, []⟩])
  .ret))
theorem l39 : slimF Hs 39 Try.f39 = some (9, s39, [.tmp 4]) := by kernel_rfl

/-! 40 kerbsuite/kerbsuiteref16.Has -/
def s40_0 : SC :=
  (.seq (.seq (.reg [⟨(some 6), .move (.tmp 5), 3, none, []⟩,
    ⟨(some 7), .fieldAddr 50 (.tmp 2) 2, 0, none, []⟩,
    ⟨(some 8), .load 48 (.tmp 7), 48, none, []⟩,
    ⟨(some 9), .call ⟨.builtin .len, #[(.tmp 8)], #[48]⟩, 3, none, []⟩,
    ⟨(some 10), .binOp .lss 3 (.tmp 6) (.tmp 9) 3, 4, none, []⟩])
  (.cond (.tmp 10)
    .skip
    (.exit 0)))
  (.seq (.block 1 (.seq (.drw [(⟨(some 13), .fieldAddr 50 (.tmp 2) 2, 0, none, []⟩, []),
    (⟨(some 14), .load 48 (.tmp 13), 48, none, []⟩, []),
    (⟨(some 15), .move (.tmp 5), 3, none, []⟩, [1]),
    (⟨(some 16), .indexAddr 48 (.tmp 14) (.tmp 15), 0, none, []⟩, []),
    (⟨(some 17), .load 59 (.tmp 16), 59, none, []⟩, []),
    (⟨(some 18), .load 59 (.tmp 3), 59, none, []⟩, [0, 1, 2, 3, 4]),
    (⟨(some 19), .binOp .eql 59 (.tmp 17) (.tmp 18) 59, 4, none, []⟩, [])])
  (.cond (.tmp 19)
    (.seq (.reg [⟨(some 4), .assign (.const (.bool true)), 4, none, []⟩])
    .ret)
    .skip)))
  (.reg [⟨(some 11), .move (.tmp 5), 3, none, []⟩,
    ⟨(some 12), .binOp .add 3 (.tmp 11) (.const (.int .i64 1)) 3, 3, none, []⟩,
    ⟨(some 5), .assign (.tmp 12), 3, none, []⟩])))
def s40 : SC :=
  (.seq (.reg [⟨(some 2), .box 50 (.tmp 0), 0, none, []⟩,
    ⟨(some 3), .box 59 (.tmp 1), 0, none, []⟩,
    ⟨(some 4), .assign (.const (.bool false)), 4, none, []⟩])
  (.seq (.seq (.reg [⟨(some 5), .assign (.const (.int .i64 0)), 3, none, []⟩])
  (.block 0 (.loop (some ([2, 3, 5], 0)) s40_0)))
  (.seq (.reg [⟨(some 4), .assign (.const (.bool false)), 4, none, []⟩])
  .ret)))
theorem l40 : slimF Hs 40 Try.f40 = some (20, s40, [.tmp 4]) := by kernel_rfl

/-! 56 kerbsuite/kerbsuitedata.Realm -/
def s56 : SC :=
  (.seq (.reg [⟨(some 2), .assign (.const (.string ⟨#[]⟩)), 9, none, []⟩])
  (.seq (.reg [⟨(some 3), .call ⟨.value (.func 92), #[], #[]⟩, 89, none, []⟩,
    ⟨(some 4), .move (.tmp 0), 3, none, []⟩,
    ⟨(some 5), .binOp .rem 3 (.tmp 4) (.const (.int .i64 3)) 3, 3, none, []⟩,
    ⟨(some 6), .indexAddr 89 (.tmp 3) (.tmp 5), 0, none, []⟩,
    ⟨(some 7), .load 9 (.tmp 6), 9, none, []⟩,
    ⟨(some 2), .assign (.tmp 7), 9, none, []⟩])
  .ret))
theorem l56 : slimF Hs 56 Try.f56 = some (8, s56, [.tmp 2]) := by kernel_rfl

/-! 63 kerbsuite/lifetime.FromSeconds -/
def s63 : SC :=
  (.seq (.reg [⟨(some 2), .assign (.const (.int .i64 0)), 3, none, []⟩,
    ⟨(some 3), .assign (.const (.bool false)), 4, none, []⟩])
  (.seq (.seq (.reg [⟨(some 4), .move (.tmp 0), 3, none, []⟩,
    ⟨(some 5), .binOp .lss 3 (.tmp 4) (.const (.int .i64 300)) 3, 4, none, []⟩])
  (.cond (.tmp 5)
    (.seq (.reg [⟨(some 2), .assign (.const (.int .i64 0)), 3, none, []⟩,
      ⟨(some 3), .assign (.const (.bool false)), 4, none, []⟩])
    .ret)
    .skip))
  (.seq (.reg [⟨(some 6), .move (.tmp 0), 3, none, []⟩,
    ⟨(some 7), .binOp .quo 3 (.tmp 6) (.const (.int .i64 300)) 3, 3, none, []⟩,
    ⟨(some 8), .binOp .sub 3 (.tmp 7) (.const (.int .i64 1)) 3, 3, none, []⟩,
    ⟨(some 9), .call ⟨.builtin .min, #[(.tmp 8), (.const (.int .i64 255))], #[3, 3]⟩, 3, none, []⟩,
    ⟨(some 2), .assign (.tmp 9), 3, none, []⟩,
    ⟨(some 3), .assign (.const (.bool true)), 4, none, []⟩])
  .ret)))
theorem l63 : slimF Hs 63 Try.f63 = some (10, s63, [.tmp 2, .tmp 3]) := by kernel_rfl

/-! 64 kerbsuite/ticket.Check -/
def s64 : SC :=
  (.seq (.reg [⟨(some 1), .box 35 (.tmp 0), 0, none, []⟩,
    ⟨(some 2), .assign (.const (.int .i64 0)), 55, none, []⟩])
  (.seq (.block 0 (.seq (.reg [⟨(some 4), .fieldAddr 35 (.tmp 1) 1, 0, none, []⟩,
    ⟨(some 5), .load 23 (.tmp 4), 23, none, []⟩,
    ⟨(some 6), .call ⟨.value (.func 73), #[(.tmp 5)], #[23]⟩, 4, none, []⟩,
    ⟨(some 7), .unOp .not 4 (.tmp 6), 4, none, []⟩,
    ⟨(some 8), .move (.tmp 7), 4, none, []⟩,
    ⟨(some 9), .fieldAddr 35 (.tmp 1) 6, 0, some (8, false), []⟩,
    ⟨(some 10), .load 9 (.tmp 9), 9, some (8, false), []⟩,
    ⟨(some 11), .call ⟨.value (.func 95), #[(.tmp 10)], #[9]⟩, 4, some (8, false), []⟩,
    ⟨(some 12), .unOp .not 4 (.tmp 11), 4, some (8, false), []⟩,
    ⟨(some 13), .pick (.tmp 8) (.const (.bool true)) (.tmp 12), 4, none, []⟩,
    ⟨(some 14), .move (.tmp 13), 4, none, []⟩,
    ⟨(some 15), .fieldAddr 35 (.tmp 1) 7, 0, some (14, false), []⟩,
    ⟨(some 16), .load 9 (.tmp 15), 9, some (14, false), []⟩,
    ⟨(some 17), .call ⟨.value (.func 96), #[(.tmp 16)], #[9]⟩, 4, some (14, false), []⟩,
    ⟨(some 18), .unOp .not 4 (.tmp 17), 4, some (14, false), []⟩,
    ⟨(some 19), .pick (.tmp 14) (.const (.bool true)) (.tmp 18), 4, none, []⟩,
    ⟨(some 3), .assign (.tmp 19), 4, none, []⟩])
  (.cond (.tmp 3)
    (.seq (.reg [⟨(some 2), .assign (.const (.int .i64 103)), 55, none, []⟩])
    .ret)
    (.seq (.reg [⟨(some 21), .fieldAddr 35 (.tmp 1) 3, 0, none, []⟩,
      ⟨(some 22), .load 25 (.tmp 21), 25, none, []⟩,
      ⟨(some 23), .call ⟨.value (.func 70), #[(.tmp 22)], #[25]⟩, 3, none, []⟩,
      ⟨(some 24), .binOp .neq 3 (.tmp 23) (.const (.int .i64 2)) 3, 4, none, []⟩,
      ⟨(some 20), .assign (.tmp 24), 4, none, []⟩])
    (.cond (.tmp 20)
      (.seq (.reg [⟨(some 2), .assign (.const (.int .i64 10)), 55, none, []⟩])
      .ret)
      (.seq (.reg [⟨(some 26), .fieldAddr 35 (.tmp 1) 2, 0, none, []⟩,
        ⟨(some 27), .load 3 (.tmp 26), 3, none, []⟩,
        ⟨(some 28), .call ⟨.value (.func 97), #[(.tmp 27), (.const (.int .i64 4294967295))], #[3, 3]⟩, 4, none, []⟩,
        ⟨(some 29), .move (.tmp 28), 4, none, []⟩,
        ⟨(some 30), .fieldAddr 35 (.tmp 1) 4, 0, some (29, false), []⟩,
        ⟨(some 31), .load 3 (.tmp 30), 3, some (29, false), []⟩,
        ⟨(some 32), .call ⟨.value (.func 97), #[(.tmp 31), (.const (.int .i64 255))], #[3, 3]⟩, 4, some (29, false), []⟩,
        ⟨(some 33), .pick (.tmp 29) (.const (.bool true)) (.tmp 32), 4, none, []⟩,
        ⟨(some 34), .move (.tmp 33), 4, none, []⟩,
        ⟨(some 35), .fieldAddr 35 (.tmp 1) 5, 0, some (34, false), []⟩,
        ⟨(some 36), .load 3 (.tmp 35), 3, some (34, false), []⟩,
        ⟨(some 37), .call ⟨.value (.func 97), #[(.tmp 36), (.const (.int .i64 4294967295))], #[3, 3]⟩, 4, some (34, false), []⟩,
        ⟨(some 38), .pick (.tmp 34) (.const (.bool true)) (.tmp 37), 4, none, []⟩,
        ⟨(some 25), .assign (.tmp 38), 4, none, []⟩])
      (.cond (.tmp 25)
        (.seq (.reg [⟨(some 2), .assign (.const (.int .i64 104)), 55, none, []⟩])
        .ret)
        .skip)))))))
  (.seq (.reg [⟨(some 2), .assign (.const (.int .i64 0)), 55, none, []⟩])
  .ret)))
theorem l64 : slimF Hs 64 Try.f64 = some (39, s64, [.tmp 2]) := by kernel_rfl

/-! 65 kerbsuite/kerbsuiteref2.FromSeconds -/
def s65 : SC :=
  (.seq (.reg [⟨(some 2), .assign (.const (.int .i64 0)), 3, none, []⟩,
    ⟨(some 3), .assign (.const (.bool false)), 4, none, []⟩])
  (.seq (.seq (.reg [⟨(some 4), .move (.tmp 0), 3, none, []⟩,
    ⟨(some 5), .binOp .lss 3 (.tmp 4) (.const (.int .i64 300)) 3, 4, none, []⟩])
  (.cond (.tmp 5)
    (.seq (.reg [⟨(some 2), .assign (.const (.int .i64 0)), 3, none, []⟩,
      ⟨(some 3), .assign (.const (.bool false)), 4, none, []⟩])
    .ret)
    .skip))
  (.seq (.reg [⟨(some 6), .move (.tmp 0), 3, none, []⟩,
    ⟨(some 7), .binOp .quo 3 (.tmp 6) (.const (.int .i64 300)) 3, 3, none, []⟩,
    ⟨(some 8), .binOp .sub 3 (.tmp 7) (.const (.int .i64 1)) 3, 3, none, []⟩,
    ⟨(some 9), .call ⟨.builtin .min, #[(.tmp 8), (.const (.int .i64 255))], #[3, 3]⟩, 3, none, []⟩,
    ⟨(some 2), .assign (.tmp 9), 3, none, []⟩,
    ⟨(some 3), .assign (.const (.bool true)), 4, none, []⟩])
  .ret)))
theorem l65 : slimF Hs 65 Try.f65 = some (10, s65, [.tmp 2, .tmp 3]) := by kernel_rfl

/-! 66 kerbsuite/kerbsuiteref6.Check -/
def s66 : SC :=
  (.seq (.reg [⟨(some 1), .box 35 (.tmp 0), 0, none, []⟩,
    ⟨(some 2), .assign (.const (.int .i64 0)), 55, none, []⟩])
  (.seq (.seq (.reg [⟨(some 3), .fieldAddr 35 (.tmp 1) 1, 0, none, []⟩,
    ⟨(some 4), .load 23 (.tmp 3), 23, none, []⟩,
    ⟨(some 5), .call ⟨.value (.func 76), #[(.tmp 4)], #[23]⟩, 4, none, []⟩,
    ⟨(some 6), .unOp .not 4 (.tmp 5), 4, none, []⟩,
    ⟨(some 7), .move (.tmp 6), 4, none, []⟩,
    ⟨(some 8), .fieldAddr 35 (.tmp 1) 6, 0, some (7, false), []⟩,
    ⟨(some 9), .load 9 (.tmp 8), 9, some (7, false), []⟩,
    ⟨(some 10), .call ⟨.value (.func 98), #[(.tmp 9)], #[9]⟩, 4, some (7, false), []⟩,
    ⟨(some 11), .unOp .not 4 (.tmp 10), 4, some (7, false), []⟩,
    ⟨(some 12), .pick (.tmp 7) (.const (.bool true)) (.tmp 11), 4, none, []⟩,
    ⟨(some 13), .move (.tmp 12), 4, none, []⟩,
    ⟨(some 14), .fieldAddr 35 (.tmp 1) 7, 0, some (13, false), []⟩,
    ⟨(some 15), .load 9 (.tmp 14), 9, some (13, false), []⟩,
    ⟨(some 16), .call ⟨.value (.func 99), #[(.tmp 15)], #[9]⟩, 4, some (13, false), []⟩,
    ⟨(some 17), .unOp .not 4 (.tmp 16), 4, some (13, false), []⟩,
    ⟨(some 18), .pick (.tmp 13) (.const (.bool true)) (.tmp 17), 4, none, []⟩])
  (.cond (.tmp 18)
    (.seq (.reg [⟨(some 2), .assign (.const (.int .i64 103)), 55, none, []⟩])
    .ret)
    .skip))
  (.seq (.seq (.reg [⟨(some 19), .fieldAddr 35 (.tmp 1) 3, 0, none, []⟩,
    ⟨(some 20), .load 25 (.tmp 19), 25, none, []⟩,
    ⟨(some 21), .call ⟨.value (.func 100), #[(.tmp 20)], #[25]⟩, 3, none, []⟩,
    ⟨(some 22), .binOp .neq 3 (.tmp 21) (.const (.int .i64 2)) 3, 4, none, []⟩])
  (.cond (.tmp 22)
    (.seq (.reg [⟨(some 2), .assign (.const (.int .i64 10)), 55, none, []⟩])
    .ret)
    .skip))
  (.seq (.seq (.reg [⟨(some 23), .fieldAddr 35 (.tmp 1) 2, 0, none, []⟩,
    ⟨(some 24), .load 3 (.tmp 23), 3, none, []⟩,
    ⟨(some 25), .call ⟨.value (.func 101), #[(.tmp 24), (.const (.int .i64 4294967295))], #[3, 3]⟩, 4, none, []⟩,
    ⟨(some 26), .unOp .not 4 (.tmp 25), 4, none, []⟩,
    ⟨(some 27), .move (.tmp 26), 4, none, []⟩,
    ⟨(some 28), .fieldAddr 35 (.tmp 1) 4, 0, some (27, false), []⟩,
    ⟨(some 29), .load 3 (.tmp 28), 3, some (27, false), []⟩,
    ⟨(some 30), .call ⟨.value (.func 101), #[(.tmp 29), (.const (.int .i64 255))], #[3, 3]⟩, 4, some (27, false), []⟩,
    ⟨(some 31), .unOp .not 4 (.tmp 30), 4, some (27, false), []⟩,
    ⟨(some 32), .pick (.tmp 27) (.const (.bool true)) (.tmp 31), 4, none, []⟩,
    ⟨(some 33), .move (.tmp 32), 4, none, []⟩,
    ⟨(some 34), .fieldAddr 35 (.tmp 1) 5, 0, some (33, false), []⟩,
    ⟨(some 35), .load 3 (.tmp 34), 3, some (33, false), []⟩,
    ⟨(some 36), .call ⟨.value (.func 101), #[(.tmp 35), (.const (.int .i64 4294967295))], #[3, 3]⟩, 4, some (33, false), []⟩,
    ⟨(some 37), .unOp .not 4 (.tmp 36), 4, some (33, false), []⟩,
    ⟨(some 38), .pick (.tmp 33) (.const (.bool true)) (.tmp 37), 4, none, []⟩])
  (.cond (.tmp 38)
    (.seq (.reg [⟨(some 2), .assign (.const (.int .i64 104)), 55, none, []⟩])
    .ret)
    .skip))
  (.seq (.reg [⟨(some 2), .assign (.const (.int .i64 0)), 55, none, []⟩])
  .ret)))))
theorem l66 : slimF Hs 66 Try.f66 = some (39, s66, [.tmp 2]) := by kernel_rfl

/-! 67 kerbsuite/key.Make -/
def s67 : SC :=
  (.seq (.reg [⟨(some 4), .assign (.const (.int .u64 0)), 25, none, []⟩])
  (.seq (.seq (.reg [⟨(some 5), .move (.tmp 0), 3, none, []⟩,
    ⟨(some 6), .binOp .neq 3 (.tmp 5) (.const (.int .i64 1)) 3, 4, none, []⟩,
    ⟨(some 7), .move (.tmp 6), 4, none, []⟩,
    ⟨(some 8), .move (.tmp 0), 3, some (7, true), []⟩,
    ⟨(some 9), .binOp .neq 3 (.tmp 8) (.const (.int .i64 2)) 3, 4, some (7, true), []⟩,
    ⟨(some 10), .pick (.tmp 7) (.tmp 9) (.const (.bool false)), 4, none, []⟩,
    ⟨(some 11), .move (.tmp 10), 4, none, []⟩,
    ⟨(some 12), .move (.tmp 1), 3, some (11, false), []⟩,
    ⟨(some 13), .binOp .lss 3 (.tmp 12) (.const (.int .i64 1)) 3, 4, some (11, false), []⟩,
    ⟨(some 14), .pick (.tmp 11) (.const (.bool true)) (.tmp 13), 4, none, []⟩,
    ⟨(some 15), .move (.tmp 14), 4, none, []⟩,
    ⟨(some 16), .move (.tmp 1), 3, some (15, false), []⟩,
    ⟨(some 17), .binOp .gtr 3 (.tmp 16) (.const (.int .i64 4294967295)) 3, 4, some (15, false), []⟩,
    ⟨(some 18), .pick (.tmp 15) (.const (.bool true)) (.tmp 17), 4, none, []⟩])
  (.cond (.tmp 18)
    (.seq (.reg [⟨(some 4), .assign (.const (.int .u64 0)), 25, none, []⟩])
    .ret)
    .skip))
  (.seq (.reg [⟨(some 19), .move (.tmp 0), 3, none, []⟩,
    ⟨(some 20), .convert 3 24 (.tmp 19), 24, none, []⟩,
    ⟨(some 21), .binOp .shl 24 (.tmp 20) (.const (.int .u64 56)) 101, 24, none, []⟩,
    ⟨(some 22), .move (.tmp 1), 3, none, []⟩,
    ⟨(some 23), .convert 3 24 (.tmp 22), 24, none, []⟩,
    ⟨(some 24), .binOp .or 24 (.tmp 21) (.tmp 23) 24, 24, none, []⟩,
    ⟨(some 4), .assign (.tmp 24), 25, none, []⟩])
  .ret)))
theorem l67 : slimF Hs 67 Try.f67 = some (25, s67, [.tmp 4]) := by kernel_rfl

/-! 68 kerbsuite/key.Draw -/
def s68_0 : SC :=
  (.seq (.reg [⟨(some 28), .binOp .lss 3 (.tmp 27) (.tmp 26) 3, 0, none, []⟩])
  (.seq (.cond (.tmp 28)
    .skip
    (.exit 0))
  (.seq (.block 1 (.seq (.reg [⟨(some 29), .indexAddr 42 (.tmp 25) (.tmp 27), 0, none, []⟩,
    ⟨(some 30), .load 25 (.tmp 29), 25, none, []⟩,
    ⟨(some 10), .assign (.tmp 30), 25, none, []⟩])
  (.reg [⟨(some 31), .move (.tmp 8), 124, none, []⟩,
    ⟨(some 32), .move (.tmp 10), 25, none, []⟩,
    ⟨none, .mapUpdate 124 (.tmp 31) (.tmp 32) (.const (.bool true)), 0, none, []⟩])))
  (.reg [⟨(some 33), .binOp .add 3 (.tmp 27) (.const (.int .i64 1)) 3, 3, none, []⟩,
    ⟨(some 27), .move (.tmp 33), 3, none, []⟩]))))
def s68_1 : SC :=
  (.seq (.seq (.reg [⟨(some 35), .move (.tmp 11), 3, none, []⟩,
    ⟨(some 36), .binOp .leq 3 (.tmp 35) (.const (.int .i64 4294967295)) 3, 4, none, []⟩])
  (.cond (.tmp 36)
    .skip
    (.exit 2)))
  (.seq (.block 3 (.seq (.reg [⟨(some 39), .move (.tmp 1), 3, none, []⟩,
    ⟨(some 40), .move (.tmp 11), 3, none, []⟩,
    ⟨(some 41), .call ⟨.value (.func 67), #[(.tmp 39), (.tmp 40)], #[3, 3]⟩, 25, none, []⟩,
    ⟨(some 12), .assign (.tmp 41), 25, none, []⟩])
  (.seq (.reg [⟨(some 42), .move (.tmp 8), 124, none, []⟩,
    ⟨(some 43), .move (.tmp 12), 25, none, []⟩,
    ⟨(some 44), .lookup 124 (.tmp 42) (.tmp 43) false, 4, none, []⟩,
    ⟨(some 45), .unOp .not 4 (.tmp 44), 4, none, []⟩])
  (.cond (.tmp 45)
    (.seq (.reg [⟨(some 46), .move (.tmp 12), 25, none, []⟩,
      ⟨(some 6), .assign (.tmp 46), 25, none, []⟩,
      ⟨(some 7), .assign (.const (.bool true)), 4, none, []⟩])
    .ret)
    .skip))))
  (.reg [⟨(some 37), .move (.tmp 11), 3, none, []⟩,
    ⟨(some 38), .binOp .add 3 (.tmp 37) (.const (.int .i64 1)) 3, 3, none, []⟩,
    ⟨(some 11), .assign (.tmp 38), 3, none, []⟩])))
def s68_2 : SC :=
  (.seq (.seq (.reg [⟨(some 47), .move (.tmp 13), 3, none, []⟩,
    ⟨(some 48), .move (.tmp 2), 3, none, []⟩,
    ⟨(some 49), .binOp .lss 3 (.tmp 47) (.tmp 48) 3, 4, none, []⟩])
  (.cond (.tmp 49)
    .skip
    (.exit 4)))
  (.seq (.block 5 (.seq (.reg [⟨(some 52), .move (.tmp 1), 3, none, []⟩,
    ⟨(some 53), .move (.tmp 13), 3, none, []⟩,
    ⟨(some 54), .call ⟨.value (.func 67), #[(.tmp 52), (.tmp 53)], #[3, 3]⟩, 25, none, []⟩,
    ⟨(some 14), .assign (.tmp 54), 25, none, []⟩])
  (.seq (.reg [⟨(some 55), .move (.tmp 8), 124, none, []⟩,
    ⟨(some 56), .move (.tmp 14), 25, none, []⟩,
    ⟨(some 57), .lookup 124 (.tmp 55) (.tmp 56) false, 4, none, []⟩,
    ⟨(some 58), .unOp .not 4 (.tmp 57), 4, none, []⟩])
  (.cond (.tmp 58)
    (.seq (.reg [⟨(some 59), .move (.tmp 14), 25, none, []⟩,
      ⟨(some 6), .assign (.tmp 59), 25, none, []⟩,
      ⟨(some 7), .assign (.const (.bool true)), 4, none, []⟩])
    .ret)
    .skip))))
  (.reg [⟨(some 50), .move (.tmp 13), 3, none, []⟩,
    ⟨(some 51), .binOp .add 3 (.tmp 50) (.const (.int .i64 1)) 3, 3, none, []⟩,
    ⟨(some 13), .assign (.tmp 51), 3, none, []⟩])))
def s68 : SC :=
  (.seq (.reg [⟨(some 6), .assign (.const (.int .u64 0)), 25, none, []⟩,
    ⟨(some 7), .assign (.const (.bool false)), 4, none, []⟩])
  (.seq (.seq (.reg [⟨(some 15), .move (.tmp 1), 3, none, []⟩,
    ⟨(some 16), .call ⟨.value (.func 67), #[(.tmp 15), (.const (.int .i64 1))], #[3, 3]⟩, 25, none, []⟩,
    ⟨(some 17), .binOp .eql 25 (.tmp 16) (.const (.int .u64 0)) 25, 4, none, []⟩])
  (.cond (.tmp 17)
    (.seq (.reg [⟨(some 6), .assign (.const (.int .u64 0)), 25, none, []⟩,
      ⟨(some 7), .assign (.const (.bool false)), 4, none, []⟩])
    .ret)
    .skip))
  (.seq (.seq (.reg [⟨(some 18), .move (.tmp 2), 3, none, []⟩,
    ⟨(some 19), .binOp .lss 3 (.tmp 18) (.const (.int .i64 1)) 3, 4, none, []⟩,
    ⟨(some 20), .move (.tmp 19), 4, none, []⟩,
    ⟨(some 21), .move (.tmp 2), 3, some (20, false), []⟩,
    ⟨(some 22), .binOp .gtr 3 (.tmp 21) (.const (.int .i64 4294967295)) 3, 4, some (20, false), []⟩,
    ⟨(some 23), .pick (.tmp 20) (.const (.bool true)) (.tmp 22), 4, none, []⟩])
  (.cond (.tmp 23)
    (.reg [⟨(some 2), .assign (.const (.int .i64 1)), 3, none, []⟩])
    .skip))
  (.seq (.reg [⟨(some 24), .makeMap 124 none, 124, none, []⟩,
    ⟨(some 8), .assign (.tmp 24), 124, none, []⟩])
  (.seq (.seq (.reg [⟨(some 25), .move (.tmp 0), 42, none, []⟩,
    ⟨(some 26), .call ⟨.builtin .len, #[(.tmp 25)], #[42]⟩, 3, none, []⟩,
    ⟨(some 27), .move (.const (.int .i64 0)), 3, none, []⟩])
  (.block 0 (.loop (some ([1, 2, 8, 25, 26, 27], 0)) s68_0)))
  (.seq (.seq (.reg [⟨(some 34), .move (.tmp 2), 3, none, []⟩,
    ⟨(some 11), .assign (.tmp 34), 3, none, []⟩])
  (.block 2 (.loop (some ([1, 2, 8, 11], 0)) s68_1)))
  (.seq (.seq (.reg [⟨(some 13), .assign (.const (.int .i64 1)), 3, none, []⟩])
  (.block 4 (.loop (some ([1, 2, 8, 13], 0)) s68_2)))
  (.seq (.reg [⟨(some 6), .assign (.const (.int .u64 0)), 25, none, []⟩,
    ⟨(some 7), .assign (.const (.bool false)), 4, none, []⟩])
  .ret))))))))
theorem l68 : slimF Hs 68 Try.f68 = some (60, s68, [.tmp 6, .tmp 7]) := by kernel_rfl

/-! 69 kerbsuite/key.Serial -/
def s69 : SC :=
  (.seq (.reg [⟨(some 2), .assign (.const (.int .i64 0)), 3, none, []⟩])
  (.seq (.reg [⟨(some 6), .move (.tmp 0), 25, none, []⟩,
    ⟨(some 7), .call ⟨.value (.func 102), #[(.tmp 6)], #[25]⟩, 125, none, []⟩,
    ⟨(some 5), .move (.tmp 7), 125, none, []⟩,
    ⟨(some 8), .extract (.tmp 5) 0, 3, none, []⟩,
    ⟨(some 9), .extract (.tmp 5) 1, 3, none, []⟩,
    ⟨(some 3), .assign (.tmp 8), 3, none, []⟩,
    ⟨(some 4), .assign (.tmp 9), 3, none, []⟩])
  (.seq (.reg [⟨(some 10), .move (.tmp 4), 3, none, []⟩,
    ⟨(some 2), .assign (.tmp 10), 3, none, []⟩])
  .ret)))
theorem l69 : slimF Hs 69 Try.f69 = some (11, s69, [.tmp 2]) := by kernel_rfl

/-! 70 kerbsuite/key.Class -/
def s70 : SC :=
  (.seq (.reg [⟨(some 2), .assign (.const (.int .i64 0)), 3, none, []⟩])
  (.seq (.reg [⟨(some 6), .move (.tmp 0), 25, none, []⟩,
    ⟨(some 7), .call ⟨.value (.func 102), #[(.tmp 6)], #[25]⟩, 125, none, []⟩,
    ⟨(some 5), .move (.tmp 7), 125, none, []⟩,
    ⟨(some 8), .extract (.tmp 5) 0, 3, none, []⟩,
    ⟨(some 9), .extract (.tmp 5) 1, 3, none, []⟩,
    ⟨(some 3), .assign (.tmp 8), 3, none, []⟩,
    ⟨(some 4), .assign (.tmp 9), 3, none, []⟩])
  (.seq (.reg [⟨(some 10), .move (.tmp 3), 3, none, []⟩,
    ⟨(some 2), .assign (.tmp 10), 3, none, []⟩])
  .ret)))
theorem l70 : slimF Hs 70 Try.f70 = some (11, s70, [.tmp 2]) := by kernel_rfl

/-! 71 kerbsuite/key.Valid -/
def s71 : SC :=
  (.seq (.reg [⟨(some 2), .assign (.const (.bool false)), 4, none, []⟩])
  (.seq (.reg [⟨(some 3), .move (.tmp 0), 25, none, []⟩,
    ⟨(some 4), .call ⟨.value (.func 70), #[(.tmp 3)], #[25]⟩, 3, none, []⟩,
    ⟨(some 5), .binOp .neq 3 (.tmp 4) (.const (.int .i64 0)) 3, 4, none, []⟩,
    ⟨(some 2), .assign (.tmp 5), 4, none, []⟩])
  .ret))
theorem l71 : slimF Hs 71 Try.f71 = some (6, s71, [.tmp 2]) := by kernel_rfl

/-! 72 kerbsuite/replay.isSize -/
def s72 : SC :=
  (.seq (.reg [⟨(some 2), .assign (.const (.bool false)), 4, none, []⟩])
  (.seq (.reg [⟨(some 3), .move (.tmp 0), 3, none, []⟩,
    ⟨(some 4), .binOp .geq 3 (.tmp 3) (.const (.int .i64 1)) 3, 4, none, []⟩,
    ⟨(some 5), .move (.tmp 4), 4, none, []⟩,
    ⟨(some 6), .move (.tmp 0), 3, some (5, true), []⟩,
    ⟨(some 7), .binOp .leq 3 (.tmp 6) (.const (.int .i64 40)) 3, 4, some (5, true), []⟩,
    ⟨(some 8), .pick (.tmp 5) (.tmp 7) (.const (.bool false)), 4, none, []⟩,
    ⟨(some 2), .assign (.tmp 8), 4, none, []⟩])
  .ret))
theorem l72 : slimF Hs 72 Try.f72 = some (9, s72, [.tmp 2]) := by kernel_rfl

/-! 73 kerbsuite/principal.Valid -/
def s73 : SC :=
  (.seq (.reg [⟨(some 1), .box 23 (.tmp 0), 0, none, []⟩,
    ⟨(some 2), .assign (.const (.bool false)), 4, none, []⟩])
  (.seq (.reg [⟨(some 3), .fieldAddr 23 (.tmp 1) 0, 0, none, []⟩,
    ⟨(some 4), .load 9 (.tmp 3), 9, none, []⟩,
    ⟨(some 5), .call ⟨.value (.func 95), #[(.tmp 4)], #[9]⟩, 4, none, []⟩,
    ⟨(some 6), .move (.tmp 5), 4, none, []⟩,
    ⟨(some 7), .fieldAddr 23 (.tmp 1) 1, 0, some (6, true), []⟩,
    ⟨(some 8), .load 9 (.tmp 7), 9, some (6, true), []⟩,
    ⟨(some 9), .call ⟨.value (.func 96), #[(.tmp 8)], #[9]⟩, 4, some (6, true), []⟩,
    ⟨(some 10), .pick (.tmp 6) (.tmp 9) (.const (.bool false)), 4, none, []⟩,
    ⟨(some 11), .move (.tmp 10), 4, none, []⟩,
    ⟨(some 12), .fieldAddr 23 (.tmp 1) 2, 0, some (11, true), []⟩,
    ⟨(some 13), .load 9 (.tmp 12), 9, some (11, true), []⟩,
    ⟨(some 14), .call ⟨.value (.func 86), #[(.tmp 13)], #[9]⟩, 4, some (11, true), []⟩,
    ⟨(some 15), .pick (.tmp 11) (.tmp 14) (.const (.bool false)), 4, none, []⟩,
    ⟨(some 2), .assign (.tmp 15), 4, none, []⟩])
  .ret))
theorem l73 : slimF Hs 73 Try.f73 = some (16, s73, [.tmp 2]) := by kernel_rfl

/-! 74 kerbsuite/replay.isTick -/
def s74 : SC :=
  (.seq (.reg [⟨(some 2), .assign (.const (.bool false)), 4, none, []⟩])
  (.seq (.reg [⟨(some 3), .move (.tmp 0), 3, none, []⟩,
    ⟨(some 4), .binOp .geq 3 (.tmp 3) (.const (.int .i64 0)) 3, 4, none, []⟩,
    ⟨(some 5), .move (.tmp 4), 4, none, []⟩,
    ⟨(some 6), .move (.tmp 0), 3, some (5, true), []⟩,
    ⟨(some 7), .binOp .leq 3 (.tmp 6) (.const (.int .i64 199)) 3, 4, some (5, true), []⟩,
    ⟨(some 8), .pick (.tmp 5) (.tmp 7) (.const (.bool false)), 4, none, []⟩,
    ⟨(some 2), .assign (.tmp 8), 4, none, []⟩])
  .ret))
theorem l74 : slimF Hs 74 Try.f74 = some (9, s74, [.tmp 2]) := by kernel_rfl

/-! 75 slices.Contains[[]kerbsuite/api.Mark,kerbsuite/api.Mark] -/
def s75 : SC :=
  (.seq (.reg [⟨(some 3), .box 59 (.tmp 1), 0, none, []⟩,
    ⟨(some 4), .assign (.const (.bool false)), 4, none, []⟩])
  (.seq (.reg [⟨(some 5), .move (.tmp 0), 48, none, []⟩,
    ⟨(some 6), .load 59 (.tmp 3), 59, none, []⟩,
    ⟨(some 7), .call ⟨.value (.func 103), #[(.tmp 5), (.tmp 6)], #[48, 59]⟩, 3, none, []⟩,
    ⟨(some 8), .binOp .geq 3 (.tmp 7) (.const (.int .i64 0)) 3, 4, none, []⟩,
    ⟨(some 4), .assign (.tmp 8), 4, none, []⟩])
  .ret))
theorem l75 : slimF Hs 75 Try.f75 = some (9, s75, [.tmp 4]) := by kernel_rfl

/-! 76 kerbsuite/kerbsuiteref1.Valid -/
def s76 : SC :=
  (.seq (.reg [⟨(some 1), .box 23 (.tmp 0), 0, none, []⟩,
    ⟨(some 2), .assign (.const (.bool false)), 4, none, []⟩])
  (.seq (.reg [⟨(some 3), .fieldAddr 23 (.tmp 1) 0, 0, none, []⟩,
    ⟨(some 4), .load 9 (.tmp 3), 9, none, []⟩,
    ⟨(some 5), .call ⟨.value (.func 98), #[(.tmp 4)], #[9]⟩, 4, none, []⟩,
    ⟨(some 6), .move (.tmp 5), 4, none, []⟩,
    ⟨(some 7), .fieldAddr 23 (.tmp 1) 1, 0, some (6, true), []⟩,
    ⟨(some 8), .load 9 (.tmp 7), 9, some (6, true), []⟩,
    ⟨(some 9), .call ⟨.value (.func 99), #[(.tmp 8)], #[9]⟩, 4, some (6, true), []⟩,
    ⟨(some 10), .pick (.tmp 6) (.tmp 9) (.const (.bool false)), 4, none, []⟩,
    ⟨(some 11), .move (.tmp 10), 4, none, []⟩,
    ⟨(some 12), .fieldAddr 23 (.tmp 1) 2, 0, some (11, true), []⟩,
    ⟨(some 13), .load 9 (.tmp 12), 9, some (11, true), []⟩,
    ⟨(some 14), .call ⟨.value (.func 90), #[(.tmp 13)], #[9]⟩, 4, some (11, true), []⟩,
    ⟨(some 15), .pick (.tmp 11) (.tmp 14) (.const (.bool false)), 4, none, []⟩,
    ⟨(some 2), .assign (.tmp 15), 4, none, []⟩])
  .ret))
theorem l76 : slimF Hs 76 Try.f76 = some (16, s76, [.tmp 2]) := by kernel_rfl

/-! 77 kerbsuite/lifetime.Near -/
def s77 : SC :=
  (.seq (.reg [⟨(some 6), .assign (.const (.bool false)), 4, none, []⟩])
  (.seq (.reg [⟨(some 7), .move (.tmp 0), 3, none, []⟩,
    ⟨(some 8), .move (.tmp 1), 3, none, []⟩,
    ⟨(some 9), .move (.tmp 2), 3, none, []⟩,
    ⟨(some 10), .buildSlice 57 3 #[(0, (.tmp 7)), (1, (.tmp 8)), (2, (.tmp 9))], 57, none, []⟩,
    ⟨(some 11), .call ⟨.value (.func 104), #[(.tmp 10)], #[57]⟩, 4, none, []⟩,
    ⟨(some 12), .move (.tmp 11), 4, none, []⟩,
    ⟨(some 13), .move (.tmp 0), 3, some (12, true), []⟩,
    ⟨(some 14), .move (.tmp 1), 3, some (12, true), []⟩,
    ⟨(some 15), .call ⟨.builtin .max, #[(.tmp 13), (.tmp 14)], #[3, 3]⟩, 3, some (12, true), []⟩,
    ⟨(some 16), .move (.tmp 0), 3, some (12, true), []⟩,
    ⟨(some 17), .move (.tmp 1), 3, some (12, true), []⟩,
    ⟨(some 18), .call ⟨.builtin .min, #[(.tmp 16), (.tmp 17)], #[3, 3]⟩, 3, some (12, true), []⟩,
    ⟨(some 19), .binOp .sub 3 (.tmp 15) (.tmp 18) 3, 3, some (12, true), []⟩,
    ⟨(some 20), .move (.tmp 2), 3, some (12, true), []⟩,
    ⟨(some 21), .binOp .leq 3 (.tmp 19) (.tmp 20) 3, 4, some (12, true), []⟩,
    ⟨(some 22), .pick (.tmp 12) (.tmp 21) (.const (.bool false)), 4, none, []⟩,
    ⟨(some 6), .assign (.tmp 22), 4, none, []⟩])
  .ret))
theorem l77 : slimF Hs 77 Try.f77 = some (23, s77, [.tmp 6]) := by kernel_rfl

/-! 78 kerbsuite/kerbsuiteref2.Near -/
def s78 : SC :=
  (.seq (.reg [⟨(some 6), .assign (.const (.bool false)), 4, none, []⟩])
  (.seq (.seq (.reg [⟨(some 7), .move (.tmp 0), 3, none, []⟩,
    ⟨(some 8), .call ⟨.value (.func 105), #[(.tmp 7)], #[3]⟩, 4, none, []⟩,
    ⟨(some 9), .unOp .not 4 (.tmp 8), 4, none, []⟩,
    ⟨(some 10), .move (.tmp 9), 4, none, []⟩,
    ⟨(some 11), .move (.tmp 1), 3, some (10, false), []⟩,
    ⟨(some 12), .call ⟨.value (.func 105), #[(.tmp 11)], #[3]⟩, 4, some (10, false), []⟩,
    ⟨(some 13), .unOp .not 4 (.tmp 12), 4, some (10, false), []⟩,
    ⟨(some 14), .pick (.tmp 10) (.const (.bool true)) (.tmp 13), 4, none, []⟩,
    ⟨(some 15), .move (.tmp 14), 4, none, []⟩,
    ⟨(some 16), .move (.tmp 2), 3, some (15, false), []⟩,
    ⟨(some 17), .binOp .lss 3 (.tmp 16) (.const (.int .i64 0)) 3, 4, some (15, false), []⟩,
    ⟨(some 18), .pick (.tmp 15) (.const (.bool true)) (.tmp 17), 4, none, []⟩,
    ⟨(some 19), .move (.tmp 18), 4, none, []⟩,
    ⟨(some 20), .move (.tmp 2), 3, some (19, false), []⟩,
    ⟨(some 21), .binOp .gtr 3 (.tmp 20) (.const (.int .i64 4294967295)) 3, 4, some (19, false), []⟩,
    ⟨(some 22), .pick (.tmp 19) (.const (.bool true)) (.tmp 21), 4, none, []⟩])
  (.cond (.tmp 22)
    (.seq (.reg [⟨(some 6), .assign (.const (.bool false)), 4, none, []⟩])
    .ret)
    .skip))
  (.seq (.reg [⟨(some 23), .move (.tmp 0), 3, none, []⟩,
    ⟨(some 24), .move (.tmp 1), 3, none, []⟩,
    ⟨(some 25), .binOp .sub 3 (.tmp 23) (.tmp 24) 3, 3, none, []⟩,
    ⟨(some 26), .move (.tmp 2), 3, none, []⟩,
    ⟨(some 27), .binOp .leq 3 (.tmp 25) (.tmp 26) 3, 4, none, []⟩,
    ⟨(some 28), .move (.tmp 27), 4, none, []⟩,
    ⟨(some 29), .move (.tmp 1), 3, some (28, true), []⟩,
    ⟨(some 30), .move (.tmp 0), 3, some (28, true), []⟩,
    ⟨(some 31), .binOp .sub 3 (.tmp 29) (.tmp 30) 3, 3, some (28, true), []⟩,
    ⟨(some 32), .move (.tmp 2), 3, some (28, true), []⟩,
    ⟨(some 33), .binOp .leq 3 (.tmp 31) (.tmp 32) 3, 4, some (28, true), []⟩,
    ⟨(some 34), .pick (.tmp 28) (.tmp 33) (.const (.bool false)), 4, none, []⟩,
    ⟨(some 6), .assign (.tmp 34), 4, none, []⟩])
  .ret)))
theorem l78 : slimF Hs 78 Try.f78 = some (35, s78, [.tmp 6]) := by kernel_rfl

/-! 86 kerbsuite/principal.ValidRealm -/
def s86 : SC :=
  (.seq (.reg [⟨(some 2), .assign (.const (.bool false)), 4, none, []⟩])
  (.seq (.reg [⟨(some 3), .move (.tmp 0), 9, none, []⟩,
    ⟨(some 4), .binOp .neq 9 (.tmp 3) (.const (.string ⟨#[]⟩)) 9, 4, none, []⟩,
    ⟨(some 5), .move (.tmp 4), 4, none, []⟩,
    ⟨(some 6), .move (.tmp 0), 9, some (5, true), []⟩,
    ⟨(some 7), .call ⟨.value (.func 109), #[(.tmp 6), (.const (.string ⟨#[64]⟩))], #[9, 9]⟩, 4, some (5, true), []⟩,
    ⟨(some 8), .pick (.tmp 5) (.tmp 7) (.const (.bool false)), 4, none, []⟩,
    ⟨(some 2), .assign (.tmp 8), 4, none, []⟩])
  .ret))
theorem l86 : slimF Hs 86 Try.f86 = some (9, s86, [.tmp 2]) := by kernel_rfl

/-! 90 kerbsuite/kerbsuiteref1.ValidRealm -/
def s90 : SC :=
  (.seq (.reg [⟨(some 2), .assign (.const (.bool false)), 4, none, []⟩])
  (.seq (.reg [⟨(some 3), .move (.tmp 0), 9, none, []⟩,
    ⟨(some 4), .call ⟨.builtin .len, #[(.tmp 3)], #[9]⟩, 3, none, []⟩,
    ⟨(some 5), .binOp .gtr 3 (.tmp 4) (.const (.int .i64 0)) 3, 4, none, []⟩,
    ⟨(some 6), .move (.tmp 5), 4, none, []⟩,
    ⟨(some 7), .move (.tmp 0), 9, some (6, true), []⟩,
    ⟨(some 8), .call ⟨.value (.func 111), #[(.tmp 7), (.const (.string ⟨#[64]⟩))], #[9, 9]⟩, 4, some (6, true), []⟩,
    ⟨(some 9), .pick (.tmp 6) (.tmp 8) (.const (.bool false)), 4, none, []⟩,
    ⟨(some 2), .assign (.tmp 9), 4, none, []⟩])
  .ret))
theorem l90 : slimF Hs 90 Try.f90 = some (10, s90, [.tmp 2]) := by kernel_rfl

/-! 92 kerbsuite/kerbsuitedata.Realms -/
def s92 : SC :=
  (.seq (.reg [⟨(some 0), .assign (.const (.slice none 0 0)), 89, none, []⟩])
  (.seq (.reg [⟨(some 1), .buildSlice 89 3 #[(0, (.const (.string ⟨#[65, 84, 72]⟩))), (1, (.const (.string ⟨#[66, 79, 83]⟩))), (2, (.const (.string ⟨#[67, 65, 77]⟩)))], 89, none, []⟩,
    ⟨(some 0), .assign (.tmp 1), 89, none, []⟩])
  .ret))
theorem l92 : slimF Hs 92 Try.f92 = some (2, s92, [.tmp 0]) := by kernel_rfl

/-! 95 kerbsuite/principal.ValidName -/
def s95 : SC :=
  (.seq (.reg [⟨(some 2), .assign (.const (.bool false)), 4, none, []⟩])
  (.seq (.reg [⟨(some 3), .move (.tmp 0), 9, none, []⟩,
    ⟨(some 4), .binOp .neq 9 (.tmp 3) (.const (.string ⟨#[]⟩)) 9, 4, none, []⟩,
    ⟨(some 5), .move (.tmp 4), 4, none, []⟩,
    ⟨(some 6), .move (.tmp 0), 9, some (5, true), []⟩,
    ⟨(some 7), .call ⟨.value (.func 109), #[(.tmp 6), (.const (.string ⟨#[46, 64]⟩))], #[9, 9]⟩, 4, some (5, true), []⟩,
    ⟨(some 8), .pick (.tmp 5) (.tmp 7) (.const (.bool false)), 4, none, []⟩,
    ⟨(some 2), .assign (.tmp 8), 4, none, []⟩])
  .ret))
theorem l95 : slimF Hs 95 Try.f95 = some (9, s95, [.tmp 2]) := by kernel_rfl

/-! 96 kerbsuite/principal.ValidInstance -/
def s96 : SC :=
  (.seq (.reg [⟨(some 2), .assign (.const (.bool false)), 4, none, []⟩])
  (.seq (.reg [⟨(some 3), .move (.tmp 0), 9, none, []⟩,
    ⟨(some 4), .call ⟨.value (.func 109), #[(.tmp 3), (.const (.string ⟨#[64]⟩))], #[9, 9]⟩, 4, none, []⟩,
    ⟨(some 2), .assign (.tmp 4), 4, none, []⟩])
  .ret))
theorem l96 : slimF Hs 96 Try.f96 = some (5, s96, [.tmp 2]) := by kernel_rfl

/-! 97 kerbsuite/ticket.outside -/
def s97 : SC :=
  (.seq (.reg [⟨(some 4), .assign (.const (.bool false)), 4, none, []⟩])
  (.seq (.reg [⟨(some 5), .move (.tmp 0), 3, none, []⟩,
    ⟨(some 6), .binOp .lss 3 (.tmp 5) (.const (.int .i64 0)) 3, 4, none, []⟩,
    ⟨(some 7), .move (.tmp 6), 4, none, []⟩,
    ⟨(some 8), .move (.tmp 0), 3, some (7, false), []⟩,
    ⟨(some 9), .move (.tmp 1), 3, some (7, false), []⟩,
    ⟨(some 10), .binOp .gtr 3 (.tmp 8) (.tmp 9) 3, 4, some (7, false), []⟩,
    ⟨(some 11), .pick (.tmp 7) (.const (.bool true)) (.tmp 10), 4, none, []⟩,
    ⟨(some 4), .assign (.tmp 11), 4, none, []⟩])
  .ret))
theorem l97 : slimF Hs 97 Try.f97 = some (12, s97, [.tmp 4]) := by kernel_rfl

/-! 98 kerbsuite/kerbsuiteref1.ValidName -/
def s98 : SC :=
  (.seq (.reg [⟨(some 2), .assign (.const (.bool false)), 4, none, []⟩])
  (.seq (.reg [⟨(some 3), .move (.tmp 0), 9, none, []⟩,
    ⟨(some 4), .call ⟨.builtin .len, #[(.tmp 3)], #[9]⟩, 3, none, []⟩,
    ⟨(some 5), .binOp .gtr 3 (.tmp 4) (.const (.int .i64 0)) 3, 4, none, []⟩,
    ⟨(some 6), .move (.tmp 5), 4, none, []⟩,
    ⟨(some 7), .move (.tmp 0), 9, some (6, true), []⟩,
    ⟨(some 8), .call ⟨.value (.func 111), #[(.tmp 7), (.const (.string ⟨#[46, 64]⟩))], #[9, 9]⟩, 4, some (6, true), []⟩,
    ⟨(some 9), .pick (.tmp 6) (.tmp 8) (.const (.bool false)), 4, none, []⟩,
    ⟨(some 2), .assign (.tmp 9), 4, none, []⟩])
  .ret))
theorem l98 : slimF Hs 98 Try.f98 = some (10, s98, [.tmp 2]) := by kernel_rfl

/-! 99 kerbsuite/kerbsuiteref1.ValidInstance -/
def s99 : SC :=
  (.seq (.reg [⟨(some 2), .assign (.const (.bool false)), 4, none, []⟩])
  (.seq (.reg [⟨(some 3), .move (.tmp 0), 9, none, []⟩,
    ⟨(some 4), .call ⟨.value (.func 111), #[(.tmp 3), (.const (.string ⟨#[64]⟩))], #[9, 9]⟩, 4, none, []⟩,
    ⟨(some 2), .assign (.tmp 4), 4, none, []⟩])
  .ret))
theorem l99 : slimF Hs 99 Try.f99 = some (5, s99, [.tmp 2]) := by kernel_rfl

/-! 100 kerbsuite/kerbsuiteref3.Class -/
def s100 : SC :=
  (.seq (.reg [⟨(some 2), .assign (.const (.int .i64 0)), 3, none, []⟩])
  (.seq (.seq (.reg [⟨(some 3), .move (.tmp 0), 25, none, []⟩,
    ⟨(some 4), .call ⟨.value (.func 26), #[(.tmp 3)], #[25]⟩, 4, none, []⟩,
    ⟨(some 5), .unOp .not 4 (.tmp 4), 4, none, []⟩])
  (.cond (.tmp 5)
    (.seq (.reg [⟨(some 2), .assign (.const (.int .i64 0)), 3, none, []⟩])
    .ret)
    .skip))
  (.seq (.reg [⟨(some 6), .move (.tmp 0), 25, none, []⟩,
    ⟨(some 7), .binOp .shr 25 (.tmp 6) (.const (.int .u64 56)) 101, 25, none, []⟩,
    ⟨(some 8), .convert 25 3 (.tmp 7), 3, none, []⟩,
    ⟨(some 2), .assign (.tmp 8), 3, none, []⟩])
  .ret)))
theorem l100 : slimF Hs 100 Try.f100 = some (9, s100, [.tmp 2]) := by kernel_rfl

/-! 101 kerbsuite/kerbsuiteref6.within -/
def s101 : SC :=
  (.seq (.reg [⟨(some 4), .assign (.const (.bool false)), 4, none, []⟩])
  (.seq (.reg [⟨(some 5), .move (.tmp 0), 3, none, []⟩,
    ⟨(some 6), .binOp .geq 3 (.tmp 5) (.const (.int .i64 0)) 3, 4, none, []⟩,
    ⟨(some 7), .move (.tmp 6), 4, none, []⟩,
    ⟨(some 8), .move (.tmp 0), 3, some (7, true), []⟩,
    ⟨(some 9), .move (.tmp 1), 3, some (7, true), []⟩,
    ⟨(some 10), .binOp .leq 3 (.tmp 8) (.tmp 9) 3, 4, some (7, true), []⟩,
    ⟨(some 11), .pick (.tmp 7) (.tmp 10) (.const (.bool false)), 4, none, []⟩,
    ⟨(some 4), .assign (.tmp 11), 4, none, []⟩])
  .ret))
theorem l101 : slimF Hs 101 Try.f101 = some (12, s101, [.tmp 4]) := by kernel_rfl

/-! 102 kerbsuite/key.split -/
def s102 : SC :=
  (.seq (.reg [⟨(some 2), .assign (.const (.int .i64 0)), 3, none, []⟩,
    ⟨(some 3), .assign (.const (.int .i64 0)), 3, none, []⟩])
  (.seq (.reg [⟨(some 4), .move (.tmp 0), 25, none, []⟩,
    ⟨(some 5), .binOp .shr 25 (.tmp 4) (.const (.int .u64 56)) 101, 25, none, []⟩,
    ⟨(some 6), .convert 25 3 (.tmp 5), 3, none, []⟩,
    ⟨(some 7), .move (.tmp 0), 25, none, []⟩,
    ⟨(some 8), .binOp .and 25 (.tmp 7) (.const (.int .u64 72057594037927935)) 25, 25, none, []⟩,
    ⟨(some 9), .convert 25 3 (.tmp 8), 3, none, []⟩,
    ⟨(some 2), .assign (.tmp 6), 3, none, []⟩,
    ⟨(some 3), .assign (.tmp 9), 3, none, []⟩])
  (.seq (.seq (.reg [⟨(some 10), .move (.tmp 0), 25, none, []⟩,
    ⟨(some 11), .binOp .eql 25 (.tmp 10) (.const (.int .u64 0)) 25, 4, none, []⟩,
    ⟨(some 12), .move (.tmp 11), 4, none, []⟩,
    ⟨(some 13), .move (.tmp 2), 3, some (12, false), []⟩,
    ⟨(some 14), .move (.tmp 3), 3, some (12, false), []⟩,
    ⟨(some 15), .call ⟨.value (.func 67), #[(.tmp 13), (.tmp 14)], #[3, 3]⟩, 25, some (12, false), []⟩,
    ⟨(some 16), .move (.tmp 0), 25, some (12, false), []⟩,
    ⟨(some 17), .binOp .neq 25 (.tmp 15) (.tmp 16) 25, 4, some (12, false), []⟩,
    ⟨(some 18), .pick (.tmp 12) (.const (.bool true)) (.tmp 17), 4, none, []⟩])
  (.cond (.tmp 18)
    (.seq (.reg [⟨(some 2), .assign (.const (.int .i64 0)), 3, none, []⟩,
      ⟨(some 3), .assign (.const (.int .i64 0)), 3, none, []⟩])
    .ret)
    .skip))
  (.seq (.reg [⟨(some 19), .move (.tmp 2), 3, none, []⟩,
    ⟨(some 20), .move (.tmp 3), 3, none, []⟩,
    ⟨(some 2), .assign (.tmp 19), 3, none, []⟩,
    ⟨(some 3), .assign (.tmp 20), 3, none, []⟩])
  .ret))))
theorem l102 : slimF Hs 102 Try.f102 = some (21, s102, [.tmp 2, .tmp 3]) := by kernel_rfl

/-! 103 slices.Index[[]kerbsuite/api.Mark,kerbsuite/api.Mark] -/
def s103_0 : SC :=
  (.seq (.reg [⟨(some 9), .binOp .lss 3 (.tmp 8) (.tmp 7) 3, 0, none, []⟩])
  (.seq (.cond (.tmp 9)
    .skip
    (.exit 0))
  (.seq (.block 1 (.seq (.reg [⟨(some 10), .move (.tmp 8), 3, none, []⟩,
    ⟨(some 5), .assign (.tmp 10), 3, none, []⟩])
  (.seq (.drw [(⟨(some 11), .load 59 (.tmp 3), 59, none, []⟩, []),
    (⟨(some 12), .move (.tmp 0), 48, none, []⟩, [0]),
    (⟨(some 13), .move (.tmp 5), 3, none, []⟩, [0]),
    (⟨(some 14), .indexAddr 48 (.tmp 12) (.tmp 13), 0, none, []⟩, [0]),
    (⟨(some 15), .load 59 (.tmp 14), 59, none, []⟩, [0]),
    (⟨(some 16), .binOp .eql 59 (.tmp 11) (.tmp 15) 59, 4, none, []⟩, [])])
  (.cond (.tmp 16)
    (.seq (.reg [⟨(some 17), .move (.tmp 5), 3, none, []⟩,
      ⟨(some 4), .assign (.tmp 17), 3, none, []⟩])
    .ret)
    .skip))))
  (.reg [⟨(some 18), .binOp .add 3 (.tmp 8) (.const (.int .i64 1)) 3, 3, none, []⟩,
    ⟨(some 8), .move (.tmp 18), 3, none, []⟩]))))
def s103 : SC :=
  (.seq (.reg [⟨(some 3), .box 59 (.tmp 1), 0, none, []⟩,
    ⟨(some 4), .assign (.const (.int .i64 0)), 3, none, []⟩])
  (.seq (.seq (.reg [⟨(some 6), .move (.tmp 0), 48, none, []⟩,
    ⟨(some 7), .call ⟨.builtin .len, #[(.tmp 6)], #[48]⟩, 3, none, []⟩,
    ⟨(some 8), .move (.const (.int .i64 0)), 3, none, []⟩])
  (.block 0 (.loop (some ([0, 3, 7, 8], 0)) s103_0)))
  (.seq (.reg [⟨(some 4), .assign (.const (.int .i64 (-1))), 3, none, []⟩])
  .ret)))
theorem l103 : slimF Hs 103 Try.f103 = some (19, s103, [.tmp 4]) := by kernel_rfl

/-! 104 kerbsuite/lifetime.times -/
def s104_0 : SC :=
  (.seq (.reg [⟨(some 8), .binOp .lss 3 (.tmp 7) (.tmp 6) 3, 0, none, []⟩])
  (.seq (.cond (.tmp 8)
    .skip
    (.exit 0))
  (.seq (.block 1 (.seq (.reg [⟨(some 9), .indexAddr 57 (.tmp 5) (.tmp 7), 0, none, []⟩,
    ⟨(some 10), .load 3 (.tmp 9), 3, none, []⟩,
    ⟨(some 4), .assign (.tmp 10), 3, none, []⟩])
  (.seq (.reg [⟨(some 11), .move (.tmp 4), 3, none, []⟩,
    ⟨(some 12), .call ⟨.value (.func 115), #[(.tmp 11)], #[3]⟩, 4, none, []⟩,
    ⟨(some 13), .unOp .not 4 (.tmp 12), 4, none, []⟩])
  (.cond (.tmp 13)
    (.seq (.reg [⟨(some 2), .assign (.const (.bool false)), 4, none, []⟩])
    .ret)
    .skip))))
  (.reg [⟨(some 14), .binOp .add 3 (.tmp 7) (.const (.int .i64 1)) 3, 3, none, []⟩,
    ⟨(some 7), .move (.tmp 14), 3, none, []⟩]))))
def s104 : SC :=
  (.seq (.reg [⟨(some 2), .assign (.const (.bool false)), 4, none, []⟩])
  (.seq (.seq (.reg [⟨(some 5), .move (.tmp 0), 57, none, []⟩,
    ⟨(some 6), .call ⟨.builtin .len, #[(.tmp 5)], #[57]⟩, 3, none, []⟩,
    ⟨(some 7), .move (.const (.int .i64 0)), 3, none, []⟩])
  (.block 0 (.loop (some ([5, 6, 7], 0)) s104_0)))
  (.seq (.reg [⟨(some 2), .assign (.const (.bool true)), 4, none, []⟩])
  .ret)))
theorem l104 : slimF Hs 104 Try.f104 = some (15, s104, [.tmp 2]) := by kernel_rfl

/-! 105 kerbsuite/kerbsuiteref2.time -/
def s105 : SC :=
  (.seq (.reg [⟨(some 2), .assign (.const (.bool false)), 4, none, []⟩])
  (.seq (.reg [⟨(some 3), .move (.tmp 0), 3, none, []⟩,
    ⟨(some 4), .binOp .geq 3 (.tmp 3) (.const (.int .i64 0)) 3, 4, none, []⟩,
    ⟨(some 5), .move (.tmp 4), 4, none, []⟩,
    ⟨(some 6), .move (.tmp 0), 3, some (5, true), []⟩,
    ⟨(some 7), .binOp .leq 3 (.tmp 6) (.const (.int .i64 4294967295)) 3, 4, some (5, true), []⟩,
    ⟨(some 8), .pick (.tmp 5) (.tmp 7) (.const (.bool false)), 4, none, []⟩,
    ⟨(some 2), .assign (.tmp 8), 4, none, []⟩])
  .ret))
theorem l105 : slimF Hs 105 Try.f105 = some (9, s105, [.tmp 2]) := by kernel_rfl

/-! 109 kerbsuite/principal.printable -/
def s109_0 : SC :=
  (.seq (.reg [⟨(some 9), .binOp .lss 3 (.tmp 8) (.tmp 7) 3, 4, none, []⟩])
  (.seq (.cond (.tmp 9)
    .skip
    (.exit 0))
  (.seq (.block 1 (.seq (.reg [⟨(some 10), .move (.tmp 8), 3, none, []⟩,
    ⟨(some 5), .assign (.tmp 10), 3, none, []⟩])
  (.seq (.reg [⟨(some 11), .move (.tmp 0), 9, none, []⟩,
    ⟨(some 12), .move (.tmp 5), 3, none, []⟩,
    ⟨(some 13), .index 9 (.tmp 11) (.tmp 12), 5, none, []⟩,
    ⟨(some 14), .binOp .lss 5 (.tmp 13) (.const (.int .u8 33)) 5, 4, none, []⟩,
    ⟨(some 15), .move (.tmp 14), 4, none, []⟩,
    ⟨(some 16), .move (.tmp 0), 9, some (15, false), []⟩,
    ⟨(some 17), .move (.tmp 5), 3, some (15, false), []⟩,
    ⟨(some 18), .index 9 (.tmp 16) (.tmp 17), 5, some (15, false), []⟩,
    ⟨(some 19), .binOp .gtr 5 (.tmp 18) (.const (.int .u8 126)) 5, 4, some (15, false), []⟩,
    ⟨(some 20), .pick (.tmp 15) (.const (.bool true)) (.tmp 19), 4, none, []⟩,
    ⟨(some 21), .move (.tmp 20), 4, none, []⟩,
    ⟨(some 22), .move (.tmp 1), 9, some (21, false), []⟩,
    ⟨(some 23), .move (.tmp 0), 9, some (21, false), []⟩,
    ⟨(some 24), .move (.tmp 5), 3, some (21, false), []⟩,
    ⟨(some 25), .index 9 (.tmp 23) (.tmp 24), 5, some (21, false), []⟩,
    ⟨(some 26), .call ⟨.value (.func 127), #[(.tmp 22), (.tmp 25)], #[9, 5]⟩, 3, some (21, false), []⟩,
    ⟨(some 27), .binOp .geq 3 (.tmp 26) (.const (.int .i64 0)) 3, 4, some (21, false), []⟩,
    ⟨(some 28), .pick (.tmp 21) (.const (.bool true)) (.tmp 27), 4, none, []⟩])
  (.cond (.tmp 28)
    (.seq (.reg [⟨(some 4), .assign (.const (.bool false)), 4, none, []⟩])
    .ret)
    .skip))))
  (.reg [⟨(some 29), .binOp .add 3 (.tmp 8) (.const (.int .i64 1)) 3, 3, none, []⟩,
    ⟨(some 8), .move (.tmp 29), 3, none, []⟩]))))
def s109 : SC :=
  (.seq (.reg [⟨(some 4), .assign (.const (.bool false)), 4, none, []⟩])
  (.seq (.seq (.reg [⟨(some 6), .move (.tmp 0), 9, none, []⟩,
    ⟨(some 7), .call ⟨.builtin .len, #[(.tmp 6)], #[9]⟩, 3, none, []⟩,
    ⟨(some 8), .move (.const (.int .i64 0)), 3, none, []⟩])
  (.block 0 (.loop (some ([0, 1, 7, 8], 0)) s109_0)))
  (.seq (.reg [⟨(some 30), .move (.tmp 0), 9, none, []⟩,
    ⟨(some 31), .call ⟨.builtin .len, #[(.tmp 30)], #[9]⟩, 3, none, []⟩,
    ⟨(some 32), .binOp .leq 3 (.tmp 31) (.const (.int .i64 39)) 3, 4, none, []⟩,
    ⟨(some 4), .assign (.tmp 32), 4, none, []⟩])
  .ret)))
theorem l109 : slimF Hs 109 Try.f109 = some (33, s109, [.tmp 4]) := by kernel_rfl

/-! 111 kerbsuite/kerbsuiteref1.text -/
def s111_0 : SC :=
  (.seq (.seq (.reg [⟨(some 23), .move (.tmp 6), 3, none, []⟩,
    ⟨(some 24), .move (.tmp 1), 9, none, []⟩,
    ⟨(some 25), .call ⟨.builtin .len, #[(.tmp 24)], #[9]⟩, 3, none, []⟩,
    ⟨(some 26), .binOp .lss 3 (.tmp 23) (.tmp 25) 3, 4, none, []⟩])
  (.cond (.tmp 26)
    .skip
    (.exit 2)))
  (.seq (.block 3 (.seq (.drw [(⟨(some 29), .move (.tmp 0), 9, none, []⟩, []),
    (⟨(some 30), .move (.tmp 5), 3, none, []⟩, []),
    (⟨(some 31), .index 9 (.tmp 29) (.tmp 30), 5, none, []⟩, []),
    (⟨(some 32), .move (.tmp 1), 9, none, []⟩, []),
    (⟨(some 33), .move (.tmp 6), 3, none, []⟩, []),
    (⟨(some 34), .index 9 (.tmp 32) (.tmp 33), 5, none, []⟩, []),
    (⟨(some 35), .binOp .eql 5 (.tmp 31) (.tmp 34) 5, 4, none, []⟩, [])])
  (.cond (.tmp 35)
    (.seq (.reg [⟨(some 4), .assign (.const (.bool false)), 4, none, []⟩])
    .ret)
    .skip)))
  (.reg [⟨(some 27), .move (.tmp 6), 3, none, []⟩,
    ⟨(some 28), .binOp .add 3 (.tmp 27) (.const (.int .i64 1)) 3, 3, none, []⟩,
    ⟨(some 6), .assign (.tmp 28), 3, none, []⟩])))
def s111_1 : SC :=
  (.seq (.seq (.reg [⟨(some 7), .move (.tmp 5), 3, none, []⟩,
    ⟨(some 8), .move (.tmp 0), 9, none, []⟩,
    ⟨(some 9), .call ⟨.builtin .len, #[(.tmp 8)], #[9]⟩, 3, none, []⟩,
    ⟨(some 10), .binOp .lss 3 (.tmp 7) (.tmp 9) 3, 4, none, []⟩])
  (.cond (.tmp 10)
    .skip
    (.exit 0)))
  (.seq (.block 1 (.seq (.seq (.reg [⟨(some 13), .move (.tmp 0), 9, none, []⟩,
    ⟨(some 14), .move (.tmp 5), 3, none, []⟩,
    ⟨(some 15), .index 9 (.tmp 13) (.tmp 14), 5, none, []⟩,
    ⟨(some 16), .binOp .lss 5 (.tmp 15) (.const (.int .u8 33)) 5, 4, none, []⟩,
    ⟨(some 17), .move (.tmp 16), 4, none, []⟩,
    ⟨(some 18), .move (.tmp 0), 9, some (17, false), []⟩,
    ⟨(some 19), .move (.tmp 5), 3, some (17, false), []⟩,
    ⟨(some 20), .index 9 (.tmp 18) (.tmp 19), 5, some (17, false), []⟩,
    ⟨(some 21), .binOp .gtr 5 (.tmp 20) (.const (.int .u8 126)) 5, 4, some (17, false), []⟩,
    ⟨(some 22), .pick (.tmp 17) (.const (.bool true)) (.tmp 21), 4, none, []⟩])
  (.cond (.tmp 22)
    (.seq (.reg [⟨(some 4), .assign (.const (.bool false)), 4, none, []⟩])
    .ret)
    .skip))
  (.seq (.reg [⟨(some 6), .assign (.const (.int .i64 0)), 3, none, []⟩])
  (.block 2 (.loop (some ([0, 1, 5, 6], 0)) s111_0)))))
  (.reg [⟨(some 11), .move (.tmp 5), 3, none, []⟩,
    ⟨(some 12), .binOp .add 3 (.tmp 11) (.const (.int .i64 1)) 3, 3, none, []⟩,
    ⟨(some 5), .assign (.tmp 12), 3, none, []⟩])))
def s111 : SC :=
  (.seq (.reg [⟨(some 4), .assign (.const (.bool false)), 4, none, []⟩])
  (.seq (.seq (.reg [⟨(some 5), .assign (.const (.int .i64 0)), 3, none, []⟩])
  (.block 0 (.loop (some ([0, 1, 5], 0)) s111_1)))
  (.seq (.reg [⟨(some 36), .move (.tmp 0), 9, none, []⟩,
    ⟨(some 37), .call ⟨.builtin .len, #[(.tmp 36)], #[9]⟩, 3, none, []⟩,
    ⟨(some 38), .binOp .leq 3 (.tmp 37) (.const (.int .i64 39)) 3, 4, none, []⟩,
    ⟨(some 4), .assign (.tmp 38), 4, none, []⟩])
  .ret)))
theorem l111 : slimF Hs 111 Try.f111 = some (39, s111, [.tmp 4]) := by kernel_rfl

/-! 115 kerbsuite/lifetime.isTime -/
def s115 : SC :=
  (.seq (.reg [⟨(some 2), .assign (.const (.bool false)), 4, none, []⟩])
  (.seq (.reg [⟨(some 3), .move (.tmp 0), 3, none, []⟩,
    ⟨(some 4), .binOp .geq 3 (.tmp 3) (.const (.int .i64 0)) 3, 4, none, []⟩,
    ⟨(some 5), .move (.tmp 4), 4, none, []⟩,
    ⟨(some 6), .move (.tmp 0), 3, some (5, true), []⟩,
    ⟨(some 7), .binOp .leq 3 (.tmp 6) (.const (.int .i64 4294967295)) 3, 4, some (5, true), []⟩,
    ⟨(some 8), .pick (.tmp 5) (.tmp 7) (.const (.bool false)), 4, none, []⟩,
    ⟨(some 2), .assign (.tmp 8), 4, none, []⟩])
  .ret))
theorem l115 : slimF Hs 115 Try.f115 = some (9, s115, [.tmp 2]) := by kernel_rfl

/-! 127 strings.IndexByte -/
def s127 : SC :=
  (.seq (.reg [⟨(some 4), .assign (.const (.int .i64 0)), 3, none, []⟩])
  (.seq (.reg [⟨(some 5), .move (.tmp 0), 9, none, []⟩,
    ⟨(some 6), .move (.tmp 1), 5, none, []⟩,
    ⟨(some 7), .call ⟨.value (.func 136), #[(.tmp 5), (.tmp 6)], #[9, 5]⟩, 3, none, []⟩,
    ⟨(some 4), .assign (.tmp 7), 3, none, []⟩])
  .ret))
theorem l127 : slimF Hs 127 Try.f127 = some (8, s127, [.tmp 4]) := by kernel_rfl

end Ab
