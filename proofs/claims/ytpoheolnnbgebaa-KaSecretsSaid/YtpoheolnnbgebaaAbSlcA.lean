/- A part of the proof of a row by an interpreter that is proved sound; no conditions of its own. -/
import Derived.Test.YtpoheolnnbgebaaAbEv
import Derived.KernelRfl
import Derived.Test.YtpoheolnnbgebaaProg
namespace Ab
open Go Go.Proofs
set_option maxRecDepth 100000

def Hs : Hints where
  inPlace := fun f => f == 106
  own := fun f => f == 74 || f == 30 || f == 34 || f == 58 || f == 32 || f == 78 || f == 41 || f == 45 || f == 61 || f == 44 || f == 105
  head := fun f b => 
    if f == 3 && b == 0 then some ([2, 3, 5], 0) else 
    if f == 4 && b == 0 then some ([1, 2, 3, 4, 5, 11], 0) else 
    if f == 5 && b == 0 then some ([2, 3, 5], 0) else 
    if f == 6 && b == 0 then some ([2, 3, 5], 0) else 
    if f == 59 && b == 0 then some ([0, 3, 7, 8], 0) else 
    if f == 62 && b == 0 then some ([3], 0) else 
    if f == 64 && b == 0 then some ([0, 3, 4], 0) else 
    if f == 76 && b == 0 then some ([0, 2, 7, 12, 13], 0) else 
    if f == 77 && b == 0 then some ([0, 1, 5], 0) else 
    if f == 77 && b == 2 then some ([0, 1, 5, 6], 0) else 
    if f == 78 && b == 0 then some ([1, 2, 3, 9, 10], 0) else 
    if f == 91 && b == 0 then some ([0, 1, 4, 7, 13], 0) else 
    if f == 102 && b == 0 then some ([4, 10, 11, 12], 0) else 
    if f == 104 && b == 0 then some ([0, 1, 7, 8], 0) else 
    if f == 106 && b == 0 then some ([0, 2, 3], 0) else 
    if f == 109 && b == 0 then some ([3, 12, 14, 28, 29, 30], 0) else 
    if f == 112 && b == 0 then some ([0, 1, 7, 8], 0) else 
    if f == 115 && b == 0 then some ([0, 1, 7, 8], 0) else none
  fresh := fun f r i => 
    if f == 64 && r == 1 && i == 0 then [0] else []

theorem tS0 : sizeT Try.prog 0 = some 1 := idr (by kernel_rfl)
theorem tA0 : isAggT Try.prog 0 = some false := idr (by kernel_rfl)
theorem tU3 : Try.prog.underlying 3 = some (.int .i64) := idr (by kernel_rfl)
theorem tS3 : sizeT Try.prog 3 = some 1 := idr (by kernel_rfl)
theorem tA3 : isAggT Try.prog 3 = some false := idr (by kernel_rfl)
theorem tz3 : zeroA Try.prog 3 = some [.d (.int .i64 0)] := by kernel_rfl
theorem tv3 : zeroV Try.prog 3 = some (.d (.int .i64 0)) := idr (by kernel_rfl)
theorem tU4 : Try.prog.underlying 4 = some (.bool) := idr (by kernel_rfl)
theorem tS4 : sizeT Try.prog 4 = some 1 := idr (by kernel_rfl)
theorem tA4 : isAggT Try.prog 4 = some false := idr (by kernel_rfl)
theorem tz4 : zeroA Try.prog 4 = some [.d (.bool false)] := by kernel_rfl
theorem tv4 : zeroV Try.prog 4 = some (.d (.bool false)) := idr (by kernel_rfl)
theorem tU5 : Try.prog.underlying 5 = some (.int .u8) := idr (by kernel_rfl)
theorem tS5 : sizeT Try.prog 5 = some 1 := idr (by kernel_rfl)
theorem tA5 : isAggT Try.prog 5 = some false := idr (by kernel_rfl)
theorem tz5 : zeroA Try.prog 5 = some [.d (.int .u8 0)] := by kernel_rfl
theorem tv5 : zeroV Try.prog 5 = some (.d (.int .u8 0)) := idr (by kernel_rfl)
theorem tU9 : Try.prog.underlying 9 = some (.string) := idr (by kernel_rfl)
theorem tS9 : sizeT Try.prog 9 = some 1 := idr (by kernel_rfl)
theorem tA9 : isAggT Try.prog 9 = some false := idr (by kernel_rfl)
theorem tz9 : zeroA Try.prog 9 = some [.d (.str ByteArray.empty)] := by kernel_rfl
theorem tv9 : zeroV Try.prog 9 = some (.d (.str ByteArray.empty)) := idr (by kernel_rfl)
theorem tS23 : sizeT Try.prog 23 = some 3 := idr (by kernel_rfl)
theorem tA23 : isAggT Try.prog 23 = some true := idr (by kernel_rfl)
theorem tz23 : zeroA Try.prog 23 = some [.d (.str ByteArray.empty), .d (.str ByteArray.empty), .d (.str ByteArray.empty)] := by kernel_rfl
theorem tv23 : zeroV Try.prog 23 = some (.agg [.d (.str ByteArray.empty), .d (.str ByteArray.empty), .d (.str ByteArray.empty)]) := idr (by kernel_rfl)
theorem tQ23 : Try.prog.eqGuardType Try.prog.depth 23 = false := idr (by kernel_rfl)
theorem tX23 (a0 b0 : ByteArray) (a1 b1 : ByteArray) (a2 b2 : ByteArray) : eqT Try.prog 8 23 [.d (.str a0), .d (.str a1), .d (.str a2)] [.d (.str b0), .d (.str b1), .d (.str b2)] = some ((a0 == b0) && ((a1 == b1) && ((a2 == b2) && true))) := idr (by kernel_rfl)
theorem tO23 : structOk Try.prog 23 = true := idr (by kernel_rfl)
theorem tT23_0 : fieldTy Try.prog 23 0 = 9 := idr (by kernel_rfl)
theorem tT23_1 : fieldTy Try.prog 23 1 = 9 := idr (by kernel_rfl)
theorem tT23_2 : fieldTy Try.prog 23 2 = 9 := idr (by kernel_rfl)
theorem tF23_0 : fieldT Try.prog 23 0 = some (0, 1, false) := idr (by kernel_rfl)
theorem tF23_1 : fieldT Try.prog 23 1 = some (1, 1, false) := idr (by kernel_rfl)
theorem tF23_2 : fieldT Try.prog 23 2 = some (2, 1, false) := idr (by kernel_rfl)
theorem tU24 : Try.prog.underlying 24 = some (.slice 5) := idr (by kernel_rfl)
theorem tS24 : sizeT Try.prog 24 = some 1 := idr (by kernel_rfl)
theorem tA24 : isAggT Try.prog 24 = some false := idr (by kernel_rfl)
theorem tE24 : elemT Try.prog 24 = some (1, 1) := idr (by kernel_rfl)
theorem tZ24 : zsizeT Try.prog 24 = some 1 := idr (by kernel_rfl)
theorem tz24 : zeroA Try.prog 24 = some [.nilsl 1] := by kernel_rfl
theorem tv24 : zeroV Try.prog 24 = some (.nilsl 1) := idr (by kernel_rfl)
theorem tS26 : sizeT Try.prog 26 = some 10 := idr (by kernel_rfl)
theorem tA26 : isAggT Try.prog 26 = some true := idr (by kernel_rfl)
theorem tz26 : zeroA Try.prog 26 = some [.d (.int .i64 0), .d (.str ByteArray.empty), .d (.str ByteArray.empty), .d (.str ByteArray.empty), .d (.int .i64 0), .d (.str ByteArray.empty), .nilsl 1, .d (.str ByteArray.empty), .d (.str ByteArray.empty), .nilsl 1] := by kernel_rfl
theorem tv26 : zeroV Try.prog 26 = some (.agg [.d (.int .i64 0), .d (.str ByteArray.empty), .d (.str ByteArray.empty), .d (.str ByteArray.empty), .d (.int .i64 0), .d (.str ByteArray.empty), .nilsl 1, .d (.str ByteArray.empty), .d (.str ByteArray.empty), .nilsl 1]) := idr (by kernel_rfl)
theorem tQ26 : Try.prog.eqGuardType Try.prog.depth 26 = false := idr (by kernel_rfl)
theorem tO26 : structOk Try.prog 26 = true := idr (by kernel_rfl)
theorem tT26_0 : fieldTy Try.prog 26 0 = 3 := idr (by kernel_rfl)
theorem tT26_1 : fieldTy Try.prog 26 1 = 23 := idr (by kernel_rfl)
theorem tT26_2 : fieldTy Try.prog 26 2 = 3 := idr (by kernel_rfl)
theorem tT26_3 : fieldTy Try.prog 26 3 = 9 := idr (by kernel_rfl)
theorem tT26_4 : fieldTy Try.prog 26 4 = 24 := idr (by kernel_rfl)
theorem tT26_5 : fieldTy Try.prog 26 5 = 9 := idr (by kernel_rfl)
theorem tT26_6 : fieldTy Try.prog 26 6 = 9 := idr (by kernel_rfl)
theorem tT26_7 : fieldTy Try.prog 26 7 = 24 := idr (by kernel_rfl)
theorem tF26_0 : fieldT Try.prog 26 0 = some (0, 1, false) := idr (by kernel_rfl)
theorem tF26_1 : fieldT Try.prog 26 1 = some (1, 3, true) := idr (by kernel_rfl)
theorem tF26_2 : fieldT Try.prog 26 2 = some (4, 1, false) := idr (by kernel_rfl)
theorem tF26_3 : fieldT Try.prog 26 3 = some (5, 1, false) := idr (by kernel_rfl)
theorem tF26_4 : fieldT Try.prog 26 4 = some (6, 1, false) := idr (by kernel_rfl)
theorem tF26_5 : fieldT Try.prog 26 5 = some (7, 1, false) := idr (by kernel_rfl)
theorem tF26_6 : fieldT Try.prog 26 6 = some (8, 1, false) := idr (by kernel_rfl)
theorem tF26_7 : fieldT Try.prog 26 7 = some (9, 1, false) := idr (by kernel_rfl)
theorem tU27 : Try.prog.underlying 27 = some (.int .u32) := idr (by kernel_rfl)
theorem tS27 : sizeT Try.prog 27 = some 1 := idr (by kernel_rfl)
theorem tA27 : isAggT Try.prog 27 = some false := idr (by kernel_rfl)
theorem tz27 : zeroA Try.prog 27 = some [.d (.int .u32 0)] := by kernel_rfl
theorem tv27 : zeroV Try.prog 27 = some (.d (.int .u32 0)) := idr (by kernel_rfl)
theorem tS29 : sizeT Try.prog 29 = some 12 := idr (by kernel_rfl)
theorem tA29 : isAggT Try.prog 29 = some true := idr (by kernel_rfl)
theorem tz29 : zeroA Try.prog 29 = some [.d (.int .u8 0), .d (.int .u8 0), .d (.int .u8 0), .d (.int .u8 0), .d (.int .u8 0), .d (.int .u32 0), .d (.int .u32 0), .d (.int .u32 0), .d (.int .u8 0), .nilsl 1, .nilsl 1, .d (.int .u8 0)] := by kernel_rfl
theorem tv29 : zeroV Try.prog 29 = some (.agg [.d (.int .u8 0), .d (.int .u8 0), .d (.int .u8 0), .d (.int .u8 0), .d (.int .u8 0), .d (.int .u32 0), .d (.int .u32 0), .d (.int .u32 0), .d (.int .u8 0), .nilsl 1, .nilsl 1, .d (.int .u8 0)]) := idr (by kernel_rfl)
theorem tQ29 : Try.prog.eqGuardType Try.prog.depth 29 = false := idr (by kernel_rfl)
theorem tO29 : structOk Try.prog 29 = true := idr (by kernel_rfl)
theorem tT29_0 : fieldTy Try.prog 29 0 = 5 := idr (by kernel_rfl)
theorem tT29_1 : fieldTy Try.prog 29 1 = 5 := idr (by kernel_rfl)
theorem tT29_2 : fieldTy Try.prog 29 2 = 5 := idr (by kernel_rfl)
theorem tT29_3 : fieldTy Try.prog 29 3 = 5 := idr (by kernel_rfl)
theorem tT29_4 : fieldTy Try.prog 29 4 = 5 := idr (by kernel_rfl)
theorem tT29_5 : fieldTy Try.prog 29 5 = 27 := idr (by kernel_rfl)
theorem tT29_6 : fieldTy Try.prog 29 6 = 27 := idr (by kernel_rfl)
theorem tT29_7 : fieldTy Try.prog 29 7 = 27 := idr (by kernel_rfl)
theorem tT29_8 : fieldTy Try.prog 29 8 = 5 := idr (by kernel_rfl)
theorem tT29_9 : fieldTy Try.prog 29 9 = 24 := idr (by kernel_rfl)
theorem tT29_10 : fieldTy Try.prog 29 10 = 24 := idr (by kernel_rfl)
theorem tT29_11 : fieldTy Try.prog 29 11 = 5 := idr (by kernel_rfl)
theorem tF29_0 : fieldT Try.prog 29 0 = some (0, 1, false) := idr (by kernel_rfl)
theorem tF29_1 : fieldT Try.prog 29 1 = some (1, 1, false) := idr (by kernel_rfl)
theorem tF29_2 : fieldT Try.prog 29 2 = some (2, 1, false) := idr (by kernel_rfl)
theorem tF29_3 : fieldT Try.prog 29 3 = some (3, 1, false) := idr (by kernel_rfl)
theorem tF29_4 : fieldT Try.prog 29 4 = some (4, 1, false) := idr (by kernel_rfl)
theorem tF29_5 : fieldT Try.prog 29 5 = some (5, 1, false) := idr (by kernel_rfl)
theorem tF29_6 : fieldT Try.prog 29 6 = some (6, 1, false) := idr (by kernel_rfl)
theorem tF29_7 : fieldT Try.prog 29 7 = some (7, 1, false) := idr (by kernel_rfl)
theorem tF29_8 : fieldT Try.prog 29 8 = some (8, 1, false) := idr (by kernel_rfl)
theorem tF29_9 : fieldT Try.prog 29 9 = some (9, 1, false) := idr (by kernel_rfl)
theorem tF29_10 : fieldT Try.prog 29 10 = some (10, 1, false) := idr (by kernel_rfl)
theorem tF29_11 : fieldT Try.prog 29 11 = some (11, 1, false) := idr (by kernel_rfl)
theorem tU33 : Try.prog.underlying 33 = some (.slice 26) := idr (by kernel_rfl)
theorem tS33 : sizeT Try.prog 33 = some 1 := idr (by kernel_rfl)
theorem tA33 : isAggT Try.prog 33 = some false := idr (by kernel_rfl)
theorem tE33 : elemT Try.prog 33 = some (10, 160) := idr (by kernel_rfl)
theorem tZ33 : zsizeT Try.prog 33 = some 10 := idr (by kernel_rfl)
theorem tz33 : zeroA Try.prog 33 = some [.nilsl 10] := by kernel_rfl
theorem tv33 : zeroV Try.prog 33 = some (.nilsl 10) := idr (by kernel_rfl)
theorem tU34 : Try.prog.underlying 34 = some (.int .i64) := idr (by kernel_rfl)
theorem tS34 : sizeT Try.prog 34 = some 1 := idr (by kernel_rfl)
theorem tA34 : isAggT Try.prog 34 = some false := idr (by kernel_rfl)
theorem tz34 : zeroA Try.prog 34 = some [.d (.int .i64 0)] := by kernel_rfl
theorem tv34 : zeroV Try.prog 34 = some (.d (.int .i64 0)) := idr (by kernel_rfl)
theorem tS35 : sizeT Try.prog 35 = some 1 := idr (by kernel_rfl)
theorem tA35 : isAggT Try.prog 35 = some false := idr (by kernel_rfl)
theorem tS37 : sizeT Try.prog 37 = some 1 := idr (by kernel_rfl)
theorem tA37 : isAggT Try.prog 37 = some false := idr (by kernel_rfl)
theorem tS40 : sizeT Try.prog 40 = some 3 := idr (by kernel_rfl)
theorem tA40 : isAggT Try.prog 40 = some true := idr (by kernel_rfl)
theorem tz40 : zeroA Try.prog 40 = some [.d (.int .i64 0), .d (.int .i64 0), .nilsl 1] := by kernel_rfl
theorem tv40 : zeroV Try.prog 40 = some (.agg [.d (.int .i64 0), .d (.int .i64 0), .nilsl 1]) := idr (by kernel_rfl)
theorem tQ40 : Try.prog.eqGuardType Try.prog.depth 40 = false := idr (by kernel_rfl)
theorem tO40 : structOk Try.prog 40 = true := idr (by kernel_rfl)
theorem tT40_0 : fieldTy Try.prog 40 0 = 3 := idr (by kernel_rfl)
theorem tT40_1 : fieldTy Try.prog 40 1 = 34 := idr (by kernel_rfl)
theorem tT40_2 : fieldTy Try.prog 40 2 = 24 := idr (by kernel_rfl)
theorem tF40_0 : fieldT Try.prog 40 0 = some (0, 1, false) := idr (by kernel_rfl)
theorem tF40_1 : fieldT Try.prog 40 1 = some (1, 1, false) := idr (by kernel_rfl)
theorem tF40_2 : fieldT Try.prog 40 2 = some (2, 1, false) := idr (by kernel_rfl)
theorem tS41 : sizeT Try.prog 41 = some 1 := idr (by kernel_rfl)
theorem tA41 : isAggT Try.prog 41 = some false := idr (by kernel_rfl)
theorem tU45 : Try.prog.underlying 45 = some (.int .u16) := idr (by kernel_rfl)
theorem tS45 : sizeT Try.prog 45 = some 1 := idr (by kernel_rfl)
theorem tA45 : isAggT Try.prog 45 = some false := idr (by kernel_rfl)
theorem tz45 : zeroA Try.prog 45 = some [.d (.int .u16 0)] := by kernel_rfl
theorem tv45 : zeroV Try.prog 45 = some (.d (.int .u16 0)) := idr (by kernel_rfl)
theorem tU46 : Try.prog.underlying 46 = some (.slice 40) := idr (by kernel_rfl)
theorem tS46 : sizeT Try.prog 46 = some 1 := idr (by kernel_rfl)
theorem tA46 : isAggT Try.prog 46 = some false := idr (by kernel_rfl)
theorem tE46 : elemT Try.prog 46 = some (3, 40) := idr (by kernel_rfl)
theorem tZ46 : zsizeT Try.prog 46 = some 3 := idr (by kernel_rfl)
theorem tz46 : zeroA Try.prog 46 = some [.nilsl 3] := by kernel_rfl
theorem tv46 : zeroV Try.prog 46 = some (.nilsl 3) := idr (by kernel_rfl)
theorem tU50 : Try.prog.underlying 50 = some (.int .u64) := idr (by kernel_rfl)
theorem tS50 : sizeT Try.prog 50 = some 1 := idr (by kernel_rfl)
theorem tA50 : isAggT Try.prog 50 = some false := idr (by kernel_rfl)
theorem tz50 : zeroA Try.prog 50 = some [.d (.int .u64 0)] := by kernel_rfl
theorem tv50 : zeroV Try.prog 50 = some (.d (.int .u64 0)) := idr (by kernel_rfl)
theorem tU51 : Try.prog.underlying 51 = some (.int .u64) := idr (by kernel_rfl)
theorem tS51 : sizeT Try.prog 51 = some 1 := idr (by kernel_rfl)
theorem tA51 : isAggT Try.prog 51 = some false := idr (by kernel_rfl)
theorem tz51 : zeroA Try.prog 51 = some [.d (.int .u64 0)] := by kernel_rfl
theorem tv51 : zeroV Try.prog 51 = some (.d (.int .u64 0)) := idr (by kernel_rfl)
theorem tS53 : sizeT Try.prog 53 = some 10 := idr (by kernel_rfl)
theorem tA53 : isAggT Try.prog 53 = some true := idr (by kernel_rfl)
theorem tz53 : zeroA Try.prog 53 = some [.d (.str ByteArray.empty), .d (.int .i64 0), .d (.int .u64 0), .d (.int .i64 0), .d (.int .i64 0), .d (.int .i64 0), .d (.str ByteArray.empty), .d (.str ByteArray.empty), .d (.str ByteArray.empty), .nilsl 1] := by kernel_rfl
theorem tv53 : zeroV Try.prog 53 = some (.agg [.d (.str ByteArray.empty), .d (.int .i64 0), .d (.int .u64 0), .d (.int .i64 0), .d (.int .i64 0), .d (.int .i64 0), .d (.str ByteArray.empty), .d (.str ByteArray.empty), .d (.str ByteArray.empty), .nilsl 1]) := idr (by kernel_rfl)
theorem tQ53 : Try.prog.eqGuardType Try.prog.depth 53 = false := idr (by kernel_rfl)
theorem tO53 : structOk Try.prog 53 = true := idr (by kernel_rfl)
theorem tT53_0 : fieldTy Try.prog 53 0 = 9 := idr (by kernel_rfl)
theorem tT53_1 : fieldTy Try.prog 53 1 = 3 := idr (by kernel_rfl)
theorem tT53_2 : fieldTy Try.prog 53 2 = 51 := idr (by kernel_rfl)
theorem tT53_3 : fieldTy Try.prog 53 3 = 3 := idr (by kernel_rfl)
theorem tT53_4 : fieldTy Try.prog 53 4 = 3 := idr (by kernel_rfl)
theorem tT53_5 : fieldTy Try.prog 53 5 = 3 := idr (by kernel_rfl)
theorem tT53_6 : fieldTy Try.prog 53 6 = 23 := idr (by kernel_rfl)
theorem tT53_7 : fieldTy Try.prog 53 7 = 24 := idr (by kernel_rfl)
theorem tF53_0 : fieldT Try.prog 53 0 = some (0, 1, false) := idr (by kernel_rfl)
theorem tF53_1 : fieldT Try.prog 53 1 = some (1, 1, false) := idr (by kernel_rfl)
theorem tF53_2 : fieldT Try.prog 53 2 = some (2, 1, false) := idr (by kernel_rfl)
theorem tF53_3 : fieldT Try.prog 53 3 = some (3, 1, false) := idr (by kernel_rfl)
theorem tF53_4 : fieldT Try.prog 53 4 = some (4, 1, false) := idr (by kernel_rfl)
theorem tF53_5 : fieldT Try.prog 53 5 = some (5, 1, false) := idr (by kernel_rfl)
theorem tF53_6 : fieldT Try.prog 53 6 = some (6, 3, true) := idr (by kernel_rfl)
theorem tF53_7 : fieldT Try.prog 53 7 = some (9, 1, false) := idr (by kernel_rfl)
theorem tU55 : Try.prog.underlying 55 = some (.slice 53) := idr (by kernel_rfl)
theorem tS55 : sizeT Try.prog 55 = some 1 := idr (by kernel_rfl)
theorem tA55 : isAggT Try.prog 55 = some false := idr (by kernel_rfl)
theorem tE55 : elemT Try.prog 55 = some (10, 128) := idr (by kernel_rfl)
theorem tZ55 : zsizeT Try.prog 55 = some 10 := idr (by kernel_rfl)
theorem tz55 : zeroA Try.prog 55 = some [.nilsl 10] := by kernel_rfl
theorem tv55 : zeroV Try.prog 55 = some (.nilsl 10) := idr (by kernel_rfl)
theorem tS57 : sizeT Try.prog 57 = some 1 := idr (by kernel_rfl)
theorem tA57 : isAggT Try.prog 57 = some false := idr (by kernel_rfl)
theorem tS62 : sizeT Try.prog 62 = some 5 := idr (by kernel_rfl)
theorem tA62 : isAggT Try.prog 62 = some true := idr (by kernel_rfl)
theorem tz62 : zeroA Try.prog 62 = some [.d (.str ByteArray.empty), .d (.int .i64 0), .d (.int .i64 0), .d (.int .i64 0), .d (.int .u64 0)] := by kernel_rfl
theorem tv62 : zeroV Try.prog 62 = some (.agg [.d (.str ByteArray.empty), .d (.int .i64 0), .d (.int .i64 0), .d (.int .i64 0), .d (.int .u64 0)]) := idr (by kernel_rfl)
theorem tQ62 : Try.prog.eqGuardType Try.prog.depth 62 = false := idr (by kernel_rfl)
theorem tX62 (a0 b0 : ByteArray) (a1 b1 : Int) (a2 b2 : Int) (a3 b3 : Int) (a4 b4 : Int) : eqT Try.prog 8 62 [.d (.str a0), .d (.int .i64 a1), .d (.int .i64 a2), .d (.int .i64 a3), .d (.int .u64 a4)] [.d (.str b0), .d (.int .i64 b1), .d (.int .i64 b2), .d (.int .i64 b3), .d (.int .u64 b4)] = some ((a0 == b0) && ((a1 == b1) && ((a2 == b2) && ((a3 == b3) && ((a4 == b4) && true))))) := idr (by kernel_rfl)
theorem tO62 : structOk Try.prog 62 = true := idr (by kernel_rfl)
theorem tT62_0 : fieldTy Try.prog 62 0 = 9 := idr (by kernel_rfl)
theorem tT62_1 : fieldTy Try.prog 62 1 = 3 := idr (by kernel_rfl)
theorem tT62_2 : fieldTy Try.prog 62 2 = 3 := idr (by kernel_rfl)
theorem tT62_3 : fieldTy Try.prog 62 3 = 3 := idr (by kernel_rfl)
theorem tT62_4 : fieldTy Try.prog 62 4 = 51 := idr (by kernel_rfl)
theorem tF62_0 : fieldT Try.prog 62 0 = some (0, 1, false) := idr (by kernel_rfl)
theorem tF62_1 : fieldT Try.prog 62 1 = some (1, 1, false) := idr (by kernel_rfl)
theorem tF62_2 : fieldT Try.prog 62 2 = some (2, 1, false) := idr (by kernel_rfl)
theorem tF62_3 : fieldT Try.prog 62 3 = some (3, 1, false) := idr (by kernel_rfl)
theorem tF62_4 : fieldT Try.prog 62 4 = some (4, 1, false) := idr (by kernel_rfl)
theorem tU64 : Try.prog.underlying 64 = some (.slice 62) := idr (by kernel_rfl)
theorem tS64 : sizeT Try.prog 64 = some 1 := idr (by kernel_rfl)
theorem tA64 : isAggT Try.prog 64 = some false := idr (by kernel_rfl)
theorem tE64 : elemT Try.prog 64 = some (5, 48) := idr (by kernel_rfl)
theorem tZ64 : zsizeT Try.prog 64 = some 5 := idr (by kernel_rfl)
theorem tz64 : zeroA Try.prog 64 = some [.nilsl 5] := by kernel_rfl
theorem tv64 : zeroV Try.prog 64 = some (.nilsl 5) := idr (by kernel_rfl)
theorem tS66 : sizeT Try.prog 66 = some 1 := idr (by kernel_rfl)
theorem tA66 : isAggT Try.prog 66 = some false := idr (by kernel_rfl)
theorem tS76 : sizeT Try.prog 76 = some 1 := idr (by kernel_rfl)
theorem tA76 : isAggT Try.prog 76 = some false := idr (by kernel_rfl)
theorem tz76 : zeroA Try.prog 76 = some [.d .nilf] := by kernel_rfl
theorem tv76 : zeroV Try.prog 76 = some (.d .nilf) := idr (by kernel_rfl)
theorem tU79 : Try.prog.underlying 79 = some (.pointer 108) := idr (by kernel_rfl)
theorem tS79 : sizeT Try.prog 79 = some 1 := idr (by kernel_rfl)
theorem tA79 : isAggT Try.prog 79 = some false := idr (by kernel_rfl)
theorem tz79 : zeroA Try.prog 79 = some [.d .nilp] := by kernel_rfl
theorem tv79 : zeroV Try.prog 79 = some (.d .nilp) := idr (by kernel_rfl)
theorem tS80 : sizeT Try.prog 80 = some 1 := idr (by kernel_rfl)
theorem tA80 : isAggT Try.prog 80 = some false := idr (by kernel_rfl)
theorem tU88 : Try.prog.underlying 88 = some (.slice 9) := idr (by kernel_rfl)
theorem tS88 : sizeT Try.prog 88 = some 1 := idr (by kernel_rfl)
theorem tA88 : isAggT Try.prog 88 = some false := idr (by kernel_rfl)
theorem tE88 : elemT Try.prog 88 = some (1, 16) := idr (by kernel_rfl)
theorem tZ88 : zsizeT Try.prog 88 = some 1 := idr (by kernel_rfl)
theorem tz88 : zeroA Try.prog 88 = some [.nilsl 1] := by kernel_rfl
theorem tv88 : zeroV Try.prog 88 = some (.nilsl 1) := idr (by kernel_rfl)
theorem tU96 : Try.prog.underlying 96 = some (.slice 23) := idr (by kernel_rfl)
theorem tS96 : sizeT Try.prog 96 = some 1 := idr (by kernel_rfl)
theorem tA96 : isAggT Try.prog 96 = some false := idr (by kernel_rfl)
theorem tE96 : elemT Try.prog 96 = some (3, 48) := idr (by kernel_rfl)
theorem tZ96 : zsizeT Try.prog 96 = some 3 := idr (by kernel_rfl)
theorem tz96 : zeroA Try.prog 96 = some [.nilsl 3] := by kernel_rfl
theorem tv96 : zeroV Try.prog 96 = some (.nilsl 3) := idr (by kernel_rfl)
theorem tS102 : sizeT Try.prog 102 = some 1 := idr (by kernel_rfl)
theorem tA102 : isAggT Try.prog 102 = some false := idr (by kernel_rfl)
theorem tS105 : sizeT Try.prog 105 = some 1 := idr (by kernel_rfl)
theorem tA105 : isAggT Try.prog 105 = some false := idr (by kernel_rfl)
theorem tS108 : sizeT Try.prog 108 = some 4 := idr (by kernel_rfl)
theorem tA108 : isAggT Try.prog 108 = some true := idr (by kernel_rfl)
theorem tz108 : zeroA Try.prog 108 = some [.nilsl 1, .d (.int .i64 0), .d (.bool false), .d (.bool false)] := by kernel_rfl
theorem tv108 : zeroV Try.prog 108 = some (.agg [.nilsl 1, .d (.int .i64 0), .d (.bool false), .d (.bool false)]) := idr (by kernel_rfl)
theorem tQ108 : Try.prog.eqGuardType Try.prog.depth 108 = false := idr (by kernel_rfl)
theorem tO108 : structOk Try.prog 108 = true := idr (by kernel_rfl)
theorem tT108_0 : fieldTy Try.prog 108 0 = 24 := idr (by kernel_rfl)
theorem tT108_1 : fieldTy Try.prog 108 1 = 3 := idr (by kernel_rfl)
theorem tT108_2 : fieldTy Try.prog 108 2 = 4 := idr (by kernel_rfl)
theorem tT108_3 : fieldTy Try.prog 108 3 = 4 := idr (by kernel_rfl)
theorem tF108_0 : fieldT Try.prog 108 0 = some (0, 1, false) := idr (by kernel_rfl)
theorem tF108_1 : fieldT Try.prog 108 1 = some (1, 1, false) := idr (by kernel_rfl)
theorem tF108_2 : fieldT Try.prog 108 2 = some (2, 1, false) := idr (by kernel_rfl)
theorem tF108_3 : fieldT Try.prog 108 3 = some (3, 1, false) := idr (by kernel_rfl)
theorem tS109 : sizeT Try.prog 109 = some 1 := idr (by kernel_rfl)
theorem tA109 : isAggT Try.prog 109 = some false := idr (by kernel_rfl)
theorem tz109 : zeroA Try.prog 109 = some [.d .nilf] := by kernel_rfl
theorem tv109 : zeroV Try.prog 109 = some (.d .nilf) := idr (by kernel_rfl)
theorem tS111 : sizeT Try.prog 111 = some 1 := idr (by kernel_rfl)
theorem tA111 : isAggT Try.prog 111 = some false := idr (by kernel_rfl)
theorem tS113 : sizeT Try.prog 113 = some 1 := idr (by kernel_rfl)
theorem tA113 : isAggT Try.prog 113 = some false := idr (by kernel_rfl)
theorem tz113 : zeroA Try.prog 113 = some [.d .nilf] := by kernel_rfl
theorem tv113 : zeroV Try.prog 113 = some (.d .nilf) := idr (by kernel_rfl)
theorem tS115 : sizeT Try.prog 115 = some 1 := idr (by kernel_rfl)
theorem tA115 : isAggT Try.prog 115 = some false := idr (by kernel_rfl)
theorem tS117 : sizeT Try.prog 117 = some 1 := idr (by kernel_rfl)
theorem tA117 : isAggT Try.prog 117 = some false := idr (by kernel_rfl)
theorem tz117 : zeroA Try.prog 117 = some [.d .nilf] := by kernel_rfl
theorem tv117 : zeroV Try.prog 117 = some (.d .nilf) := idr (by kernel_rfl)
theorem tS119 : sizeT Try.prog 119 = some 1 := idr (by kernel_rfl)
theorem tA119 : isAggT Try.prog 119 = some false := idr (by kernel_rfl)
theorem tS121 : sizeT Try.prog 121 = some 1 := idr (by kernel_rfl)
theorem tA121 : isAggT Try.prog 121 = some false := idr (by kernel_rfl)
theorem tz121 : zeroA Try.prog 121 = some [.d .nilf] := by kernel_rfl
theorem tv121 : zeroV Try.prog 121 = some (.d .nilf) := idr (by kernel_rfl)
theorem tU124 : Try.prog.underlying 124 = some (.slice 3) := idr (by kernel_rfl)
theorem tS124 : sizeT Try.prog 124 = some 1 := idr (by kernel_rfl)
theorem tA124 : isAggT Try.prog 124 = some false := idr (by kernel_rfl)
theorem tE124 : elemT Try.prog 124 = some (1, 8) := idr (by kernel_rfl)
theorem tZ124 : zsizeT Try.prog 124 = some 1 := idr (by kernel_rfl)
theorem tz124 : zeroA Try.prog 124 = some [.nilsl 1] := by kernel_rfl
theorem tv124 : zeroV Try.prog 124 = some (.nilsl 1) := idr (by kernel_rfl)
theorem tU128 : Try.prog.underlying 128 = some (.int .u64) := idr (by kernel_rfl)
theorem tS128 : sizeT Try.prog 128 = some 1 := idr (by kernel_rfl)
theorem tA128 : isAggT Try.prog 128 = some false := idr (by kernel_rfl)
theorem tz128 : zeroA Try.prog 128 = some [.d (.int .u64 0)] := by kernel_rfl
theorem tv128 : zeroV Try.prog 128 = some (.d (.int .u64 0)) := idr (by kernel_rfl)
theorem tS129 : sizeT Try.prog 129 = some 1 := idr (by kernel_rfl)
theorem tA129 : isAggT Try.prog 129 = some false := idr (by kernel_rfl)
theorem tS133 : sizeT Try.prog 133 = some 1 := idr (by kernel_rfl)
theorem tA133 : isAggT Try.prog 133 = some false := idr (by kernel_rfl)
theorem tU138 : Try.prog.underlying 138 = some (.array 3 9) := idr (by kernel_rfl)
theorem tS138 : sizeT Try.prog 138 = some 3 := idr (by kernel_rfl)
theorem tA138 : isAggT Try.prog 138 = some true := idr (by kernel_rfl)
theorem tz138 : zeroA Try.prog 138 = some [.d (.str ByteArray.empty), .d (.str ByteArray.empty), .d (.str ByteArray.empty)] := by kernel_rfl
theorem tv138 : zeroV Try.prog 138 = some (.agg [.d (.str ByteArray.empty), .d (.str ByteArray.empty), .d (.str ByteArray.empty)]) := idr (by kernel_rfl)
theorem tS140 : sizeT Try.prog 140 = some 1 := idr (by kernel_rfl)
theorem tA140 : isAggT Try.prog 140 = some false := idr (by kernel_rfl)
theorem n3 : Hs.own 3 = false := idr (by kernel_rfl)
theorem i3 : Hs.inPlace 3 = false := idr (by kernel_rfl)
theorem n4 : Hs.own 4 = false := idr (by kernel_rfl)
theorem i4 : Hs.inPlace 4 = false := idr (by kernel_rfl)
theorem n5 : Hs.own 5 = false := idr (by kernel_rfl)
theorem i5 : Hs.inPlace 5 = false := idr (by kernel_rfl)
theorem n6 : Hs.own 6 = false := idr (by kernel_rfl)
theorem i6 : Hs.inPlace 6 = false := idr (by kernel_rfl)
theorem n7 : Hs.own 7 = false := idr (by kernel_rfl)
theorem i7 : Hs.inPlace 7 = false := idr (by kernel_rfl)
theorem n8 : Hs.own 8 = false := idr (by kernel_rfl)
theorem i8 : Hs.inPlace 8 = false := idr (by kernel_rfl)
theorem n9 : Hs.own 9 = false := idr (by kernel_rfl)
theorem i9 : Hs.inPlace 9 = false := idr (by kernel_rfl)
theorem n10 : Hs.own 10 = false := idr (by kernel_rfl)
theorem i10 : Hs.inPlace 10 = false := idr (by kernel_rfl)
theorem n11 : Hs.own 11 = false := idr (by kernel_rfl)
theorem i11 : Hs.inPlace 11 = false := idr (by kernel_rfl)
theorem n12 : Hs.own 12 = false := idr (by kernel_rfl)
theorem i12 : Hs.inPlace 12 = false := idr (by kernel_rfl)
theorem n13 : Hs.own 13 = false := idr (by kernel_rfl)
theorem i13 : Hs.inPlace 13 = false := idr (by kernel_rfl)
theorem n14 : Hs.own 14 = false := idr (by kernel_rfl)
theorem i14 : Hs.inPlace 14 = false := idr (by kernel_rfl)
theorem n15 : Hs.own 15 = false := idr (by kernel_rfl)
theorem i15 : Hs.inPlace 15 = false := idr (by kernel_rfl)
theorem n16 : Hs.own 16 = false := idr (by kernel_rfl)
theorem i16 : Hs.inPlace 16 = false := idr (by kernel_rfl)
theorem n17 : Hs.own 17 = false := idr (by kernel_rfl)
theorem i17 : Hs.inPlace 17 = false := idr (by kernel_rfl)
theorem n18 : Hs.own 18 = false := idr (by kernel_rfl)
theorem i18 : Hs.inPlace 18 = false := idr (by kernel_rfl)
theorem n19 : Hs.own 19 = false := idr (by kernel_rfl)
theorem i19 : Hs.inPlace 19 = false := idr (by kernel_rfl)
theorem n20 : Hs.own 20 = false := idr (by kernel_rfl)
theorem i20 : Hs.inPlace 20 = false := idr (by kernel_rfl)
theorem n21 : Hs.own 21 = false := idr (by kernel_rfl)
theorem i21 : Hs.inPlace 21 = false := idr (by kernel_rfl)
theorem n22 : Hs.own 22 = false := idr (by kernel_rfl)
theorem i22 : Hs.inPlace 22 = false := idr (by kernel_rfl)
theorem n23 : Hs.own 23 = false := idr (by kernel_rfl)
theorem i23 : Hs.inPlace 23 = false := idr (by kernel_rfl)
theorem n24 : Hs.own 24 = false := idr (by kernel_rfl)
theorem i24 : Hs.inPlace 24 = false := idr (by kernel_rfl)
theorem n25 : Hs.own 25 = false := idr (by kernel_rfl)
theorem i25 : Hs.inPlace 25 = false := idr (by kernel_rfl)
theorem n26 : Hs.own 26 = false := idr (by kernel_rfl)
theorem i26 : Hs.inPlace 26 = false := idr (by kernel_rfl)
theorem n27 : Hs.own 27 = false := idr (by kernel_rfl)
theorem i27 : Hs.inPlace 27 = false := idr (by kernel_rfl)
theorem n28 : Hs.own 28 = false := idr (by kernel_rfl)
theorem i28 : Hs.inPlace 28 = false := idr (by kernel_rfl)
theorem n29 : Hs.own 29 = false := idr (by kernel_rfl)
theorem i29 : Hs.inPlace 29 = false := idr (by kernel_rfl)
theorem n30 : Hs.own 30 = true := idr (by kernel_rfl)
theorem i30 : Hs.inPlace 30 = false := idr (by kernel_rfl)
theorem n31 : Hs.own 31 = false := idr (by kernel_rfl)
theorem i31 : Hs.inPlace 31 = false := idr (by kernel_rfl)
theorem n32 : Hs.own 32 = true := idr (by kernel_rfl)
theorem i32 : Hs.inPlace 32 = false := idr (by kernel_rfl)
theorem n33 : Hs.own 33 = false := idr (by kernel_rfl)
theorem i33 : Hs.inPlace 33 = false := idr (by kernel_rfl)
theorem n34 : Hs.own 34 = true := idr (by kernel_rfl)
theorem i34 : Hs.inPlace 34 = false := idr (by kernel_rfl)
theorem n35 : Hs.own 35 = false := idr (by kernel_rfl)
theorem i35 : Hs.inPlace 35 = false := idr (by kernel_rfl)
theorem n36 : Hs.own 36 = false := idr (by kernel_rfl)
theorem i36 : Hs.inPlace 36 = false := idr (by kernel_rfl)
theorem n37 : Hs.own 37 = false := idr (by kernel_rfl)
theorem i37 : Hs.inPlace 37 = false := idr (by kernel_rfl)
theorem n38 : Hs.own 38 = false := idr (by kernel_rfl)
theorem i38 : Hs.inPlace 38 = false := idr (by kernel_rfl)
theorem n39 : Hs.own 39 = false := idr (by kernel_rfl)
theorem i39 : Hs.inPlace 39 = false := idr (by kernel_rfl)
theorem n40 : Hs.own 40 = false := idr (by kernel_rfl)
theorem i40 : Hs.inPlace 40 = false := idr (by kernel_rfl)
theorem n41 : Hs.own 41 = true := idr (by kernel_rfl)
theorem i41 : Hs.inPlace 41 = false := idr (by kernel_rfl)
theorem n42 : Hs.own 42 = false := idr (by kernel_rfl)
theorem i42 : Hs.inPlace 42 = false := idr (by kernel_rfl)
theorem n43 : Hs.own 43 = false := idr (by kernel_rfl)
theorem i43 : Hs.inPlace 43 = false := idr (by kernel_rfl)
theorem n44 : Hs.own 44 = true := idr (by kernel_rfl)
theorem i44 : Hs.inPlace 44 = false := idr (by kernel_rfl)
theorem n45 : Hs.own 45 = true := idr (by kernel_rfl)
theorem i45 : Hs.inPlace 45 = false := idr (by kernel_rfl)
theorem n46 : Hs.own 46 = false := idr (by kernel_rfl)
theorem i46 : Hs.inPlace 46 = false := idr (by kernel_rfl)
theorem n47 : Hs.own 47 = false := idr (by kernel_rfl)
theorem i47 : Hs.inPlace 47 = false := idr (by kernel_rfl)
theorem n48 : Hs.own 48 = false := idr (by kernel_rfl)
theorem i48 : Hs.inPlace 48 = false := idr (by kernel_rfl)
theorem n49 : Hs.own 49 = false := idr (by kernel_rfl)
theorem i49 : Hs.inPlace 49 = false := idr (by kernel_rfl)
theorem n50 : Hs.own 50 = false := idr (by kernel_rfl)
theorem i50 : Hs.inPlace 50 = false := idr (by kernel_rfl)
theorem n51 : Hs.own 51 = false := idr (by kernel_rfl)
theorem i51 : Hs.inPlace 51 = false := idr (by kernel_rfl)
theorem n52 : Hs.own 52 = false := idr (by kernel_rfl)
theorem i52 : Hs.inPlace 52 = false := idr (by kernel_rfl)
theorem n53 : Hs.own 53 = false := idr (by kernel_rfl)
theorem i53 : Hs.inPlace 53 = false := idr (by kernel_rfl)
theorem n54 : Hs.own 54 = false := idr (by kernel_rfl)
theorem i54 : Hs.inPlace 54 = false := idr (by kernel_rfl)
theorem n55 : Hs.own 55 = false := idr (by kernel_rfl)
theorem i55 : Hs.inPlace 55 = false := idr (by kernel_rfl)
theorem n56 : Hs.own 56 = false := idr (by kernel_rfl)
theorem i56 : Hs.inPlace 56 = false := idr (by kernel_rfl)
theorem n57 : Hs.own 57 = false := idr (by kernel_rfl)
theorem i57 : Hs.inPlace 57 = false := idr (by kernel_rfl)
theorem n58 : Hs.own 58 = true := idr (by kernel_rfl)
theorem i58 : Hs.inPlace 58 = false := idr (by kernel_rfl)
theorem n59 : Hs.own 59 = false := idr (by kernel_rfl)
theorem i59 : Hs.inPlace 59 = false := idr (by kernel_rfl)
theorem n60 : Hs.own 60 = false := idr (by kernel_rfl)
theorem i60 : Hs.inPlace 60 = false := idr (by kernel_rfl)
theorem n61 : Hs.own 61 = true := idr (by kernel_rfl)
theorem i61 : Hs.inPlace 61 = false := idr (by kernel_rfl)
theorem n62 : Hs.own 62 = false := idr (by kernel_rfl)
theorem i62 : Hs.inPlace 62 = false := idr (by kernel_rfl)
theorem n63 : Hs.own 63 = false := idr (by kernel_rfl)
theorem i63 : Hs.inPlace 63 = false := idr (by kernel_rfl)
theorem n64 : Hs.own 64 = false := idr (by kernel_rfl)
theorem i64 : Hs.inPlace 64 = false := idr (by kernel_rfl)
theorem n65 : Hs.own 65 = false := idr (by kernel_rfl)
theorem i65 : Hs.inPlace 65 = false := idr (by kernel_rfl)
theorem n66 : Hs.own 66 = false := idr (by kernel_rfl)
theorem i66 : Hs.inPlace 66 = false := idr (by kernel_rfl)
theorem n67 : Hs.own 67 = false := idr (by kernel_rfl)
theorem i67 : Hs.inPlace 67 = false := idr (by kernel_rfl)
theorem n68 : Hs.own 68 = false := idr (by kernel_rfl)
theorem i68 : Hs.inPlace 68 = false := idr (by kernel_rfl)
theorem n69 : Hs.own 69 = false := idr (by kernel_rfl)
theorem i69 : Hs.inPlace 69 = false := idr (by kernel_rfl)
theorem n70 : Hs.own 70 = false := idr (by kernel_rfl)
theorem i70 : Hs.inPlace 70 = false := idr (by kernel_rfl)
theorem n71 : Hs.own 71 = false := idr (by kernel_rfl)
theorem i71 : Hs.inPlace 71 = false := idr (by kernel_rfl)
theorem n72 : Hs.own 72 = false := idr (by kernel_rfl)
theorem i72 : Hs.inPlace 72 = false := idr (by kernel_rfl)
theorem n73 : Hs.own 73 = false := idr (by kernel_rfl)
theorem i73 : Hs.inPlace 73 = false := idr (by kernel_rfl)
theorem n74 : Hs.own 74 = true := idr (by kernel_rfl)
theorem i74 : Hs.inPlace 74 = false := idr (by kernel_rfl)
theorem n75 : Hs.own 75 = false := idr (by kernel_rfl)
theorem i75 : Hs.inPlace 75 = false := idr (by kernel_rfl)
theorem n76 : Hs.own 76 = false := idr (by kernel_rfl)
theorem i76 : Hs.inPlace 76 = false := idr (by kernel_rfl)
theorem n77 : Hs.own 77 = false := idr (by kernel_rfl)
theorem i77 : Hs.inPlace 77 = false := idr (by kernel_rfl)
theorem n78 : Hs.own 78 = true := idr (by kernel_rfl)
theorem i78 : Hs.inPlace 78 = false := idr (by kernel_rfl)
theorem n79 : Hs.own 79 = false := idr (by kernel_rfl)
theorem i79 : Hs.inPlace 79 = false := idr (by kernel_rfl)
theorem n80 : Hs.own 80 = false := idr (by kernel_rfl)
theorem i80 : Hs.inPlace 80 = false := idr (by kernel_rfl)
theorem n81 : Hs.own 81 = false := idr (by kernel_rfl)
theorem i81 : Hs.inPlace 81 = false := idr (by kernel_rfl)
theorem n82 : Hs.own 82 = false := idr (by kernel_rfl)
theorem i82 : Hs.inPlace 82 = false := idr (by kernel_rfl)
theorem n83 : Hs.own 83 = false := idr (by kernel_rfl)
theorem i83 : Hs.inPlace 83 = false := idr (by kernel_rfl)
theorem n84 : Hs.own 84 = false := idr (by kernel_rfl)
theorem i84 : Hs.inPlace 84 = false := idr (by kernel_rfl)
theorem n85 : Hs.own 85 = false := idr (by kernel_rfl)
theorem i85 : Hs.inPlace 85 = false := idr (by kernel_rfl)
theorem n86 : Hs.own 86 = false := idr (by kernel_rfl)
theorem i86 : Hs.inPlace 86 = false := idr (by kernel_rfl)
theorem n87 : Hs.own 87 = false := idr (by kernel_rfl)
theorem i87 : Hs.inPlace 87 = false := idr (by kernel_rfl)
theorem n88 : Hs.own 88 = false := idr (by kernel_rfl)
theorem i88 : Hs.inPlace 88 = false := idr (by kernel_rfl)
theorem n89 : Hs.own 89 = false := idr (by kernel_rfl)
theorem i89 : Hs.inPlace 89 = false := idr (by kernel_rfl)
theorem n90 : Hs.own 90 = false := idr (by kernel_rfl)
theorem i90 : Hs.inPlace 90 = false := idr (by kernel_rfl)
theorem n91 : Hs.own 91 = false := idr (by kernel_rfl)
theorem i91 : Hs.inPlace 91 = false := idr (by kernel_rfl)
theorem n92 : Hs.own 92 = false := idr (by kernel_rfl)
theorem i92 : Hs.inPlace 92 = false := idr (by kernel_rfl)
theorem n93 : Hs.own 93 = false := idr (by kernel_rfl)
theorem i93 : Hs.inPlace 93 = false := idr (by kernel_rfl)
theorem n94 : Hs.own 94 = false := idr (by kernel_rfl)
theorem i94 : Hs.inPlace 94 = false := idr (by kernel_rfl)
theorem n95 : Hs.own 95 = false := idr (by kernel_rfl)
theorem i95 : Hs.inPlace 95 = false := idr (by kernel_rfl)
theorem n96 : Hs.own 96 = false := idr (by kernel_rfl)
theorem i96 : Hs.inPlace 96 = false := idr (by kernel_rfl)
theorem n97 : Hs.own 97 = false := idr (by kernel_rfl)
theorem i97 : Hs.inPlace 97 = false := idr (by kernel_rfl)
theorem n98 : Hs.own 98 = false := idr (by kernel_rfl)
theorem i98 : Hs.inPlace 98 = false := idr (by kernel_rfl)
theorem n99 : Hs.own 99 = false := idr (by kernel_rfl)
theorem i99 : Hs.inPlace 99 = false := idr (by kernel_rfl)
theorem n100 : Hs.own 100 = false := idr (by kernel_rfl)
theorem i100 : Hs.inPlace 100 = false := idr (by kernel_rfl)
theorem n101 : Hs.own 101 = false := idr (by kernel_rfl)
theorem i101 : Hs.inPlace 101 = false := idr (by kernel_rfl)
theorem n102 : Hs.own 102 = false := idr (by kernel_rfl)
theorem i102 : Hs.inPlace 102 = false := idr (by kernel_rfl)
theorem n103 : Hs.own 103 = false := idr (by kernel_rfl)
theorem i103 : Hs.inPlace 103 = false := idr (by kernel_rfl)
theorem n104 : Hs.own 104 = false := idr (by kernel_rfl)
theorem i104 : Hs.inPlace 104 = false := idr (by kernel_rfl)
theorem n106 : Hs.own 106 = false := idr (by kernel_rfl)
theorem i106 : Hs.inPlace 106 = true := idr (by kernel_rfl)
theorem n107 : Hs.own 107 = false := idr (by kernel_rfl)
theorem i107 : Hs.inPlace 107 = false := idr (by kernel_rfl)
theorem n108 : Hs.own 108 = false := idr (by kernel_rfl)
theorem i108 : Hs.inPlace 108 = false := idr (by kernel_rfl)
theorem n109 : Hs.own 109 = false := idr (by kernel_rfl)
theorem i109 : Hs.inPlace 109 = false := idr (by kernel_rfl)
theorem n111 : Hs.own 111 = false := idr (by kernel_rfl)
theorem i111 : Hs.inPlace 111 = false := idr (by kernel_rfl)
theorem n112 : Hs.own 112 = false := idr (by kernel_rfl)
theorem i112 : Hs.inPlace 112 = false := idr (by kernel_rfl)
theorem n113 : Hs.own 113 = false := idr (by kernel_rfl)
theorem i113 : Hs.inPlace 113 = false := idr (by kernel_rfl)
theorem n114 : Hs.own 114 = false := idr (by kernel_rfl)
theorem i114 : Hs.inPlace 114 = false := idr (by kernel_rfl)
theorem n115 : Hs.own 115 = false := idr (by kernel_rfl)
theorem i115 : Hs.inPlace 115 = false := idr (by kernel_rfl)
theorem n117 : Hs.own 117 = false := idr (by kernel_rfl)
theorem i117 : Hs.inPlace 117 = false := idr (by kernel_rfl)
theorem i118 : Hs.inPlace 118 = false := idr (by kernel_rfl)
theorem i110 : Hs.inPlace 110 = false := idr (by kernel_rfl)
theorem i105 : Hs.inPlace 105 = false := idr (by kernel_rfl)
theorem evTy0 : type_of% tS0 ∧ type_of% tA0 ∧ type_of% tU3 ∧ type_of% tS3 ∧ type_of% tA3 ∧ type_of% tz3 ∧ type_of% tv3 ∧ type_of% tU4 ∧ type_of% tS4 ∧ type_of% tA4 ∧ type_of% tz4 ∧ type_of% tv4 ∧ type_of% tU5 ∧ type_of% tS5 ∧ type_of% tA5 ∧ type_of% tz5 ∧ type_of% tv5 ∧ type_of% tU9 ∧ type_of% tS9 ∧ type_of% tA9 ∧ type_of% tz9 ∧ type_of% tv9 ∧ type_of% tS23 ∧ type_of% tA23 ∧ type_of% tz23 ∧ type_of% tv23 ∧ type_of% tQ23 ∧ type_of% tX23 ∧ type_of% tO23 ∧ type_of% tT23_0 ∧ type_of% tT23_1 ∧ type_of% tT23_2 ∧ type_of% tF23_0 ∧ type_of% tF23_1 ∧ type_of% tF23_2 ∧ type_of% tU24 ∧ type_of% tS24 ∧ type_of% tA24 ∧ type_of% tE24 ∧ type_of% tZ24 ∧ type_of% tz24 ∧ type_of% tv24 ∧ type_of% tS26 ∧ type_of% tA26 ∧ type_of% tz26 ∧ type_of% tv26 ∧ type_of% tQ26 ∧ type_of% tO26 ∧ type_of% tT26_0 ∧ type_of% tT26_1 ∧ type_of% tT26_2 ∧ type_of% tT26_3 ∧ type_of% tT26_4 ∧ type_of% tT26_5 ∧ type_of% tT26_6 ∧ type_of% tT26_7 ∧ type_of% tF26_0 ∧ type_of% tF26_1 ∧ type_of% tF26_2 ∧ type_of% tF26_3 :=
  ⟨tS0, tA0, tU3, tS3, tA3, tz3, tv3, tU4, tS4, tA4, tz4, tv4, tU5, tS5, tA5, tz5, tv5, tU9, tS9, tA9, tz9, tv9, tS23, tA23, tz23, tv23, tQ23, tX23, tO23, tT23_0, tT23_1, tT23_2, tF23_0, tF23_1, tF23_2, tU24, tS24, tA24, tE24, tZ24, tz24, tv24, tS26, tA26, tz26, tv26, tQ26, tO26, tT26_0, tT26_1, tT26_2, tT26_3, tT26_4, tT26_5, tT26_6, tT26_7, tF26_0, tF26_1, tF26_2, tF26_3⟩
theorem evTy1 : type_of% tF26_4 ∧ type_of% tF26_5 ∧ type_of% tF26_6 ∧ type_of% tF26_7 ∧ type_of% tU27 ∧ type_of% tS27 ∧ type_of% tA27 ∧ type_of% tz27 ∧ type_of% tv27 ∧ type_of% tS29 ∧ type_of% tA29 ∧ type_of% tz29 ∧ type_of% tv29 ∧ type_of% tQ29 ∧ type_of% tO29 ∧ type_of% tT29_0 ∧ type_of% tT29_1 ∧ type_of% tT29_2 ∧ type_of% tT29_3 ∧ type_of% tT29_4 ∧ type_of% tT29_5 ∧ type_of% tT29_6 ∧ type_of% tT29_7 ∧ type_of% tT29_8 ∧ type_of% tT29_9 ∧ type_of% tT29_10 ∧ type_of% tT29_11 ∧ type_of% tF29_0 ∧ type_of% tF29_1 ∧ type_of% tF29_2 ∧ type_of% tF29_3 ∧ type_of% tF29_4 ∧ type_of% tF29_5 ∧ type_of% tF29_6 ∧ type_of% tF29_7 ∧ type_of% tF29_8 ∧ type_of% tF29_9 ∧ type_of% tF29_10 ∧ type_of% tF29_11 ∧ type_of% tU33 ∧ type_of% tS33 ∧ type_of% tA33 ∧ type_of% tE33 ∧ type_of% tZ33 ∧ type_of% tz33 ∧ type_of% tv33 ∧ type_of% tU34 ∧ type_of% tS34 ∧ type_of% tA34 ∧ type_of% tz34 ∧ type_of% tv34 ∧ type_of% tS35 ∧ type_of% tA35 ∧ type_of% tS37 ∧ type_of% tA37 ∧ type_of% tS40 ∧ type_of% tA40 ∧ type_of% tz40 ∧ type_of% tv40 ∧ type_of% tQ40 :=
  ⟨tF26_4, tF26_5, tF26_6, tF26_7, tU27, tS27, tA27, tz27, tv27, tS29, tA29, tz29, tv29, tQ29, tO29, tT29_0, tT29_1, tT29_2, tT29_3, tT29_4, tT29_5, tT29_6, tT29_7, tT29_8, tT29_9, tT29_10, tT29_11, tF29_0, tF29_1, tF29_2, tF29_3, tF29_4, tF29_5, tF29_6, tF29_7, tF29_8, tF29_9, tF29_10, tF29_11, tU33, tS33, tA33, tE33, tZ33, tz33, tv33, tU34, tS34, tA34, tz34, tv34, tS35, tA35, tS37, tA37, tS40, tA40, tz40, tv40, tQ40⟩
theorem evTy2 : type_of% tO40 ∧ type_of% tT40_0 ∧ type_of% tT40_1 ∧ type_of% tT40_2 ∧ type_of% tF40_0 ∧ type_of% tF40_1 ∧ type_of% tF40_2 ∧ type_of% tS41 ∧ type_of% tA41 ∧ type_of% tU45 ∧ type_of% tS45 ∧ type_of% tA45 ∧ type_of% tz45 ∧ type_of% tv45 ∧ type_of% tU46 ∧ type_of% tS46 ∧ type_of% tA46 ∧ type_of% tE46 ∧ type_of% tZ46 ∧ type_of% tz46 ∧ type_of% tv46 ∧ type_of% tU50 ∧ type_of% tS50 ∧ type_of% tA50 ∧ type_of% tz50 ∧ type_of% tv50 ∧ type_of% tU51 ∧ type_of% tS51 ∧ type_of% tA51 ∧ type_of% tz51 ∧ type_of% tv51 ∧ type_of% tS53 ∧ type_of% tA53 ∧ type_of% tz53 ∧ type_of% tv53 ∧ type_of% tQ53 ∧ type_of% tO53 ∧ type_of% tT53_0 ∧ type_of% tT53_1 ∧ type_of% tT53_2 ∧ type_of% tT53_3 ∧ type_of% tT53_4 ∧ type_of% tT53_5 ∧ type_of% tT53_6 ∧ type_of% tT53_7 ∧ type_of% tF53_0 ∧ type_of% tF53_1 ∧ type_of% tF53_2 ∧ type_of% tF53_3 ∧ type_of% tF53_4 ∧ type_of% tF53_5 ∧ type_of% tF53_6 ∧ type_of% tF53_7 ∧ type_of% tU55 ∧ type_of% tS55 ∧ type_of% tA55 ∧ type_of% tE55 ∧ type_of% tZ55 ∧ type_of% tz55 ∧ type_of% tv55 :=
  ⟨tO40, tT40_0, tT40_1, tT40_2, tF40_0, tF40_1, tF40_2, tS41, tA41, tU45, tS45, tA45, tz45, tv45, tU46, tS46, tA46, tE46, tZ46, tz46, tv46, tU50, tS50, tA50, tz50, tv50, tU51, tS51, tA51, tz51, tv51, tS53, tA53, tz53, tv53, tQ53, tO53, tT53_0, tT53_1, tT53_2, tT53_3, tT53_4, tT53_5, tT53_6, tT53_7, tF53_0, tF53_1, tF53_2, tF53_3, tF53_4, tF53_5, tF53_6, tF53_7, tU55, tS55, tA55, tE55, tZ55, tz55, tv55⟩
theorem evTy3 : type_of% tS57 ∧ type_of% tA57 ∧ type_of% tS62 ∧ type_of% tA62 ∧ type_of% tz62 ∧ type_of% tv62 ∧ type_of% tQ62 ∧ type_of% tX62 ∧ type_of% tO62 ∧ type_of% tT62_0 ∧ type_of% tT62_1 ∧ type_of% tT62_2 ∧ type_of% tT62_3 ∧ type_of% tT62_4 ∧ type_of% tF62_0 ∧ type_of% tF62_1 ∧ type_of% tF62_2 ∧ type_of% tF62_3 ∧ type_of% tF62_4 ∧ type_of% tU64 ∧ type_of% tS64 ∧ type_of% tA64 ∧ type_of% tE64 ∧ type_of% tZ64 ∧ type_of% tz64 ∧ type_of% tv64 ∧ type_of% tS66 ∧ type_of% tA66 ∧ type_of% tS76 ∧ type_of% tA76 ∧ type_of% tz76 ∧ type_of% tv76 ∧ type_of% tU79 ∧ type_of% tS79 ∧ type_of% tA79 ∧ type_of% tz79 ∧ type_of% tv79 ∧ type_of% tS80 ∧ type_of% tA80 ∧ type_of% tU88 ∧ type_of% tS88 ∧ type_of% tA88 ∧ type_of% tE88 ∧ type_of% tZ88 ∧ type_of% tz88 ∧ type_of% tv88 ∧ type_of% tU96 ∧ type_of% tS96 ∧ type_of% tA96 ∧ type_of% tE96 ∧ type_of% tZ96 ∧ type_of% tz96 ∧ type_of% tv96 ∧ type_of% tS102 ∧ type_of% tA102 ∧ type_of% tS105 ∧ type_of% tA105 ∧ type_of% tS108 ∧ type_of% tA108 ∧ type_of% tz108 :=
  ⟨tS57, tA57, tS62, tA62, tz62, tv62, tQ62, tX62, tO62, tT62_0, tT62_1, tT62_2, tT62_3, tT62_4, tF62_0, tF62_1, tF62_2, tF62_3, tF62_4, tU64, tS64, tA64, tE64, tZ64, tz64, tv64, tS66, tA66, tS76, tA76, tz76, tv76, tU79, tS79, tA79, tz79, tv79, tS80, tA80, tU88, tS88, tA88, tE88, tZ88, tz88, tv88, tU96, tS96, tA96, tE96, tZ96, tz96, tv96, tS102, tA102, tS105, tA105, tS108, tA108, tz108⟩
theorem evTy4 : type_of% tv108 ∧ type_of% tQ108 ∧ type_of% tO108 ∧ type_of% tT108_0 ∧ type_of% tT108_1 ∧ type_of% tT108_2 ∧ type_of% tT108_3 ∧ type_of% tF108_0 ∧ type_of% tF108_1 ∧ type_of% tF108_2 ∧ type_of% tF108_3 ∧ type_of% tS109 ∧ type_of% tA109 ∧ type_of% tz109 ∧ type_of% tv109 ∧ type_of% tS111 ∧ type_of% tA111 ∧ type_of% tS113 ∧ type_of% tA113 ∧ type_of% tz113 ∧ type_of% tv113 ∧ type_of% tS115 ∧ type_of% tA115 ∧ type_of% tS117 ∧ type_of% tA117 ∧ type_of% tz117 ∧ type_of% tv117 ∧ type_of% tS119 ∧ type_of% tA119 ∧ type_of% tS121 ∧ type_of% tA121 ∧ type_of% tz121 ∧ type_of% tv121 ∧ type_of% tU124 ∧ type_of% tS124 ∧ type_of% tA124 ∧ type_of% tE124 ∧ type_of% tZ124 ∧ type_of% tz124 ∧ type_of% tv124 ∧ type_of% tU128 ∧ type_of% tS128 ∧ type_of% tA128 ∧ type_of% tz128 ∧ type_of% tv128 ∧ type_of% tS129 ∧ type_of% tA129 ∧ type_of% tS133 ∧ type_of% tA133 ∧ type_of% tU138 ∧ type_of% tS138 ∧ type_of% tA138 ∧ type_of% tz138 ∧ type_of% tv138 ∧ type_of% tS140 ∧ type_of% tA140 ∧ type_of% n3 ∧ type_of% i3 ∧ type_of% n4 ∧ type_of% i4 :=
  ⟨tv108, tQ108, tO108, tT108_0, tT108_1, tT108_2, tT108_3, tF108_0, tF108_1, tF108_2, tF108_3, tS109, tA109, tz109, tv109, tS111, tA111, tS113, tA113, tz113, tv113, tS115, tA115, tS117, tA117, tz117, tv117, tS119, tA119, tS121, tA121, tz121, tv121, tU124, tS124, tA124, tE124, tZ124, tz124, tv124, tU128, tS128, tA128, tz128, tv128, tS129, tA129, tS133, tA133, tU138, tS138, tA138, tz138, tv138, tS140, tA140, n3, i3, n4, i4⟩
theorem evTy5 : type_of% n5 ∧ type_of% i5 ∧ type_of% n6 ∧ type_of% i6 ∧ type_of% n7 ∧ type_of% i7 ∧ type_of% n8 ∧ type_of% i8 ∧ type_of% n9 ∧ type_of% i9 ∧ type_of% n10 ∧ type_of% i10 ∧ type_of% n11 ∧ type_of% i11 ∧ type_of% n12 ∧ type_of% i12 ∧ type_of% n13 ∧ type_of% i13 ∧ type_of% n14 ∧ type_of% i14 ∧ type_of% n15 ∧ type_of% i15 ∧ type_of% n16 ∧ type_of% i16 ∧ type_of% n17 ∧ type_of% i17 ∧ type_of% n18 ∧ type_of% i18 ∧ type_of% n19 ∧ type_of% i19 ∧ type_of% n20 ∧ type_of% i20 ∧ type_of% n21 ∧ type_of% i21 ∧ type_of% n22 ∧ type_of% i22 ∧ type_of% n23 ∧ type_of% i23 ∧ type_of% n24 ∧ type_of% i24 ∧ type_of% n25 ∧ type_of% i25 ∧ type_of% n26 ∧ type_of% i26 ∧ type_of% n27 ∧ type_of% i27 ∧ type_of% n28 ∧ type_of% i28 ∧ type_of% n29 ∧ type_of% i29 ∧ type_of% n30 ∧ type_of% i30 ∧ type_of% n31 ∧ type_of% i31 ∧ type_of% n32 ∧ type_of% i32 ∧ type_of% n33 ∧ type_of% i33 ∧ type_of% n34 ∧ type_of% i34 :=
  ⟨n5, i5, n6, i6, n7, i7, n8, i8, n9, i9, n10, i10, n11, i11, n12, i12, n13, i13, n14, i14, n15, i15, n16, i16, n17, i17, n18, i18, n19, i19, n20, i20, n21, i21, n22, i22, n23, i23, n24, i24, n25, i25, n26, i26, n27, i27, n28, i28, n29, i29, n30, i30, n31, i31, n32, i32, n33, i33, n34, i34⟩
theorem evTy6 : type_of% n35 ∧ type_of% i35 ∧ type_of% n36 ∧ type_of% i36 ∧ type_of% n37 ∧ type_of% i37 ∧ type_of% n38 ∧ type_of% i38 ∧ type_of% n39 ∧ type_of% i39 ∧ type_of% n40 ∧ type_of% i40 ∧ type_of% n41 ∧ type_of% i41 ∧ type_of% n42 ∧ type_of% i42 ∧ type_of% n43 ∧ type_of% i43 ∧ type_of% n44 ∧ type_of% i44 ∧ type_of% n45 ∧ type_of% i45 ∧ type_of% n46 ∧ type_of% i46 ∧ type_of% n47 ∧ type_of% i47 ∧ type_of% n48 ∧ type_of% i48 ∧ type_of% n49 ∧ type_of% i49 ∧ type_of% n50 ∧ type_of% i50 ∧ type_of% n51 ∧ type_of% i51 ∧ type_of% n52 ∧ type_of% i52 ∧ type_of% n53 ∧ type_of% i53 ∧ type_of% n54 ∧ type_of% i54 ∧ type_of% n55 ∧ type_of% i55 ∧ type_of% n56 ∧ type_of% i56 ∧ type_of% n57 ∧ type_of% i57 ∧ type_of% n58 ∧ type_of% i58 ∧ type_of% n59 ∧ type_of% i59 ∧ type_of% n60 ∧ type_of% i60 ∧ type_of% n61 ∧ type_of% i61 ∧ type_of% n62 ∧ type_of% i62 ∧ type_of% n63 ∧ type_of% i63 ∧ type_of% n64 ∧ type_of% i64 :=
  ⟨n35, i35, n36, i36, n37, i37, n38, i38, n39, i39, n40, i40, n41, i41, n42, i42, n43, i43, n44, i44, n45, i45, n46, i46, n47, i47, n48, i48, n49, i49, n50, i50, n51, i51, n52, i52, n53, i53, n54, i54, n55, i55, n56, i56, n57, i57, n58, i58, n59, i59, n60, i60, n61, i61, n62, i62, n63, i63, n64, i64⟩
theorem evTy7 : type_of% n65 ∧ type_of% i65 ∧ type_of% n66 ∧ type_of% i66 ∧ type_of% n67 ∧ type_of% i67 ∧ type_of% n68 ∧ type_of% i68 ∧ type_of% n69 ∧ type_of% i69 ∧ type_of% n70 ∧ type_of% i70 ∧ type_of% n71 ∧ type_of% i71 ∧ type_of% n72 ∧ type_of% i72 ∧ type_of% n73 ∧ type_of% i73 ∧ type_of% n74 ∧ type_of% i74 ∧ type_of% n75 ∧ type_of% i75 ∧ type_of% n76 ∧ type_of% i76 ∧ type_of% n77 ∧ type_of% i77 ∧ type_of% n78 ∧ type_of% i78 ∧ type_of% n79 ∧ type_of% i79 ∧ type_of% n80 ∧ type_of% i80 ∧ type_of% n81 ∧ type_of% i81 ∧ type_of% n82 ∧ type_of% i82 ∧ type_of% n83 ∧ type_of% i83 ∧ type_of% n84 ∧ type_of% i84 ∧ type_of% n85 ∧ type_of% i85 ∧ type_of% n86 ∧ type_of% i86 ∧ type_of% n87 ∧ type_of% i87 ∧ type_of% n88 ∧ type_of% i88 ∧ type_of% n89 ∧ type_of% i89 ∧ type_of% n90 ∧ type_of% i90 ∧ type_of% n91 ∧ type_of% i91 ∧ type_of% n92 ∧ type_of% i92 ∧ type_of% n93 ∧ type_of% i93 ∧ type_of% n94 ∧ type_of% i94 :=
  ⟨n65, i65, n66, i66, n67, i67, n68, i68, n69, i69, n70, i70, n71, i71, n72, i72, n73, i73, n74, i74, n75, i75, n76, i76, n77, i77, n78, i78, n79, i79, n80, i80, n81, i81, n82, i82, n83, i83, n84, i84, n85, i85, n86, i86, n87, i87, n88, i88, n89, i89, n90, i90, n91, i91, n92, i92, n93, i93, n94, i94⟩
theorem evTy8 : type_of% n95 ∧ type_of% i95 ∧ type_of% n96 ∧ type_of% i96 ∧ type_of% n97 ∧ type_of% i97 ∧ type_of% n98 ∧ type_of% i98 ∧ type_of% n99 ∧ type_of% i99 ∧ type_of% n100 ∧ type_of% i100 ∧ type_of% n101 ∧ type_of% i101 ∧ type_of% n102 ∧ type_of% i102 ∧ type_of% n103 ∧ type_of% i103 ∧ type_of% n104 ∧ type_of% i104 ∧ type_of% n106 ∧ type_of% i106 ∧ type_of% n107 ∧ type_of% i107 ∧ type_of% n108 ∧ type_of% i108 ∧ type_of% n109 ∧ type_of% i109 ∧ type_of% n111 ∧ type_of% i111 ∧ type_of% n112 ∧ type_of% i112 ∧ type_of% n113 ∧ type_of% i113 ∧ type_of% n114 ∧ type_of% i114 ∧ type_of% n115 ∧ type_of% i115 ∧ type_of% n117 ∧ type_of% i117 ∧ type_of% i118 ∧ type_of% i110 ∧ type_of% i105 :=
  ⟨n95, i95, n96, i96, n97, i97, n98, i98, n99, i99, n100, i100, n101, i101, n102, i102, n103, i103, n104, i104, n106, i106, n107, i107, n108, i108, n109, i109, n111, i111, n112, i112, n113, i113, n114, i114, n115, i115, n117, i117, i118, i110, i105⟩
/-! 3 kerbsuite/kerbsuitelaw22.KaRequests -/
def s3_0 : SC :=
  (.seq (.seq (.reg [⟨(some 56), .move (.tmp 5), 3, none, []⟩,
    ⟨(some 57), .binOp .lss 3 (.tmp 56) (.const (.int .i64 2)) 3, 4, none, []⟩])
  (.cond (.tmp 57)
    .skip
    (.exit 0)))
  (.seq (.block 1 (.seq (.drw [(⟨(some 60), .load 26 (.tmp 2), 26, none, []⟩, []),
    (⟨(some 61), .load 29 (.tmp 3), 29, none, []⟩, [0]),
    (⟨(some 62), .call ⟨.value (.func 9), #[(.tmp 61)], #[29]⟩, 26, none, []⟩, [0]),
    (⟨(some 63), .buildSlice 33 2 #[(0, (.tmp 60)), (1, (.tmp 62))], 33, none, []⟩, []),
    (⟨(some 64), .move (.tmp 5), 3, none, []⟩, [0, 1, 2, 3]),
    (⟨(some 65), .indexAddr 33 (.tmp 63) (.tmp 64), 0, none, []⟩, []),
    (⟨(some 66), .load 26 (.tmp 65), 26, none, []⟩, []),
    (⟨(some 6), .alloc 26, 0, none, []⟩, [0, 1, 2, 3, 5, 6]),
    (⟨none, .store 26 (.tmp 6) (.tmp 66), 0, none, []⟩, [])])
  (.seq (.reg [⟨(some 68), .load 26 (.tmp 6), 26, none, []⟩,
    ⟨(some 69), .call ⟨.value (.func 10), #[(.tmp 68)], #[26]⟩, 35, none, []⟩,
    ⟨(some 67), .move (.tmp 69), 35, none, []⟩,
    ⟨(some 70), .extract (.tmp 67) 0, 24, none, []⟩,
    ⟨(some 71), .extract (.tmp 67) 1, 34, none, []⟩,
    ⟨(some 7), .assign (.tmp 70), 24, none, []⟩,
    ⟨(some 8), .assign (.tmp 71), 34, none, []⟩])
  (.seq (.reg [⟨(some 73), .load 26 (.tmp 6), 26, none, []⟩,
    ⟨(some 74), .call ⟨.value (.func 11), #[(.tmp 73)], #[26]⟩, 35, none, []⟩,
    ⟨(some 72), .move (.tmp 74), 35, none, []⟩,
    ⟨(some 75), .extract (.tmp 72) 0, 24, none, []⟩,
    ⟨(some 76), .extract (.tmp 72) 1, 34, none, []⟩,
    ⟨(some 9), .assign (.tmp 75), 24, none, []⟩,
    ⟨(some 10), .assign (.tmp 76), 34, none, []⟩])
  (.seq (.seq (.reg [⟨(some 77), .move (.tmp 7), 24, none, []⟩,
    ⟨(some 78), .convert 24 9 (.tmp 77), 9, none, []⟩,
    ⟨(some 79), .move (.tmp 9), 24, none, []⟩,
    ⟨(some 80), .convert 24 9 (.tmp 79), 9, none, []⟩,
    ⟨(some 81), .binOp .neq 9 (.tmp 78) (.tmp 80) 9, 4, none, []⟩,
    ⟨(some 82), .move (.tmp 81), 4, none, []⟩,
    ⟨(some 83), .move (.tmp 8), 34, some (82, false), []⟩,
    ⟨(some 84), .move (.tmp 10), 34, some (82, false), []⟩,
    ⟨(some 85), .binOp .neq 34 (.tmp 83) (.tmp 84) 34, 4, some (82, false), []⟩,
    ⟨(some 86), .pick (.tmp 82) (.const (.bool true)) (.tmp 85), 4, none, []⟩])
  (.cond (.tmp 86)
    (.seq (.reg [⟨(some 4), .assign (.const (.bool false)), 4, none, []⟩])
    .ret)
    .skip))
  (.seq (.reg [⟨(some 87), .move (.tmp 8), 34, none, []⟩,
    ⟨(some 88), .binOp .eql 34 (.tmp 87) (.const (.int .i64 0)) 34, 4, none, []⟩])
  (.cond (.tmp 88)
    (.seq (.reg [⟨(some 90), .move (.tmp 7), 24, none, []⟩,
      ⟨(some 91), .call ⟨.value (.func 12), #[(.tmp 90)], #[24]⟩, 37, none, []⟩,
      ⟨(some 89), .move (.tmp 91), 37, none, []⟩,
      ⟨(some 92), .extract (.tmp 89) 0, 26, none, []⟩,
      ⟨(some 93), .extract (.tmp 89) 1, 34, none, []⟩,
      ⟨(some 11), .alloc 26, 0, none, []⟩,
      ⟨none, .store 26 (.tmp 11) (.tmp 92), 0, none, []⟩,
      ⟨(some 12), .assign (.tmp 93), 34, none, []⟩])
    (.seq (.reg [⟨(some 95), .move (.tmp 7), 24, none, []⟩,
      ⟨(some 96), .call ⟨.value (.func 13), #[(.tmp 95)], #[24]⟩, 41, none, []⟩,
      ⟨(some 94), .move (.tmp 96), 41, none, []⟩,
      ⟨(some 97), .extract (.tmp 94) 0, 40, none, []⟩,
      ⟨(some 98), .extract (.tmp 94) 1, 34, none, []⟩,
      ⟨(some 13), .alloc 40, 0, none, []⟩,
      ⟨none, .store 40 (.tmp 13) (.tmp 97), 0, none, []⟩,
      ⟨(some 14), .assign (.tmp 98), 34, none, []⟩])
    (.seq (.reg [⟨(some 99), .move (.tmp 12), 34, none, []⟩,
      ⟨(some 100), .binOp .neq 34 (.tmp 99) (.const (.int .i64 0)) 34, 4, none, []⟩,
      ⟨(some 101), .move (.tmp 100), 4, none, []⟩,
      ⟨(some 102), .load 26 (.tmp 11), 26, some (101, false), []⟩,
      ⟨(some 103), .load 26 (.tmp 6), 26, some (101, false), []⟩,
      ⟨(some 104), .call ⟨.value (.func 14), #[(.tmp 102), (.tmp 103)], #[26, 26]⟩, 4, some (101, false), []⟩,
      ⟨(some 105), .unOp .not 4 (.tmp 104), 4, some (101, false), []⟩,
      ⟨(some 106), .pick (.tmp 101) (.const (.bool true)) (.tmp 105), 4, none, []⟩,
      ⟨(some 107), .move (.tmp 106), 4, none, []⟩,
      ⟨(some 108), .move (.tmp 14), 34, some (107, false), []⟩,
      ⟨(some 109), .binOp .eql 34 (.tmp 108) (.const (.int .i64 0)) 34, 4, some (107, false), []⟩,
      ⟨(some 110), .pick (.tmp 107) (.const (.bool true)) (.tmp 109), 4, none, []⟩])
    (.cond (.tmp 110)
      (.seq (.reg [⟨(some 4), .assign (.const (.bool false)), 4, none, []⟩])
      .ret)
      .skip))))
    .skip)))))))
  (.reg [⟨(some 58), .move (.tmp 5), 3, none, []⟩,
    ⟨(some 59), .binOp .add 3 (.tmp 58) (.const (.int .i64 1)) 3, 3, none, []⟩,
    ⟨(some 5), .assign (.tmp 59), 3, none, []⟩])))
def s3 : SC :=
  (.seq (.reg [⟨(some 2), .box 26 (.tmp 0), 0, none, []⟩,
    ⟨(some 3), .box 29 (.tmp 1), 0, none, []⟩,
    ⟨(some 4), .assign (.const (.bool false)), 4, none, []⟩])
  (.seq (.seq (.reg [⟨(some 15), .call ⟨.value (.func 7), #[], #[]⟩, 4, none, []⟩,
    ⟨(some 16), .unOp .not 4 (.tmp 15), 4, none, []⟩])
  (.cond (.tmp 16)
    (.seq (.reg [⟨(some 4), .assign (.const (.bool false)), 4, none, []⟩])
    .ret)
    .skip))
  (.seq (.seq (.reg [⟨(some 17), .fieldAddr 26 (.tmp 2) 1, 0, none, []⟩,
    ⟨(some 18), .load 23 (.tmp 17), 23, none, []⟩,
    ⟨(some 19), .call ⟨.value (.func 8), #[(.tmp 18)], #[23]⟩, 4, none, []⟩,
    ⟨(some 20), .move (.tmp 19), 4, none, []⟩,
    ⟨(some 21), .fieldAddr 26 (.tmp 2) 3, 0, some (20, false), []⟩,
    ⟨(some 22), .load 9 (.tmp 21), 9, some (20, false), []⟩,
    ⟨(some 23), .call ⟨.builtin .len, #[(.tmp 22)], #[9]⟩, 3, some (20, false), []⟩,
    ⟨(some 24), .binOp .gtr 3 (.tmp 23) (.const (.int .i64 100)) 3, 4, some (20, false), []⟩,
    ⟨(some 25), .pick (.tmp 20) (.const (.bool true)) (.tmp 24), 4, none, []⟩,
    ⟨(some 26), .move (.tmp 25), 4, none, []⟩,
    ⟨(some 27), .fieldAddr 26 (.tmp 2) 5, 0, some (26, false), []⟩,
    ⟨(some 28), .load 9 (.tmp 27), 9, some (26, false), []⟩,
    ⟨(some 29), .call ⟨.builtin .len, #[(.tmp 28)], #[9]⟩, 3, some (26, false), []⟩,
    ⟨(some 30), .binOp .gtr 3 (.tmp 29) (.const (.int .i64 100)) 3, 4, some (26, false), []⟩,
    ⟨(some 31), .pick (.tmp 26) (.const (.bool true)) (.tmp 30), 4, none, []⟩,
    ⟨(some 32), .move (.tmp 31), 4, none, []⟩,
    ⟨(some 33), .fieldAddr 26 (.tmp 2) 6, 0, some (32, false), []⟩,
    ⟨(some 34), .load 9 (.tmp 33), 9, some (32, false), []⟩,
    ⟨(some 35), .call ⟨.builtin .len, #[(.tmp 34)], #[9]⟩, 3, some (32, false), []⟩,
    ⟨(some 36), .binOp .gtr 3 (.tmp 35) (.const (.int .i64 100)) 3, 4, some (32, false), []⟩,
    ⟨(some 37), .pick (.tmp 32) (.const (.bool true)) (.tmp 36), 4, none, []⟩,
    ⟨(some 38), .move (.tmp 37), 4, none, []⟩,
    ⟨(some 39), .fieldAddr 26 (.tmp 2) 4, 0, some (38, false), []⟩,
    ⟨(some 40), .load 24 (.tmp 39), 24, some (38, false), []⟩,
    ⟨(some 41), .call ⟨.builtin .len, #[(.tmp 40)], #[24]⟩, 3, some (38, false), []⟩,
    ⟨(some 42), .binOp .gtr 3 (.tmp 41) (.const (.int .i64 400)) 3, 4, some (38, false), []⟩,
    ⟨(some 43), .pick (.tmp 38) (.const (.bool true)) (.tmp 42), 4, none, []⟩,
    ⟨(some 44), .move (.tmp 43), 4, none, []⟩,
    ⟨(some 45), .fieldAddr 26 (.tmp 2) 7, 0, some (44, false), []⟩,
    ⟨(some 46), .load 24 (.tmp 45), 24, some (44, false), []⟩,
    ⟨(some 47), .call ⟨.builtin .len, #[(.tmp 46)], #[24]⟩, 3, some (44, false), []⟩,
    ⟨(some 48), .binOp .gtr 3 (.tmp 47) (.const (.int .i64 1100)) 3, 4, some (44, false), []⟩,
    ⟨(some 49), .pick (.tmp 44) (.const (.bool true)) (.tmp 48), 4, none, []⟩,
    ⟨(some 50), .move (.tmp 49), 4, none, []⟩,
    ⟨(some 51), .fieldAddr 29 (.tmp 3) 9, 0, some (50, false), []⟩,
    ⟨(some 52), .load 24 (.tmp 51), 24, some (50, false), []⟩,
    ⟨(some 53), .call ⟨.builtin .len, #[(.tmp 52)], #[24]⟩, 3, some (50, false), []⟩,
    ⟨(some 54), .binOp .gtr 3 (.tmp 53) (.const (.int .i64 400)) 3, 4, some (50, false), []⟩,
    ⟨(some 55), .pick (.tmp 50) (.const (.bool true)) (.tmp 54), 4, none, []⟩])
  (.cond (.tmp 55)
    (.seq (.reg [⟨(some 4), .assign (.const (.bool true)), 4, none, []⟩])
    .ret)
    .skip))
  (.seq (.seq (.reg [⟨(some 5), .assign (.const (.int .i64 0)), 3, none, []⟩])
  (.block 0 (.loop (some ([2, 3, 5], 0)) s3_0)))
  (.seq (.reg [⟨(some 4), .assign (.const (.bool true)), 4, none, []⟩])
  .ret)))))
theorem l3 : slimF Hs 3 Try.f3 = some (111, s3, [.tmp 4]) := by kernel_rfl

/-! 4 kerbsuite/kerbsuitelaw22.KaReplies -/
def s4_0 : SC :=
  (.seq (.seq (.reg [⟨(some 32), .move (.tmp 11), 3, none, []⟩,
    ⟨(some 33), .binOp .lss 3 (.tmp 32) (.const (.int .i64 3)) 3, 4, none, []⟩])
  (.cond (.tmp 33)
    .skip
    (.exit 0)))
  (.seq (.block 1 (.seq (.drw [(⟨(some 36), .load 40 (.tmp 5), 40, none, []⟩, []),
    (⟨(some 37), .move (.tmp 1), 5, none, []⟩, [0]),
    (⟨(some 38), .convert 5 3 (.tmp 37), 3, none, []⟩, [0]),
    (⟨(some 39), .binOp .rem 3 (.tmp 38) (.const (.int .i64 3)) 3, 3, none, []⟩, [0]),
    (⟨(some 40), .binOp .add 3 (.const (.int .i64 1)) (.tmp 39) 3, 3, none, []⟩, [0]),
    (⟨(some 41), .move (.tmp 2), 5, none, []⟩, [0, 2]),
    (⟨(some 42), .binOp .rem 5 (.tmp 41) (.const (.int .u8 2)) 5, 5, none, []⟩, [0, 2]),
    (⟨(some 43), .move (.tmp 2), 5, none, []⟩, [0, 2]),
    (⟨(some 44), .binOp .quo 5 (.tmp 43) (.const (.int .u8 2)) 5, 5, none, []⟩, [0, 2]),
    (⟨(some 45), .binOp .mul 5 (.tmp 42) (.tmp 44) 5, 5, none, []⟩, [0, 2]),
    (⟨(some 46), .convert 5 34 (.tmp 45), 34, none, []⟩, [0, 1, 2, 3, 4]),
    (⟨(some 47), .move (.tmp 3), 24, none, []⟩, [0, 2, 10]),
    (⟨(some 48), .build 40 #[(0, (.tmp 40)), (1, (.tmp 46)), (2, (.tmp 47))], 40, none, []⟩, [0]),
    (⟨(some 49), .move (.tmp 1), 5, none, []⟩, [0, 2, 10]),
    (⟨(some 50), .convert 5 3 (.tmp 49), 3, none, []⟩, [0, 1, 2, 3, 4, 5, 6, 7, 8, 9, 10, 11, 12]),
    (⟨(some 51), .binOp .rem 3 (.tmp 50) (.const (.int .i64 5)) 3, 3, none, []⟩, [0, 2, 10]),
    (⟨(some 52), .move (.tmp 4), 45, none, []⟩, [0, 2, 10, 14]),
    (⟨(some 53), .convert 45 3 (.tmp 52), 3, none, []⟩, [0, 1, 2, 3, 4, 5, 6, 7, 8, 9, 10, 11, 12, 13, 14, 15]),
    (⟨(some 54), .binOp .rem 3 (.tmp 53) (.const (.int .i64 3)) 3, 3, none, []⟩, [0, 2, 10, 14]),
    (⟨(some 55), .binOp .add 3 (.const (.int .i64 1011)) (.tmp 54) 3, 3, none, []⟩, [0, 2, 10, 14]),
    (⟨(some 56), .makeSlice 24 (.tmp 55) (.tmp 55), 24, none, []⟩, [0, 1, 2, 3, 4, 5, 6, 7, 8, 9, 10, 11, 12, 13, 14, 15]),
    (⟨(some 57), .build 40 #[(0, (.tmp 51)), (2, (.tmp 56))], 40, none, []⟩, [0, 2, 10]),
    (⟨(some 58), .buildSlice 46 3 #[(0, (.tmp 36)), (1, (.tmp 48)), (2, (.tmp 57))], 46, none, []⟩, []),
    (⟨(some 59), .move (.tmp 11), 3, none, []⟩, [0, 2, 10, 14, 17, 20, 22]),
    (⟨(some 60), .indexAddr 46 (.tmp 58) (.tmp 59), 0, none, []⟩, []),
    (⟨(some 61), .load 40 (.tmp 60), 40, none, []⟩, []),
    (⟨(some 12), .alloc 40, 0, none, []⟩, [0, 2, 10, 14, 17, 20, 22, 24, 25]),
    (⟨none, .store 40 (.tmp 12) (.tmp 61), 0, none, []⟩, [])])
  (.seq (.reg [⟨(some 63), .load 40 (.tmp 12), 40, none, []⟩,
    ⟨(some 64), .call ⟨.value (.func 15), #[(.tmp 63)], #[40]⟩, 35, none, []⟩,
    ⟨(some 62), .move (.tmp 64), 35, none, []⟩,
    ⟨(some 65), .extract (.tmp 62) 0, 24, none, []⟩,
    ⟨(some 66), .extract (.tmp 62) 1, 34, none, []⟩,
    ⟨(some 13), .assign (.tmp 65), 24, none, []⟩,
    ⟨(some 14), .assign (.tmp 66), 34, none, []⟩])
  (.seq (.reg [⟨(some 68), .load 40 (.tmp 12), 40, none, []⟩,
    ⟨(some 69), .call ⟨.value (.func 16), #[(.tmp 68)], #[40]⟩, 35, none, []⟩,
    ⟨(some 67), .move (.tmp 69), 35, none, []⟩,
    ⟨(some 70), .extract (.tmp 67) 0, 24, none, []⟩,
    ⟨(some 71), .extract (.tmp 67) 1, 34, none, []⟩,
    ⟨(some 15), .assign (.tmp 70), 24, none, []⟩,
    ⟨(some 16), .assign (.tmp 71), 34, none, []⟩])
  (.seq (.seq (.reg [⟨(some 72), .move (.tmp 13), 24, none, []⟩,
    ⟨(some 73), .convert 24 9 (.tmp 72), 9, none, []⟩,
    ⟨(some 74), .move (.tmp 15), 24, none, []⟩,
    ⟨(some 75), .convert 24 9 (.tmp 74), 9, none, []⟩,
    ⟨(some 76), .binOp .neq 9 (.tmp 73) (.tmp 75) 9, 4, none, []⟩,
    ⟨(some 77), .move (.tmp 76), 4, none, []⟩,
    ⟨(some 78), .move (.tmp 14), 34, some (77, false), []⟩,
    ⟨(some 79), .move (.tmp 16), 34, some (77, false), []⟩,
    ⟨(some 80), .binOp .neq 34 (.tmp 78) (.tmp 79) 34, 4, some (77, false), []⟩,
    ⟨(some 81), .pick (.tmp 77) (.const (.bool true)) (.tmp 80), 4, none, []⟩])
  (.cond (.tmp 81)
    (.seq (.reg [⟨(some 10), .assign (.const (.bool false)), 4, none, []⟩])
    .ret)
    .skip))
  (.seq (.reg [⟨(some 82), .move (.tmp 14), 34, none, []⟩,
    ⟨(some 83), .binOp .eql 34 (.tmp 82) (.const (.int .i64 0)) 34, 4, none, []⟩])
  (.cond (.tmp 83)
    (.seq (.reg [⟨(some 85), .move (.tmp 13), 24, none, []⟩,
      ⟨(some 86), .call ⟨.value (.func 13), #[(.tmp 85)], #[24]⟩, 41, none, []⟩,
      ⟨(some 84), .move (.tmp 86), 41, none, []⟩,
      ⟨(some 87), .extract (.tmp 84) 0, 40, none, []⟩,
      ⟨(some 88), .extract (.tmp 84) 1, 34, none, []⟩,
      ⟨(some 17), .alloc 40, 0, none, []⟩,
      ⟨none, .store 40 (.tmp 17) (.tmp 87), 0, none, []⟩,
      ⟨(some 18), .assign (.tmp 88), 34, none, []⟩])
    (.seq (.reg [⟨(some 90), .move (.tmp 13), 24, none, []⟩,
      ⟨(some 91), .call ⟨.value (.func 12), #[(.tmp 90)], #[24]⟩, 37, none, []⟩,
      ⟨(some 89), .move (.tmp 91), 37, none, []⟩,
      ⟨(some 92), .extract (.tmp 89) 0, 26, none, []⟩,
      ⟨(some 93), .extract (.tmp 89) 1, 34, none, []⟩,
      ⟨(some 19), .alloc 26, 0, none, []⟩,
      ⟨none, .store 26 (.tmp 19) (.tmp 92), 0, none, []⟩,
      ⟨(some 20), .assign (.tmp 93), 34, none, []⟩])
    (.seq (.reg [⟨(some 94), .move (.tmp 18), 34, none, []⟩,
      ⟨(some 95), .binOp .neq 34 (.tmp 94) (.const (.int .i64 0)) 34, 4, none, []⟩,
      ⟨(some 96), .move (.tmp 95), 4, none, []⟩,
      ⟨(some 97), .load 40 (.tmp 17), 40, some (96, false), []⟩,
      ⟨(some 98), .load 40 (.tmp 12), 40, some (96, false), []⟩,
      ⟨(some 99), .call ⟨.value (.func 17), #[(.tmp 97), (.tmp 98)], #[40, 40]⟩, 4, some (96, false), []⟩,
      ⟨(some 100), .unOp .not 4 (.tmp 99), 4, some (96, false), []⟩,
      ⟨(some 101), .pick (.tmp 96) (.const (.bool true)) (.tmp 100), 4, none, []⟩,
      ⟨(some 102), .move (.tmp 101), 4, none, []⟩,
      ⟨(some 103), .move (.tmp 20), 34, some (102, false), []⟩,
      ⟨(some 104), .binOp .eql 34 (.tmp 103) (.const (.int .i64 0)) 34, 4, some (102, false), []⟩,
      ⟨(some 105), .pick (.tmp 102) (.const (.bool true)) (.tmp 104), 4, none, []⟩])
    (.cond (.tmp 105)
      (.seq (.reg [⟨(some 10), .assign (.const (.bool false)), 4, none, []⟩])
      .ret)
      .skip))))
    .skip)))))))
  (.reg [⟨(some 34), .move (.tmp 11), 3, none, []⟩,
    ⟨(some 35), .binOp .add 3 (.tmp 34) (.const (.int .i64 1)) 3, 3, none, []⟩,
    ⟨(some 11), .assign (.tmp 35), 3, none, []⟩])))
def s4 : SC :=
  (.seq (.reg [⟨(some 5), .box 40 (.tmp 0), 0, none, []⟩,
    ⟨(some 10), .assign (.const (.bool false)), 4, none, []⟩])
  (.seq (.seq (.reg [⟨(some 21), .call ⟨.value (.func 7), #[], #[]⟩, 4, none, []⟩,
    ⟨(some 22), .unOp .not 4 (.tmp 21), 4, none, []⟩])
  (.cond (.tmp 22)
    (.seq (.reg [⟨(some 10), .assign (.const (.bool false)), 4, none, []⟩])
    .ret)
    .skip))
  (.seq (.seq (.reg [⟨(some 23), .fieldAddr 40 (.tmp 5) 2, 0, none, []⟩,
    ⟨(some 24), .load 24 (.tmp 23), 24, none, []⟩,
    ⟨(some 25), .call ⟨.builtin .len, #[(.tmp 24)], #[24]⟩, 3, none, []⟩,
    ⟨(some 26), .binOp .gtr 3 (.tmp 25) (.const (.int .i64 1100)) 3, 4, none, []⟩,
    ⟨(some 27), .move (.tmp 26), 4, none, []⟩,
    ⟨(some 28), .move (.tmp 3), 24, some (27, false), []⟩,
    ⟨(some 29), .call ⟨.builtin .len, #[(.tmp 28)], #[24]⟩, 3, some (27, false), []⟩,
    ⟨(some 30), .binOp .gtr 3 (.tmp 29) (.const (.int .i64 900)) 3, 4, some (27, false), []⟩,
    ⟨(some 31), .pick (.tmp 27) (.const (.bool true)) (.tmp 30), 4, none, []⟩])
  (.cond (.tmp 31)
    (.seq (.reg [⟨(some 10), .assign (.const (.bool true)), 4, none, []⟩])
    .ret)
    .skip))
  (.seq (.seq (.reg [⟨(some 11), .assign (.const (.int .i64 0)), 3, none, []⟩])
  (.block 0 (.loop (some ([1, 2, 3, 4, 5, 11], 0)) s4_0)))
  (.seq (.reg [⟨(some 10), .assign (.const (.bool true)), 4, none, []⟩])
  .ret)))))
theorem l4 : slimF Hs 4 Try.f4 = some (106, s4, [.tmp 10]) := by kernel_rfl

/-! 5 kerbsuite/kerbsuitelaw22.KaAnswers -/
def s5_0 : SC :=
  (.seq (.seq (.reg [⟨(some 36), .move (.tmp 5), 3, none, []⟩,
    ⟨(some 37), .binOp .lss 3 (.tmp 36) (.const (.int .i64 2)) 3, 4, none, []⟩])
  (.cond (.tmp 37)
    .skip
    (.exit 0)))
  (.seq (.block 1 (.seq (.drw [(⟨(some 40), .load 53 (.tmp 2), 53, none, []⟩, []),
    (⟨(some 41), .load 29 (.tmp 3), 29, none, []⟩, [0]),
    (⟨(some 42), .call ⟨.value (.func 18), #[(.tmp 41)], #[29]⟩, 53, none, []⟩, [0]),
    (⟨(some 43), .buildSlice 55 2 #[(0, (.tmp 40)), (1, (.tmp 42))], 55, none, []⟩, []),
    (⟨(some 44), .move (.tmp 5), 3, none, []⟩, [0, 1, 2, 3]),
    (⟨(some 45), .indexAddr 55 (.tmp 43) (.tmp 44), 0, none, []⟩, []),
    (⟨(some 46), .load 53 (.tmp 45), 53, none, []⟩, []),
    (⟨(some 6), .alloc 53, 0, none, []⟩, [0, 1, 2, 3, 5, 6]),
    (⟨none, .store 53 (.tmp 6) (.tmp 46), 0, none, []⟩, [])])
  (.seq (.reg [⟨(some 48), .load 53 (.tmp 6), 53, none, []⟩,
    ⟨(some 49), .call ⟨.value (.func 19), #[(.tmp 48)], #[53]⟩, 35, none, []⟩,
    ⟨(some 47), .move (.tmp 49), 35, none, []⟩,
    ⟨(some 50), .extract (.tmp 47) 0, 24, none, []⟩,
    ⟨(some 51), .extract (.tmp 47) 1, 34, none, []⟩,
    ⟨(some 7), .assign (.tmp 50), 24, none, []⟩,
    ⟨(some 8), .assign (.tmp 51), 34, none, []⟩])
  (.seq (.reg [⟨(some 53), .load 53 (.tmp 6), 53, none, []⟩,
    ⟨(some 54), .call ⟨.value (.func 20), #[(.tmp 53)], #[53]⟩, 35, none, []⟩,
    ⟨(some 52), .move (.tmp 54), 35, none, []⟩,
    ⟨(some 55), .extract (.tmp 52) 0, 24, none, []⟩,
    ⟨(some 56), .extract (.tmp 52) 1, 34, none, []⟩,
    ⟨(some 9), .assign (.tmp 55), 24, none, []⟩,
    ⟨(some 10), .assign (.tmp 56), 34, none, []⟩])
  (.seq (.seq (.reg [⟨(some 57), .move (.tmp 7), 24, none, []⟩,
    ⟨(some 58), .convert 24 9 (.tmp 57), 9, none, []⟩,
    ⟨(some 59), .move (.tmp 9), 24, none, []⟩,
    ⟨(some 60), .convert 24 9 (.tmp 59), 9, none, []⟩,
    ⟨(some 61), .binOp .neq 9 (.tmp 58) (.tmp 60) 9, 4, none, []⟩,
    ⟨(some 62), .move (.tmp 61), 4, none, []⟩,
    ⟨(some 63), .move (.tmp 8), 34, some (62, false), []⟩,
    ⟨(some 64), .move (.tmp 10), 34, some (62, false), []⟩,
    ⟨(some 65), .binOp .neq 34 (.tmp 63) (.tmp 64) 34, 4, some (62, false), []⟩,
    ⟨(some 66), .pick (.tmp 62) (.const (.bool true)) (.tmp 65), 4, none, []⟩,
    ⟨(some 67), .move (.tmp 66), 4, none, []⟩,
    ⟨(some 68), .move (.tmp 7), 24, some (67, false), []⟩,
    ⟨(some 69), .call ⟨.builtin .len, #[(.tmp 68)], #[24]⟩, 3, some (67, false), []⟩,
    ⟨(some 70), .binOp .gtr 3 (.tmp 69) (.const (.int .i64 408)) 3, 4, some (67, false), []⟩,
    ⟨(some 71), .pick (.tmp 67) (.const (.bool true)) (.tmp 70), 4, none, []⟩])
  (.cond (.tmp 71)
    (.seq (.reg [⟨(some 4), .assign (.const (.bool false)), 4, none, []⟩])
    .ret)
    .skip))
  (.seq (.reg [⟨(some 72), .move (.tmp 8), 34, none, []⟩,
    ⟨(some 73), .binOp .eql 34 (.tmp 72) (.const (.int .i64 0)) 34, 4, none, []⟩])
  (.cond (.tmp 73)
    (.seq (.reg [⟨(some 75), .move (.tmp 7), 24, none, []⟩,
      ⟨(some 76), .call ⟨.value (.func 21), #[(.tmp 75)], #[24]⟩, 57, none, []⟩,
      ⟨(some 74), .move (.tmp 76), 57, none, []⟩,
      ⟨(some 77), .extract (.tmp 74) 0, 53, none, []⟩,
      ⟨(some 78), .extract (.tmp 74) 1, 34, none, []⟩,
      ⟨(some 11), .alloc 53, 0, none, []⟩,
      ⟨none, .store 53 (.tmp 11) (.tmp 77), 0, none, []⟩,
      ⟨(some 12), .assign (.tmp 78), 34, none, []⟩])
    (.seq (.reg [⟨(some 79), .move (.tmp 12), 34, none, []⟩,
      ⟨(some 80), .binOp .neq 34 (.tmp 79) (.const (.int .i64 0)) 34, 4, none, []⟩,
      ⟨(some 81), .move (.tmp 80), 4, none, []⟩,
      ⟨(some 82), .load 53 (.tmp 6), 53, some (81, false), []⟩,
      ⟨(some 83), .load 53 (.tmp 11), 53, some (81, false), []⟩,
      ⟨(some 84), .call ⟨.value (.func 22), #[(.tmp 82), (.tmp 83)], #[53, 53]⟩, 4, some (81, false), []⟩,
      ⟨(some 85), .unOp .not 4 (.tmp 84), 4, some (81, false), []⟩,
      ⟨(some 86), .pick (.tmp 81) (.const (.bool true)) (.tmp 85), 4, none, []⟩])
    (.cond (.tmp 86)
      (.seq (.reg [⟨(some 4), .assign (.const (.bool false)), 4, none, []⟩])
      .ret)
      .skip)))
    .skip)))))))
  (.reg [⟨(some 38), .move (.tmp 5), 3, none, []⟩,
    ⟨(some 39), .binOp .add 3 (.tmp 38) (.const (.int .i64 1)) 3, 3, none, []⟩,
    ⟨(some 5), .assign (.tmp 39), 3, none, []⟩])))
def s5 : SC :=
  (.seq (.reg [⟨(some 2), .box 53 (.tmp 0), 0, none, []⟩,
    ⟨(some 3), .box 29 (.tmp 1), 0, none, []⟩,
    ⟨(some 4), .assign (.const (.bool false)), 4, none, []⟩])
  (.seq (.seq (.reg [⟨(some 13), .call ⟨.value (.func 7), #[], #[]⟩, 4, none, []⟩,
    ⟨(some 14), .unOp .not 4 (.tmp 13), 4, none, []⟩])
  (.cond (.tmp 14)
    (.seq (.reg [⟨(some 4), .assign (.const (.bool false)), 4, none, []⟩])
    .ret)
    .skip))
  (.seq (.seq (.reg [⟨(some 15), .fieldAddr 53 (.tmp 2) 6, 0, none, []⟩,
    ⟨(some 16), .load 23 (.tmp 15), 23, none, []⟩,
    ⟨(some 17), .call ⟨.value (.func 8), #[(.tmp 16)], #[23]⟩, 4, none, []⟩,
    ⟨(some 18), .move (.tmp 17), 4, none, []⟩,
    ⟨(some 19), .fieldAddr 53 (.tmp 2) 0, 0, some (18, false), []⟩,
    ⟨(some 20), .load 9 (.tmp 19), 9, some (18, false), []⟩,
    ⟨(some 21), .call ⟨.builtin .len, #[(.tmp 20)], #[9]⟩, 3, some (18, false), []⟩,
    ⟨(some 22), .binOp .gtr 3 (.tmp 21) (.const (.int .i64 100)) 3, 4, some (18, false), []⟩,
    ⟨(some 23), .pick (.tmp 18) (.const (.bool true)) (.tmp 22), 4, none, []⟩,
    ⟨(some 24), .move (.tmp 23), 4, none, []⟩,
    ⟨(some 25), .fieldAddr 53 (.tmp 2) 7, 0, some (24, false), []⟩,
    ⟨(some 26), .load 24 (.tmp 25), 24, some (24, false), []⟩,
    ⟨(some 27), .call ⟨.builtin .len, #[(.tmp 26)], #[24]⟩, 3, some (24, false), []⟩,
    ⟨(some 28), .binOp .gtr 3 (.tmp 27) (.const (.int .i64 400)) 3, 4, some (24, false), []⟩,
    ⟨(some 29), .pick (.tmp 24) (.const (.bool true)) (.tmp 28), 4, none, []⟩,
    ⟨(some 30), .move (.tmp 29), 4, none, []⟩,
    ⟨(some 31), .fieldAddr 29 (.tmp 3) 9, 0, some (30, false), []⟩,
    ⟨(some 32), .load 24 (.tmp 31), 24, some (30, false), []⟩,
    ⟨(some 33), .call ⟨.builtin .len, #[(.tmp 32)], #[24]⟩, 3, some (30, false), []⟩,
    ⟨(some 34), .binOp .gtr 3 (.tmp 33) (.const (.int .i64 400)) 3, 4, some (30, false), []⟩,
    ⟨(some 35), .pick (.tmp 30) (.const (.bool true)) (.tmp 34), 4, none, []⟩])
  (.cond (.tmp 35)
    (.seq (.reg [⟨(some 4), .assign (.const (.bool true)), 4, none, []⟩])
    .ret)
    .skip))
  (.seq (.seq (.reg [⟨(some 5), .assign (.const (.int .i64 0)), 3, none, []⟩])
  (.block 0 (.loop (some ([2, 3, 5], 0)) s5_0)))
  (.seq (.reg [⟨(some 4), .assign (.const (.bool true)), 4, none, []⟩])
  .ret)))))
theorem l5 : slimF Hs 5 Try.f5 = some (87, s5, [.tmp 4]) := by kernel_rfl

/-! 6 kerbsuite/kerbsuitelaw22.KaSecrets -/
def s6_0 : SC :=
  (.seq (.seq (.reg [⟨(some 19), .move (.tmp 5), 3, none, []⟩,
    ⟨(some 20), .binOp .lss 3 (.tmp 19) (.const (.int .i64 2)) 3, 4, none, []⟩])
  (.cond (.tmp 20)
    .skip
    (.exit 0)))
  (.seq (.block 1 (.seq (.drw [(⟨(some 23), .load 62 (.tmp 2), 62, none, []⟩, []),
    (⟨(some 24), .load 29 (.tmp 3), 29, none, []⟩, [0]),
    (⟨(some 25), .call ⟨.value (.func 23), #[(.tmp 24)], #[29]⟩, 62, none, []⟩, [0]),
    (⟨(some 26), .buildSlice 64 2 #[(0, (.tmp 23)), (1, (.tmp 25))], 64, none, []⟩, []),
    (⟨(some 27), .move (.tmp 5), 3, none, []⟩, [0, 1, 2, 3]),
    (⟨(some 28), .indexAddr 64 (.tmp 26) (.tmp 27), 0, none, []⟩, []),
    (⟨(some 29), .load 62 (.tmp 28), 62, none, []⟩, []),
    (⟨(some 6), .alloc 62, 0, none, []⟩, [0, 1, 2, 3, 5, 6]),
    (⟨none, .store 62 (.tmp 6) (.tmp 29), 0, none, []⟩, [])])
  (.seq (.reg [⟨(some 31), .load 62 (.tmp 6), 62, none, []⟩,
    ⟨(some 32), .call ⟨.value (.func 24), #[(.tmp 31)], #[62]⟩, 35, none, []⟩,
    ⟨(some 30), .move (.tmp 32), 35, none, []⟩,
    ⟨(some 33), .extract (.tmp 30) 0, 24, none, []⟩,
    ⟨(some 34), .extract (.tmp 30) 1, 34, none, []⟩,
    ⟨(some 7), .assign (.tmp 33), 24, none, []⟩,
    ⟨(some 8), .assign (.tmp 34), 34, none, []⟩])
  (.seq (.reg [⟨(some 36), .load 62 (.tmp 6), 62, none, []⟩,
    ⟨(some 37), .call ⟨.value (.func 25), #[(.tmp 36)], #[62]⟩, 35, none, []⟩,
    ⟨(some 35), .move (.tmp 37), 35, none, []⟩,
    ⟨(some 38), .extract (.tmp 35) 0, 24, none, []⟩,
    ⟨(some 39), .extract (.tmp 35) 1, 34, none, []⟩,
    ⟨(some 9), .assign (.tmp 38), 24, none, []⟩,
    ⟨(some 10), .assign (.tmp 39), 34, none, []⟩])
  (.seq (.seq (.reg [⟨(some 40), .move (.tmp 7), 24, none, []⟩,
    ⟨(some 41), .convert 24 9 (.tmp 40), 9, none, []⟩,
    ⟨(some 42), .move (.tmp 9), 24, none, []⟩,
    ⟨(some 43), .convert 24 9 (.tmp 42), 9, none, []⟩,
    ⟨(some 44), .binOp .neq 9 (.tmp 41) (.tmp 43) 9, 4, none, []⟩,
    ⟨(some 45), .move (.tmp 44), 4, none, []⟩,
    ⟨(some 46), .move (.tmp 8), 34, some (45, false), []⟩,
    ⟨(some 47), .move (.tmp 10), 34, some (45, false), []⟩,
    ⟨(some 48), .binOp .neq 34 (.tmp 46) (.tmp 47) 34, 4, some (45, false), []⟩,
    ⟨(some 49), .pick (.tmp 45) (.const (.bool true)) (.tmp 48), 4, none, []⟩])
  (.cond (.tmp 49)
    (.seq (.reg [⟨(some 4), .assign (.const (.bool false)), 4, none, []⟩])
    .ret)
    .skip))
  (.seq (.reg [⟨(some 50), .move (.tmp 8), 34, none, []⟩,
    ⟨(some 51), .binOp .eql 34 (.tmp 50) (.const (.int .i64 0)) 34, 4, none, []⟩])
  (.cond (.tmp 51)
    (.seq (.reg [⟨(some 53), .move (.tmp 7), 24, none, []⟩,
      ⟨(some 54), .call ⟨.value (.func 26), #[(.tmp 53)], #[24]⟩, 66, none, []⟩,
      ⟨(some 52), .move (.tmp 54), 66, none, []⟩,
      ⟨(some 55), .extract (.tmp 52) 0, 62, none, []⟩,
      ⟨(some 56), .extract (.tmp 52) 1, 34, none, []⟩,
      ⟨(some 11), .alloc 62, 0, none, []⟩,
      ⟨none, .store 62 (.tmp 11) (.tmp 55), 0, none, []⟩,
      ⟨(some 12), .assign (.tmp 56), 34, none, []⟩])
    (.seq (.reg [⟨(some 57), .move (.tmp 12), 34, none, []⟩,
      ⟨(some 58), .binOp .neq 34 (.tmp 57) (.const (.int .i64 0)) 34, 4, none, []⟩,
      ⟨(some 59), .move (.tmp 58), 4, none, []⟩,
      ⟨(some 60), .load 62 (.tmp 11), 62, some (59, false), []⟩,
      ⟨(some 61), .load 62 (.tmp 6), 62, some (59, false), []⟩,
      ⟨(some 62), .binOp .neq 62 (.tmp 60) (.tmp 61) 62, 4, some (59, false), []⟩,
      ⟨(some 63), .pick (.tmp 59) (.const (.bool true)) (.tmp 62), 4, none, []⟩])
    (.cond (.tmp 63)
      (.seq (.reg [⟨(some 4), .assign (.const (.bool false)), 4, none, []⟩])
      .ret)
      .skip)))
    .skip)))))))
  (.reg [⟨(some 21), .move (.tmp 5), 3, none, []⟩,
    ⟨(some 22), .binOp .add 3 (.tmp 21) (.const (.int .i64 1)) 3, 3, none, []⟩,
    ⟨(some 5), .assign (.tmp 22), 3, none, []⟩])))
def s6 : SC :=
  (.seq (.reg [⟨(some 2), .box 62 (.tmp 0), 0, none, []⟩,
    ⟨(some 3), .box 29 (.tmp 1), 0, none, []⟩,
    ⟨(some 4), .assign (.const (.bool false)), 4, none, []⟩])
  (.seq (.seq (.reg [⟨(some 13), .call ⟨.value (.func 7), #[], #[]⟩, 4, none, []⟩,
    ⟨(some 14), .unOp .not 4 (.tmp 13), 4, none, []⟩])
  (.cond (.tmp 14)
    (.seq (.reg [⟨(some 4), .assign (.const (.bool false)), 4, none, []⟩])
    .ret)
    .skip))
  (.seq (.seq (.reg [⟨(some 15), .fieldAddr 62 (.tmp 2) 0, 0, none, []⟩,
    ⟨(some 16), .load 9 (.tmp 15), 9, none, []⟩,
    ⟨(some 17), .call ⟨.builtin .len, #[(.tmp 16)], #[9]⟩, 3, none, []⟩,
    ⟨(some 18), .binOp .gtr 3 (.tmp 17) (.const (.int .i64 100)) 3, 4, none, []⟩])
  (.cond (.tmp 18)
    (.seq (.reg [⟨(some 4), .assign (.const (.bool true)), 4, none, []⟩])
    .ret)
    .skip))
  (.seq (.seq (.reg [⟨(some 5), .assign (.const (.int .i64 0)), 3, none, []⟩])
  (.block 0 (.loop (some ([2, 3, 5], 0)) s6_0)))
  (.seq (.reg [⟨(some 4), .assign (.const (.bool true)), 4, none, []⟩])
  .ret)))))
theorem l6 : slimF Hs 6 Try.f6 = some (64, s6, [.tmp 4]) := by kernel_rfl

/-! 7 kerbsuite/kerbsuitelaw22.awake -/
def s7 : SC :=
  (.seq (.reg [⟨(some 0), .assign (.const (.bool false)), 4, none, []⟩])
  (.seq (.reg [⟨(some 8), .build 53 #[(0, (.const (.string ⟨#[67, 80, 87, 100]⟩))), (1, (.const (.int .i64 7)))], 53, none, []⟩,
    ⟨(some 9), .call ⟨.value (.func 19), #[(.tmp 8)], #[53]⟩, 35, none, []⟩,
    ⟨(some 7), .move (.tmp 9), 35, none, []⟩,
    ⟨(some 10), .extract (.tmp 7) 0, 24, none, []⟩,
    ⟨(some 11), .extract (.tmp 7) 1, 34, none, []⟩,
    ⟨(some 1), .assign (.tmp 10), 24, none, []⟩,
    ⟨(some 2), .assign (.tmp 11), 34, none, []⟩])
  (.seq (.reg [⟨(some 13), .call ⟨.value (.func 27), #[(.const (.int .i64 0))], #[3]⟩, 23, none, []⟩,
    ⟨(some 14), .build 26 #[(0, (.const (.int .i64 3))), (1, (.tmp 13))], 26, none, []⟩,
    ⟨(some 15), .call ⟨.value (.func 10), #[(.tmp 14)], #[26]⟩, 35, none, []⟩,
    ⟨(some 12), .move (.tmp 15), 35, none, []⟩,
    ⟨(some 16), .extract (.tmp 12) 0, 24, none, []⟩,
    ⟨(some 17), .extract (.tmp 12) 1, 34, none, []⟩,
    ⟨(some 3), .assign (.tmp 16), 24, none, []⟩,
    ⟨(some 4), .assign (.tmp 17), 34, none, []⟩])
  (.seq (.reg [⟨(some 19), .move (.tmp 3), 24, none, []⟩,
    ⟨(some 20), .call ⟨.value (.func 12), #[(.tmp 19)], #[24]⟩, 37, none, []⟩,
    ⟨(some 18), .move (.tmp 20), 37, none, []⟩,
    ⟨(some 21), .extract (.tmp 18) 0, 26, none, []⟩,
    ⟨(some 22), .extract (.tmp 18) 1, 34, none, []⟩,
    ⟨(some 5), .alloc 26, 0, none, []⟩,
    ⟨none, .store 26 (.tmp 5) (.tmp 21), 0, none, []⟩,
    ⟨(some 6), .assign (.tmp 22), 34, none, []⟩])
  (.seq (.drw [(⟨(some 23), .move (.tmp 2), 34, none, []⟩, []),
    (⟨(some 24), .binOp .eql 34 (.tmp 23) (.const (.int .i64 0)) 34, 4, none, []⟩, []),
    (⟨(some 25), .move (.tmp 24), 4, none, []⟩, []),
    (⟨(some 26), .move (.tmp 1), 24, some (25, true), []⟩, []),
    (⟨(some 27), .call ⟨.builtin .len, #[(.tmp 26)], #[24]⟩, 3, some (25, true), []⟩, []),
    (⟨(some 28), .binOp .eql 3 (.tmp 27) (.const (.int .i64 8)) 3, 4, some (25, true), []⟩, []),
    (⟨(some 29), .pick (.tmp 25) (.tmp 28) (.const (.bool false)), 4, none, []⟩, []),
    (⟨(some 30), .move (.tmp 29), 4, none, []⟩, []),
    (⟨(some 31), .move (.tmp 1), 24, some (30, true), []⟩, []),
    (⟨(some 32), .slice 24 (.tmp 31) none (some (.const (.int .i64 4))) none, 24, some (30, true), []⟩, []),
    (⟨(some 33), .convert 24 9 (.tmp 32), 9, some (30, true), []⟩, []),
    (⟨(some 34), .binOp .eql 9 (.tmp 33) (.const (.string ⟨#[67, 80, 87, 100]⟩)) 9, 4, some (30, true), []⟩, []),
    (⟨(some 35), .pick (.tmp 30) (.tmp 34) (.const (.bool false)), 4, none, []⟩, []),
    (⟨(some 36), .move (.tmp 35), 4, none, []⟩, []),
    (⟨(some 37), .move (.tmp 4), 34, some (36, true), []⟩, []),
    (⟨(some 38), .binOp .eql 34 (.tmp 37) (.const (.int .i64 0)) 34, 4, some (36, true), []⟩, []),
    (⟨(some 39), .pick (.tmp 36) (.tmp 38) (.const (.bool false)), 4, none, []⟩, []),
    (⟨(some 40), .move (.tmp 39), 4, none, []⟩, []),
    (⟨(some 41), .move (.tmp 6), 34, some (40, true), []⟩, []),
    (⟨(some 42), .binOp .eql 34 (.tmp 41) (.const (.int .i64 0)) 34, 4, some (40, true), []⟩, []),
    (⟨(some 43), .pick (.tmp 40) (.tmp 42) (.const (.bool false)), 4, none, []⟩, []),
    (⟨(some 44), .move (.tmp 43), 4, none, []⟩, []),
    (⟨(some 45), .fieldAddr 26 (.tmp 5) 0, 0, some (44, true), []⟩, []),
    (⟨(some 46), .load 3 (.tmp 45), 3, some (44, true), []⟩, []),
    (⟨(some 47), .binOp .eql 3 (.tmp 46) (.const (.int .i64 3)) 3, 4, some (44, true), []⟩, []),
    (⟨(some 48), .pick (.tmp 44) (.tmp 47) (.const (.bool false)), 4, none, []⟩, []),
    (⟨(some 49), .move (.tmp 48), 4, none, []⟩, []),
    (⟨(some 50), .fieldAddr 26 (.tmp 5) 1, 0, some (49, true), []⟩, []),
    (⟨(some 51), .load 23 (.tmp 50), 23, some (49, true), []⟩, []),
    (⟨(some 52), .call ⟨.value (.func 27), #[(.const (.int .i64 0))], #[3]⟩, 23, some (49, true), []⟩, [27, 28]),
    (⟨(some 53), .binOp .eql 23 (.tmp 51) (.tmp 52) 23, 4, some (49, true), []⟩, []),
    (⟨(some 54), .pick (.tmp 49) (.tmp 53) (.const (.bool false)), 4, none, []⟩, []),
    (⟨(some 0), .assign (.tmp 54), 4, none, []⟩, [])])
  .ret)))))
theorem l7 : slimF Hs 7 Try.f7 = some (55, s7, [.tmp 0]) := by kernel_rfl

/-! 8 kerbsuite/kerbsuitelaw22.longName -/
def s8 : SC :=
  (.seq (.reg [⟨(some 1), .box 23 (.tmp 0), 0, none, []⟩,
    ⟨(some 2), .assign (.const (.bool false)), 4, none, []⟩])
  (.seq (.reg [⟨(some 3), .fieldAddr 23 (.tmp 1) 0, 0, none, []⟩,
    ⟨(some 4), .load 9 (.tmp 3), 9, none, []⟩,
    ⟨(some 5), .call ⟨.builtin .len, #[(.tmp 4)], #[9]⟩, 3, none, []⟩,
    ⟨(some 6), .binOp .gtr 3 (.tmp 5) (.const (.int .i64 100)) 3, 4, none, []⟩,
    ⟨(some 7), .move (.tmp 6), 4, none, []⟩,
    ⟨(some 8), .fieldAddr 23 (.tmp 1) 1, 0, some (7, false), []⟩,
    ⟨(some 9), .load 9 (.tmp 8), 9, some (7, false), []⟩,
    ⟨(some 10), .call ⟨.builtin .len, #[(.tmp 9)], #[9]⟩, 3, some (7, false), []⟩,
    ⟨(some 11), .binOp .gtr 3 (.tmp 10) (.const (.int .i64 100)) 3, 4, some (7, false), []⟩,
    ⟨(some 12), .pick (.tmp 7) (.const (.bool true)) (.tmp 11), 4, none, []⟩,
    ⟨(some 13), .move (.tmp 12), 4, none, []⟩,
    ⟨(some 14), .fieldAddr 23 (.tmp 1) 2, 0, some (13, false), []⟩,
    ⟨(some 15), .load 9 (.tmp 14), 9, some (13, false), []⟩,
    ⟨(some 16), .call ⟨.builtin .len, #[(.tmp 15)], #[9]⟩, 3, some (13, false), []⟩,
    ⟨(some 17), .binOp .gtr 3 (.tmp 16) (.const (.int .i64 100)) 3, 4, some (13, false), []⟩,
    ⟨(some 18), .pick (.tmp 13) (.const (.bool true)) (.tmp 17), 4, none, []⟩,
    ⟨(some 2), .assign (.tmp 18), 4, none, []⟩])
  .ret))
theorem l8 : slimF Hs 8 Try.f8 = some (19, s8, [.tmp 2]) := by kernel_rfl

/-! 9 (kerbsuite/kerbsuitelaw22.Ask).request -/
def s9 : SC :=
  (.seq (.reg [⟨(some 1), .box 29 (.tmp 0), 0, none, []⟩,
    ⟨(some 2), .alloc 26, 0, none, []⟩])
  (.seq (.reg [⟨(some 5), .fieldAddr 29 (.tmp 1) 0, 0, none, []⟩,
    ⟨(some 6), .load 5 (.tmp 5), 5, none, []⟩,
    ⟨(some 7), .convert 5 3 (.tmp 6), 3, none, []⟩,
    ⟨(some 8), .binOp .rem 3 (.tmp 7) (.const (.int .i64 3)) 3, 3, none, []⟩,
    ⟨(some 9), .binOp .add 3 (.const (.int .i64 1)) (.tmp 8) 3, 3, none, []⟩,
    ⟨(some 10), .fieldAddr 29 (.tmp 1) 10, 0, none, []⟩,
    ⟨(some 11), .load 24 (.tmp 10), 24, none, []⟩,
    ⟨(some 12), .build 26 #[(0, (.tmp 9)), (7, (.tmp 11))], 26, none, []⟩,
    ⟨(some 3), .alloc 26, 0, none, []⟩,
    ⟨none, .store 26 (.tmp 3) (.tmp 12), 0, none, []⟩])
  (.seq (.seq (.reg [⟨(some 13), .fieldAddr 26 (.tmp 3) 7, 0, none, []⟩,
    ⟨(some 14), .load 24 (.tmp 13), 24, none, []⟩,
    ⟨(some 15), .call ⟨.builtin .len, #[(.tmp 14)], #[24]⟩, 3, none, []⟩,
    ⟨(some 16), .binOp .gtr 3 (.tmp 15) (.const (.int .i64 900)) 3, 4, none, []⟩])
  (.cond (.tmp 16)
    (.reg [⟨(some 17), .fieldAddr 26 (.tmp 3) 7, 0, none, []⟩,
      ⟨(some 18), .load 24 (.tmp 17), 24, none, []⟩,
      ⟨(some 19), .slice 24 (.tmp 18) none (some (.const (.int .i64 900))) none, 24, none, []⟩,
      ⟨(some 20), .fieldAddr 26 (.tmp 3) 7, 0, none, []⟩,
      ⟨none, .store 24 (.tmp 20) (.tmp 19), 0, none, []⟩])
    .skip))
  (.seq (.seq (.reg [⟨(some 21), .fieldAddr 26 (.tmp 3) 0, 0, none, []⟩,
    ⟨(some 22), .load 3 (.tmp 21), 3, none, []⟩,
    ⟨(some 23), .binOp .eql 3 (.tmp 22) (.const (.int .i64 2)) 3, 4, none, []⟩])
  (.cond (.tmp 23)
    (.seq (.reg [⟨(some 24), .fieldAddr 29 (.tmp 1) 3, 0, none, []⟩,
      ⟨(some 25), .load 5 (.tmp 24), 5, none, []⟩,
      ⟨(some 26), .convert 5 3 (.tmp 25), 3, none, []⟩,
      ⟨(some 27), .call ⟨.value (.func 28), #[(.tmp 26)], #[3]⟩, 23, none, []⟩,
      ⟨(some 4), .alloc 23, 0, none, []⟩,
      ⟨none, .store 23 (.tmp 4) (.tmp 27), 0, none, []⟩])
    (.drw [(⟨(some 28), .fieldAddr 29 (.tmp 1) 2, 0, none, []⟩, []),
      (⟨(some 29), .load 5 (.tmp 28), 5, none, []⟩, []),
      (⟨(some 30), .convert 5 3 (.tmp 29), 3, none, []⟩, []),
      (⟨(some 31), .fieldAddr 23 (.tmp 4) 2, 0, none, []⟩, [1, 2]),
      (⟨(some 32), .load 9 (.tmp 31), 9, none, []⟩, [0, 1, 2]),
      (⟨(some 33), .fieldAddr 29 (.tmp 1) 9, 0, none, []⟩, [1, 2, 4]),
      (⟨(some 34), .load 24 (.tmp 33), 24, none, []⟩, [0, 1, 2, 3, 4]),
      (⟨(some 35), .fieldAddr 23 (.tmp 4) 0, 0, none, []⟩, [1, 2, 4, 6]),
      (⟨(some 36), .load 9 (.tmp 35), 9, none, []⟩, [0, 1, 2, 3, 4, 5, 6]),
      (⟨(some 37), .fieldAddr 23 (.tmp 4) 1, 0, none, []⟩, [1, 2, 4, 6, 8]),
      (⟨(some 38), .load 9 (.tmp 37), 9, none, []⟩, [0, 1, 2, 3, 4, 5, 6, 7, 8]),
      (⟨(some 39), .fieldAddr 26 (.tmp 3) 2, 0, none, []⟩, [4, 6, 8, 10]),
      (⟨none, .store 3 (.tmp 39) (.tmp 30), 0, none, []⟩, [3, 4, 5, 6, 7, 8, 9, 10]),
      (⟨(some 40), .fieldAddr 26 (.tmp 3) 3, 0, none, []⟩, [6, 8, 10]),
      (⟨none, .store 9 (.tmp 40) (.tmp 32), 0, none, []⟩, [5, 6, 7, 8, 9, 10]),
      (⟨(some 41), .fieldAddr 26 (.tmp 3) 4, 0, none, []⟩, [8, 10]),
      (⟨none, .store 24 (.tmp 41) (.tmp 34), 0, none, []⟩, [7, 8, 9, 10]),
      (⟨(some 42), .fieldAddr 26 (.tmp 3) 5, 0, none, []⟩, [10]),
      (⟨none, .store 9 (.tmp 42) (.tmp 36), 0, none, []⟩, [9, 10]),
      (⟨(some 43), .fieldAddr 26 (.tmp 3) 6, 0, none, []⟩, []),
      (⟨none, .store 9 (.tmp 43) (.tmp 38), 0, none, []⟩, [])]))
    (.reg [⟨(some 44), .fieldAddr 29 (.tmp 1) 1, 0, none, []⟩,
      ⟨(some 45), .load 5 (.tmp 44), 5, none, []⟩,
      ⟨(some 46), .convert 5 3 (.tmp 45), 3, none, []⟩,
      ⟨(some 47), .call ⟨.value (.func 27), #[(.tmp 46)], #[3]⟩, 23, none, []⟩,
      ⟨(some 48), .fieldAddr 26 (.tmp 3) 1, 0, none, []⟩,
      ⟨none, .store 23 (.tmp 48) (.tmp 47), 0, none, []⟩])))
  (.seq (.seq (.reg [⟨(some 49), .fieldAddr 29 (.tmp 1) 11, 0, none, []⟩,
    ⟨(some 50), .load 5 (.tmp 49), 5, none, []⟩,
    ⟨(some 51), .binOp .rem 5 (.tmp 50) (.const (.int .u8 16)) 5, 5, none, []⟩])
  (.block 0 (.seq (.reg [⟨(some 53), .binOp .eql 5 (.tmp 51) (.const (.int .u8 11)) 5, 4, none, []⟩,
    ⟨(some 52), .assign (.tmp 53), 4, none, []⟩])
  (.cond (.tmp 52)
    (.reg [⟨(some 54), .fieldAddr 29 (.tmp 1) 1, 0, none, []⟩,
      ⟨(some 55), .load 5 (.tmp 54), 5, none, []⟩,
      ⟨(some 56), .convert 5 3 (.tmp 55), 3, none, []⟩,
      ⟨(some 57), .call ⟨.value (.func 27), #[(.tmp 56)], #[3]⟩, 23, none, []⟩,
      ⟨(some 58), .fieldAddr 26 (.tmp 3) 1, 0, none, []⟩,
      ⟨none, .store 23 (.tmp 58) (.tmp 57), 0, none, []⟩])
    (.seq (.reg [⟨(some 60), .binOp .eql 5 (.tmp 51) (.const (.int .u8 12)) 5, 4, none, []⟩,
      ⟨(some 59), .assign (.tmp 60), 4, none, []⟩])
    (.cond (.tmp 59)
      (.reg [⟨(some 61), .fieldAddr 29 (.tmp 1) 2, 0, none, []⟩,
        ⟨(some 62), .load 5 (.tmp 61), 5, none, []⟩,
        ⟨(some 63), .convert 5 3 (.tmp 62), 3, none, []⟩,
        ⟨(some 64), .fieldAddr 26 (.tmp 3) 2, 0, none, []⟩,
        ⟨none, .store 3 (.tmp 64) (.tmp 63), 0, none, []⟩])
      (.seq (.reg [⟨(some 66), .binOp .eql 5 (.tmp 51) (.const (.int .u8 13)) 5, 4, none, []⟩,
        ⟨(some 65), .assign (.tmp 66), 4, none, []⟩])
      (.cond (.tmp 65)
        (.reg [⟨(some 67), .fieldAddr 29 (.tmp 1) 9, 0, none, []⟩,
          ⟨(some 68), .load 24 (.tmp 67), 24, none, []⟩,
          ⟨(some 69), .fieldAddr 26 (.tmp 3) 4, 0, none, []⟩,
          ⟨none, .store 24 (.tmp 69) (.tmp 68), 0, none, []⟩])
        (.seq (.reg [⟨(some 71), .binOp .eql 5 (.tmp 51) (.const (.int .u8 14)) 5, 4, none, []⟩,
          ⟨(some 70), .assign (.tmp 71), 4, none, []⟩])
        (.cond (.tmp 70)
          (.reg [⟨(some 72), .fieldAddr 26 (.tmp 3) 5, 0, none, []⟩,
            ⟨none, .store 9 (.tmp 72) (.const (.string ⟨#[109, 97, 105, 108]⟩)), 0, none, []⟩])
          (.seq (.reg [⟨(some 74), .binOp .eql 5 (.tmp 51) (.const (.int .u8 15)) 5, 4, none, []⟩,
            ⟨(some 73), .assign (.tmp 74), 4, none, []⟩])
          (.cond (.tmp 73)
            (.reg [⟨(some 75), .fieldAddr 29 (.tmp 1) 2, 0, none, []⟩,
              ⟨(some 76), .load 5 (.tmp 75), 5, none, []⟩,
              ⟨(some 77), .convert 5 3 (.tmp 76), 3, none, []⟩,
              ⟨(some 78), .binOp .rem 3 (.tmp 77) (.const (.int .i64 3)) 3, 3, none, []⟩,
              ⟨(some 79), .binOp .add 3 (.const (.int .i64 1011)) (.tmp 78) 3, 3, none, []⟩,
              ⟨(some 80), .makeSlice 24 (.tmp 79) (.tmp 79), 24, none, []⟩,
              ⟨(some 81), .fieldAddr 26 (.tmp 3) 7, 0, none, []⟩,
              ⟨none, .store 24 (.tmp 81) (.tmp 80), 0, none, []⟩])
            .skip))))))))))))
  (.seq (.reg [⟨(some 82), .load 26 (.tmp 3), 26, none, []⟩,
    ⟨none, .store 26 (.tmp 2) (.tmp 82), 0, none, []⟩])
  .ret))))))
theorem l9 : slimF Hs 9 Try.f9 = some (83, s9, [.cell 2 26]) := by kernel_rfl

/-! 10 kerbsuite/kamessage.EncodeRequest -/
def s10 : SC :=
  (.seq (.reg [⟨(some 1), .box 26 (.tmp 0), 0, none, []⟩,
    ⟨(some 2), .assign (.const (.slice none 0 0)), 24, none, []⟩,
    ⟨(some 3), .assign (.const (.int .i64 0)), 34, none, []⟩])
  (.seq (.seq (.reg [⟨(some 6), .load 26 (.tmp 1), 26, none, []⟩,
    ⟨(some 7), .call ⟨.value (.func 29), #[(.tmp 6)], #[26]⟩, 34, none, []⟩,
    ⟨(some 4), .assign (.tmp 7), 34, none, []⟩])
  (.seq (.reg [⟨(some 8), .move (.tmp 4), 34, none, []⟩,
    ⟨(some 9), .binOp .neq 34 (.tmp 8) (.const (.int .i64 0)) 34, 4, none, []⟩])
  (.cond (.tmp 9)
    (.seq (.reg [⟨(some 10), .move (.tmp 4), 34, none, []⟩,
      ⟨(some 2), .assign (.const (.slice none 0 0)), 24, none, []⟩,
      ⟨(some 3), .assign (.tmp 10), 34, none, []⟩])
    .ret)
    .skip)))
  (.seq (.drw [(⟨(some 11), .call ⟨.value (.func 31), #[(.const (.int .i64 9)), (.const (.bool false))], #[3, 4]⟩, 24, none, []⟩, []),
    (⟨(some 12), .fieldAddr 26 (.tmp 1) 0, 0, none, []⟩, [0]),
    (⟨(some 13), .load 3 (.tmp 12), 3, none, []⟩, [0]),
    (⟨(some 14), .call ⟨.value (.func 30), #[(.tmp 11), (.tmp 13)], #[24, 3]⟩, 24, none, []⟩, []),
    (⟨(some 5), .assign (.tmp 14), 24, none, []⟩, [])])
  (.seq (.seq (.reg [⟨(some 15), .fieldAddr 26 (.tmp 1) 0, 0, none, []⟩,
    ⟨(some 16), .load 3 (.tmp 15), 3, none, []⟩,
    ⟨(some 17), .binOp .eql 3 (.tmp 16) (.const (.int .i64 2)) 3, 4, none, []⟩])
  (.cond (.tmp 17)
    (.seq (.drw [(⟨(some 18), .move (.tmp 5), 24, none, []⟩, []),
      (⟨(some 19), .fieldAddr 26 (.tmp 1) 2, 0, none, []⟩, []),
      (⟨(some 20), .load 3 (.tmp 19), 3, none, []⟩, [0]),
      (⟨(some 21), .call ⟨.value (.func 30), #[(.tmp 18), (.tmp 20)], #[24, 3]⟩, 24, none, []⟩, []),
      (⟨(some 22), .fieldAddr 26 (.tmp 1) 3, 0, none, []⟩, [2, 3]),
      (⟨(some 23), .load 9 (.tmp 22), 9, none, []⟩, [0, 1, 2, 3]),
      (⟨(some 24), .call ⟨.value (.func 32), #[(.tmp 21), (.tmp 23)], #[24, 9]⟩, 24, none, []⟩, []),
      (⟨(some 25), .fieldAddr 26 (.tmp 1) 4, 0, none, []⟩, [2, 3, 5, 6]),
      (⟨(some 26), .load 24 (.tmp 25), 24, none, []⟩, [0, 1, 2, 3, 4, 5, 6]),
      (⟨(some 27), .call ⟨.builtin .len, #[(.tmp 26)], #[24]⟩, 3, none, []⟩, [0, 1, 2, 3, 4, 5, 6]),
      (⟨(some 28), .call ⟨.value (.func 30), #[(.tmp 24), (.tmp 27)], #[24, 3]⟩, 24, none, []⟩, []),
      (⟨(some 5), .assign (.tmp 28), 24, none, []⟩, [])])
    (.drw [(⟨(some 29), .move (.tmp 5), 24, none, []⟩, []),
      (⟨(some 30), .fieldAddr 26 (.tmp 1) 4, 0, none, []⟩, []),
      (⟨(some 31), .load 24 (.tmp 30), 24, none, []⟩, [0]),
      (⟨(some 32), .call ⟨.builtin .append, #[(.tmp 29), (.tmp 31)], #[24, 24]⟩, 24, none, []⟩, []),
      (⟨(some 33), .fieldAddr 26 (.tmp 1) 5, 0, none, []⟩, [2, 3]),
      (⟨(some 34), .load 9 (.tmp 33), 9, none, []⟩, [0, 1, 2, 3]),
      (⟨(some 35), .call ⟨.value (.func 32), #[(.tmp 32), (.tmp 34)], #[24, 9]⟩, 24, none, []⟩, []),
      (⟨(some 36), .fieldAddr 26 (.tmp 1) 6, 0, none, []⟩, [2, 3, 5, 6]),
      (⟨(some 37), .load 9 (.tmp 36), 9, none, []⟩, [0, 1, 2, 3, 4, 5, 6]),
      (⟨(some 38), .call ⟨.value (.func 32), #[(.tmp 35), (.tmp 37)], #[24, 9]⟩, 24, none, []⟩, []),
      (⟨(some 5), .assign (.tmp 38), 24, none, []⟩, [])]))
    (.reg [⟨(some 39), .move (.tmp 5), 24, none, []⟩,
      ⟨(some 40), .fieldAddr 26 (.tmp 1) 1, 0, none, []⟩,
      ⟨(some 41), .load 23 (.tmp 40), 23, none, []⟩,
      ⟨(some 42), .call ⟨.value (.func 33), #[(.tmp 39), (.tmp 41)], #[24, 23]⟩, 24, none, []⟩,
      ⟨(some 5), .assign (.tmp 42), 24, none, []⟩])))
  (.seq (.drw [(⟨(some 43), .move (.tmp 5), 24, none, []⟩, []),
    (⟨(some 44), .fieldAddr 26 (.tmp 1) 7, 0, none, []⟩, []),
    (⟨(some 45), .load 24 (.tmp 44), 24, none, []⟩, [0]),
    (⟨(some 46), .call ⟨.builtin .len, #[(.tmp 45)], #[24]⟩, 3, none, []⟩, [0]),
    (⟨(some 47), .call ⟨.value (.func 34), #[(.tmp 43), (.tmp 46), (.const (.bool false))], #[24, 3, 4]⟩, 24, none, []⟩, []),
    (⟨(some 48), .fieldAddr 26 (.tmp 1) 7, 0, none, []⟩, [2, 3, 4]),
    (⟨(some 49), .load 24 (.tmp 48), 24, none, []⟩, [0, 1, 2, 3, 4]),
    (⟨(some 50), .call ⟨.builtin .append, #[(.tmp 47), (.tmp 49)], #[24, 24]⟩, 24, none, []⟩, []),
    (⟨(some 2), .assign (.tmp 50), 24, none, []⟩, []),
    (⟨(some 3), .assign (.const (.int .i64 0)), 34, none, []⟩, [])])
  .ret)))))
theorem l10 : slimF Hs 10 Try.f10 = some (51, s10, [.tmp 2, .tmp 3]) := by kernel_rfl

/-! 11 kerbsuite/kerbsuiteref22.EncodeRequest -/
def s11 : SC :=
  (.seq (.reg [⟨(some 1), .box 26 (.tmp 0), 0, none, []⟩,
    ⟨(some 2), .assign (.const (.slice none 0 0)), 24, none, []⟩,
    ⟨(some 3), .assign (.const (.int .i64 0)), 34, none, []⟩])
  (.seq (.seq (.reg [⟨(some 5), .fieldAddr 26 (.tmp 1) 0, 0, none, []⟩,
    ⟨(some 6), .load 3 (.tmp 5), 3, none, []⟩,
    ⟨(some 7), .call ⟨.value (.func 35), #[(.tmp 6)], #[3]⟩, 4, none, []⟩,
    ⟨(some 8), .unOp .not 4 (.tmp 7), 4, none, []⟩,
    ⟨(some 9), .move (.tmp 8), 4, none, []⟩,
    ⟨(some 10), .fieldAddr 26 (.tmp 1) 0, 0, some (9, true), []⟩,
    ⟨(some 11), .load 3 (.tmp 10), 3, some (9, true), []⟩,
    ⟨(some 12), .binOp .neq 3 (.tmp 11) (.const (.int .i64 2)) 3, 4, some (9, true), []⟩,
    ⟨(some 13), .pick (.tmp 9) (.tmp 12) (.const (.bool false)), 4, none, []⟩])
  (.cond (.tmp 13)
    (.seq (.reg [⟨(some 2), .assign (.const (.slice none 0 0)), 24, none, []⟩,
      ⟨(some 3), .assign (.const (.int .i64 40)), 34, none, []⟩])
    .ret)
    .skip))
  (.seq (.seq (.reg [⟨(some 14), .fieldAddr 26 (.tmp 1) 0, 0, none, []⟩,
    ⟨(some 15), .load 3 (.tmp 14), 3, none, []⟩,
    ⟨(some 16), .call ⟨.value (.func 35), #[(.tmp 15)], #[3]⟩, 4, none, []⟩,
    ⟨(some 17), .move (.tmp 16), 4, none, []⟩,
    ⟨(some 18), .fieldAddr 26 (.tmp 1) 1, 0, some (17, true), []⟩,
    ⟨(some 19), .load 23 (.tmp 18), 23, some (17, true), []⟩,
    ⟨(some 20), .call ⟨.value (.func 36), #[(.tmp 19)], #[23]⟩, 4, some (17, true), []⟩,
    ⟨(some 21), .unOp .not 4 (.tmp 20), 4, some (17, true), []⟩,
    ⟨(some 22), .pick (.tmp 17) (.tmp 21) (.const (.bool false)), 4, none, []⟩,
    ⟨(some 23), .move (.tmp 22), 4, none, []⟩,
    ⟨(some 24), .fieldAddr 26 (.tmp 1) 0, 0, some (23, false), []⟩,
    ⟨(some 25), .load 3 (.tmp 24), 3, some (23, false), []⟩,
    ⟨(some 26), .call ⟨.value (.func 35), #[(.tmp 25)], #[3]⟩, 4, some (23, false), []⟩,
    ⟨(some 27), .unOp .not 4 (.tmp 26), 4, some (23, false), []⟩,
    ⟨(some 28), .move (.tmp 27), 4, some (23, false), []⟩,
    ⟨(some 29), .fieldAddr 26 (.tmp 1) 3, 0, some (28, true), []⟩,
    ⟨(some 30), .load 9 (.tmp 29), 9, some (28, true), []⟩,
    ⟨(some 31), .call ⟨.value (.func 37), #[(.tmp 30)], #[9]⟩, 4, some (28, true), []⟩,
    ⟨(some 32), .unOp .not 4 (.tmp 31), 4, some (28, true), []⟩,
    ⟨(some 33), .move (.tmp 32), 4, some (28, true), []⟩,
    ⟨(some 34), .fieldAddr 26 (.tmp 1) 5, 0, some (33, false), []⟩,
    ⟨(some 35), .load 9 (.tmp 34), 9, some (33, false), []⟩,
    ⟨(some 36), .call ⟨.value (.func 38), #[(.tmp 35)], #[9]⟩, 4, some (33, false), []⟩,
    ⟨(some 37), .unOp .not 4 (.tmp 36), 4, some (33, false), []⟩,
    ⟨(some 38), .pick (.tmp 33) (.const (.bool true)) (.tmp 37), 4, some (28, true), []⟩,
    ⟨(some 39), .move (.tmp 38), 4, some (28, true), []⟩,
    ⟨(some 40), .fieldAddr 26 (.tmp 1) 6, 0, some (39, false), []⟩,
    ⟨(some 41), .load 9 (.tmp 40), 9, some (39, false), []⟩,
    ⟨(some 42), .call ⟨.value (.func 39), #[(.tmp 41)], #[9]⟩, 4, some (39, false), []⟩,
    ⟨(some 43), .unOp .not 4 (.tmp 42), 4, some (39, false), []⟩,
    ⟨(some 44), .pick (.tmp 39) (.const (.bool true)) (.tmp 43), 4, some (28, true), []⟩,
    ⟨(some 45), .pick (.tmp 28) (.tmp 44) (.const (.bool false)), 4, some (23, false), []⟩,
    ⟨(some 46), .pick (.tmp 23) (.const (.bool true)) (.tmp 45), 4, none, []⟩])
  (.cond (.tmp 46)
    (.seq (.reg [⟨(some 2), .assign (.const (.slice none 0 0)), 24, none, []⟩,
      ⟨(some 3), .assign (.const (.int .i64 103)), 34, none, []⟩])
    .ret)
    .skip))
  (.seq (.seq (.reg [⟨(some 47), .fieldAddr 26 (.tmp 1) 0, 0, none, []⟩,
    ⟨(some 48), .load 3 (.tmp 47), 3, none, []⟩,
    ⟨(some 49), .call ⟨.value (.func 35), #[(.tmp 48)], #[3]⟩, 4, none, []⟩,
    ⟨(some 50), .unOp .not 4 (.tmp 49), 4, none, []⟩,
    ⟨(some 51), .move (.tmp 50), 4, none, []⟩,
    ⟨(some 52), .fieldAddr 26 (.tmp 1) 2, 0, some (51, true), []⟩,
    ⟨(some 53), .load 3 (.tmp 52), 3, some (51, true), []⟩,
    ⟨(some 54), .call ⟨.value (.func 40), #[(.tmp 53), (.const (.int .i64 255))], #[3, 3]⟩, 4, some (51, true), []⟩,
    ⟨(some 55), .unOp .not 4 (.tmp 54), 4, some (51, true), []⟩,
    ⟨(some 56), .pick (.tmp 51) (.tmp 55) (.const (.bool false)), 4, none, []⟩])
  (.cond (.tmp 56)
    (.seq (.reg [⟨(some 2), .assign (.const (.slice none 0 0)), 24, none, []⟩,
      ⟨(some 3), .assign (.const (.int .i64 104)), 34, none, []⟩])
    .ret)
    .skip))
  (.seq (.seq (.reg [⟨(some 57), .fieldAddr 26 (.tmp 1) 0, 0, none, []⟩,
    ⟨(some 58), .load 3 (.tmp 57), 3, none, []⟩,
    ⟨(some 59), .call ⟨.value (.func 35), #[(.tmp 58)], #[3]⟩, 4, none, []⟩,
    ⟨(some 60), .unOp .not 4 (.tmp 59), 4, none, []⟩,
    ⟨(some 61), .move (.tmp 60), 4, none, []⟩,
    ⟨(some 62), .fieldAddr 26 (.tmp 1) 4, 0, some (61, true), []⟩,
    ⟨(some 63), .load 24 (.tmp 62), 24, some (61, true), []⟩,
    ⟨(some 64), .call ⟨.builtin .len, #[(.tmp 63)], #[24]⟩, 3, some (61, true), []⟩,
    ⟨(some 65), .binOp .gtr 3 (.tmp 64) (.const (.int .i64 255)) 3, 4, some (61, true), []⟩,
    ⟨(some 66), .pick (.tmp 61) (.tmp 65) (.const (.bool false)), 4, none, []⟩,
    ⟨(some 67), .move (.tmp 66), 4, none, []⟩,
    ⟨(some 68), .fieldAddr 26 (.tmp 1) 7, 0, some (67, false), []⟩,
    ⟨(some 69), .load 24 (.tmp 68), 24, some (67, false), []⟩,
    ⟨(some 70), .call ⟨.builtin .len, #[(.tmp 69)], #[24]⟩, 3, some (67, false), []⟩,
    ⟨(some 71), .binOp .gtr 3 (.tmp 70) (.const (.int .i64 1012)) 3, 4, some (67, false), []⟩,
    ⟨(some 72), .pick (.tmp 67) (.const (.bool true)) (.tmp 71), 4, none, []⟩])
  (.cond (.tmp 72)
    (.seq (.reg [⟨(some 2), .assign (.const (.slice none 0 0)), 24, none, []⟩,
      ⟨(some 3), .assign (.const (.int .i64 105)), 34, none, []⟩])
    .ret)
    .skip))
  (.seq (.seq (.reg [⟨(some 73), .fieldAddr 26 (.tmp 1) 0, 0, none, []⟩,
    ⟨(some 74), .load 3 (.tmp 73), 3, none, []⟩,
    ⟨(some 75), .call ⟨.value (.func 35), #[(.tmp 74)], #[3]⟩, 4, none, []⟩,
    ⟨(some 76), .move (.tmp 75), 4, none, []⟩,
    ⟨(some 77), .fieldAddr 26 (.tmp 1) 2, 0, some (76, true), []⟩,
    ⟨(some 78), .load 3 (.tmp 77), 3, some (76, true), []⟩,
    ⟨(some 79), .binOp .neq 3 (.tmp 78) (.const (.int .i64 0)) 3, 4, some (76, true), []⟩,
    ⟨(some 80), .move (.tmp 79), 4, some (76, true), []⟩,
    ⟨(some 81), .fieldAddr 26 (.tmp 1) 3, 0, some (80, false), []⟩,
    ⟨(some 82), .load 9 (.tmp 81), 9, some (80, false), []⟩,
    ⟨(some 83), .binOp .neq 9 (.tmp 82) (.const (.string ⟨#[]⟩)) 9, 4, some (80, false), []⟩,
    ⟨(some 84), .pick (.tmp 80) (.const (.bool true)) (.tmp 83), 4, some (76, true), []⟩,
    ⟨(some 85), .move (.tmp 84), 4, some (76, true), []⟩,
    ⟨(some 86), .fieldAddr 26 (.tmp 1) 4, 0, some (85, false), []⟩,
    ⟨(some 87), .load 24 (.tmp 86), 24, some (85, false), []⟩,
    ⟨(some 88), .call ⟨.builtin .len, #[(.tmp 87)], #[24]⟩, 3, some (85, false), []⟩,
    ⟨(some 89), .binOp .gtr 3 (.tmp 88) (.const (.int .i64 0)) 3, 4, some (85, false), []⟩,
    ⟨(some 90), .pick (.tmp 85) (.const (.bool true)) (.tmp 89), 4, some (76, true), []⟩,
    ⟨(some 91), .move (.tmp 90), 4, some (76, true), []⟩,
    ⟨(some 92), .fieldAddr 26 (.tmp 1) 5, 0, some (91, false), []⟩,
    ⟨(some 93), .load 9 (.tmp 92), 9, some (91, false), []⟩,
    ⟨(some 94), .binOp .neq 9 (.tmp 93) (.const (.string ⟨#[]⟩)) 9, 4, some (91, false), []⟩,
    ⟨(some 95), .pick (.tmp 91) (.const (.bool true)) (.tmp 94), 4, some (76, true), []⟩,
    ⟨(some 96), .move (.tmp 95), 4, some (76, true), []⟩,
    ⟨(some 97), .fieldAddr 26 (.tmp 1) 6, 0, some (96, false), []⟩,
    ⟨(some 98), .load 9 (.tmp 97), 9, some (96, false), []⟩,
    ⟨(some 99), .binOp .neq 9 (.tmp 98) (.const (.string ⟨#[]⟩)) 9, 4, some (96, false), []⟩,
    ⟨(some 100), .pick (.tmp 96) (.const (.bool true)) (.tmp 99), 4, some (76, true), []⟩,
    ⟨(some 101), .pick (.tmp 76) (.tmp 100) (.const (.bool false)), 4, none, []⟩,
    ⟨(some 102), .move (.tmp 101), 4, none, []⟩,
    ⟨(some 103), .fieldAddr 26 (.tmp 1) 0, 0, some (102, false), []⟩,
    ⟨(some 104), .load 3 (.tmp 103), 3, some (102, false), []⟩,
    ⟨(some 105), .call ⟨.value (.func 35), #[(.tmp 104)], #[3]⟩, 4, some (102, false), []⟩,
    ⟨(some 106), .unOp .not 4 (.tmp 105), 4, some (102, false), []⟩,
    ⟨(some 107), .move (.tmp 106), 4, some (102, false), []⟩,
    ⟨(some 108), .fieldAddr 26 (.tmp 1) 1, 0, some (107, true), []⟩,
    ⟨(some 109), .load 23 (.tmp 108), 23, some (107, true), []⟩,
    ⟨(some 110), .build 23 #[], 23, some (107, true), []⟩,
    ⟨(some 111), .binOp .neq 23 (.tmp 109) (.tmp 110) 23, 4, some (107, true), []⟩,
    ⟨(some 112), .pick (.tmp 107) (.tmp 111) (.const (.bool false)), 4, some (102, false), []⟩,
    ⟨(some 113), .pick (.tmp 102) (.const (.bool true)) (.tmp 112), 4, none, []⟩])
  (.cond (.tmp 113)
    (.seq (.reg [⟨(some 2), .assign (.const (.slice none 0 0)), 24, none, []⟩,
      ⟨(some 3), .assign (.const (.int .i64 108)), 34, none, []⟩])
    .ret)
    .skip))
  (.seq (.drw [(⟨(some 114), .call ⟨.value (.func 42), #[(.const (.int .i64 9)), (.const (.bool false))], #[3, 4]⟩, 24, none, []⟩, []),
    (⟨(some 115), .fieldAddr 26 (.tmp 1) 0, 0, none, []⟩, [0]),
    (⟨(some 116), .load 3 (.tmp 115), 3, none, []⟩, [0]),
    (⟨(some 117), .call ⟨.value (.func 41), #[(.tmp 114), (.tmp 116)], #[24, 3]⟩, 24, none, []⟩, []),
    (⟨(some 4), .assign (.tmp 117), 24, none, []⟩, [])])
  (.seq (.seq (.reg [⟨(some 118), .fieldAddr 26 (.tmp 1) 0, 0, none, []⟩,
    ⟨(some 119), .load 3 (.tmp 118), 3, none, []⟩,
    ⟨(some 120), .call ⟨.value (.func 35), #[(.tmp 119)], #[3]⟩, 4, none, []⟩])
  (.cond (.tmp 120)
    (.reg [⟨(some 121), .move (.tmp 4), 24, none, []⟩,
      ⟨(some 122), .fieldAddr 26 (.tmp 1) 1, 0, none, []⟩,
      ⟨(some 123), .load 23 (.tmp 122), 23, none, []⟩,
      ⟨(some 124), .call ⟨.value (.func 43), #[(.tmp 121), (.tmp 123)], #[24, 23]⟩, 24, none, []⟩,
      ⟨(some 4), .assign (.tmp 124), 24, none, []⟩])
    (.seq (.drw [(⟨(some 125), .move (.tmp 4), 24, none, []⟩, []),
      (⟨(some 126), .fieldAddr 26 (.tmp 1) 2, 0, none, []⟩, []),
      (⟨(some 127), .load 3 (.tmp 126), 3, none, []⟩, [0]),
      (⟨(some 128), .call ⟨.value (.func 41), #[(.tmp 125), (.tmp 127)], #[24, 3]⟩, 24, none, []⟩, []),
      (⟨(some 129), .fieldAddr 26 (.tmp 1) 3, 0, none, []⟩, [2, 3]),
      (⟨(some 130), .load 9 (.tmp 129), 9, none, []⟩, [0, 1, 2, 3]),
      (⟨(some 131), .call ⟨.value (.func 44), #[(.tmp 128), (.tmp 130)], #[24, 9]⟩, 24, none, []⟩, []),
      (⟨(some 4), .assign (.tmp 131), 24, none, []⟩, [])])
    (.seq (.drw [(⟨(some 132), .move (.tmp 4), 24, none, []⟩, []),
      (⟨(some 133), .fieldAddr 26 (.tmp 1) 4, 0, none, []⟩, []),
      (⟨(some 134), .load 24 (.tmp 133), 24, none, []⟩, [0]),
      (⟨(some 135), .call ⟨.builtin .len, #[(.tmp 134)], #[24]⟩, 3, none, []⟩, [0]),
      (⟨(some 136), .call ⟨.value (.func 41), #[(.tmp 132), (.tmp 135)], #[24, 3]⟩, 24, none, []⟩, []),
      (⟨(some 137), .fieldAddr 26 (.tmp 1) 4, 0, none, []⟩, [2, 3, 4]),
      (⟨(some 138), .load 24 (.tmp 137), 24, none, []⟩, [0, 1, 2, 3, 4]),
      (⟨(some 139), .call ⟨.builtin .append, #[(.tmp 136), (.tmp 138)], #[24, 24]⟩, 24, none, []⟩, []),
      (⟨(some 4), .assign (.tmp 139), 24, none, []⟩, [])])
    (.drw [(⟨(some 140), .move (.tmp 4), 24, none, []⟩, []),
      (⟨(some 141), .fieldAddr 26 (.tmp 1) 5, 0, none, []⟩, []),
      (⟨(some 142), .load 9 (.tmp 141), 9, none, []⟩, [0]),
      (⟨(some 143), .call ⟨.value (.func 44), #[(.tmp 140), (.tmp 142)], #[24, 9]⟩, 24, none, []⟩, []),
      (⟨(some 144), .fieldAddr 26 (.tmp 1) 6, 0, none, []⟩, [2, 3]),
      (⟨(some 145), .load 9 (.tmp 144), 9, none, []⟩, [0, 1, 2, 3]),
      (⟨(some 146), .call ⟨.value (.func 44), #[(.tmp 143), (.tmp 145)], #[24, 9]⟩, 24, none, []⟩, []),
      (⟨(some 4), .assign (.tmp 146), 24, none, []⟩, [])])))))
  (.seq (.drw [(⟨(some 147), .move (.tmp 4), 24, none, []⟩, []),
    (⟨(some 148), .fieldAddr 26 (.tmp 1) 7, 0, none, []⟩, []),
    (⟨(some 149), .load 24 (.tmp 148), 24, none, []⟩, [0]),
    (⟨(some 150), .call ⟨.builtin .len, #[(.tmp 149)], #[24]⟩, 3, none, []⟩, [0]),
    (⟨(some 151), .call ⟨.value (.func 45), #[(.tmp 147), (.tmp 150), (.const (.bool false))], #[24, 3, 4]⟩, 24, none, []⟩, []),
    (⟨(some 152), .fieldAddr 26 (.tmp 1) 7, 0, none, []⟩, [2, 3, 4]),
    (⟨(some 153), .load 24 (.tmp 152), 24, none, []⟩, [0, 1, 2, 3, 4]),
    (⟨(some 154), .call ⟨.builtin .append, #[(.tmp 151), (.tmp 153)], #[24, 24]⟩, 24, none, []⟩, []),
    (⟨(some 2), .assign (.tmp 154), 24, none, []⟩, []),
    (⟨(some 3), .assign (.const (.int .i64 0)), 34, none, []⟩, [])])
  .ret)))))))))
theorem l11 : slimF Hs 11 Try.f11 = some (155, s11, [.tmp 2, .tmp 3]) := by kernel_rfl

/-! 12 kerbsuite/kamessage.DecodeRequest -/
def s12 : SC :=
  (.seq (.reg [⟨(some 2), .alloc 26, 0, none, []⟩,
    ⟨(some 3), .assign (.const (.int .i64 0)), 34, none, []⟩])
  (.seq (.reg [⟨(some 10), .move (.tmp 0), 24, none, []⟩,
    ⟨(some 11), .call ⟨.value (.func 46), #[(.tmp 10)], #[24]⟩, 80, none, []⟩,
    ⟨(some 9), .move (.tmp 11), 80, none, []⟩,
    ⟨(some 12), .extract (.tmp 9) 0, 79, none, []⟩,
    ⟨(some 13), .extract (.tmp 9) 1, 34, none, []⟩,
    ⟨(some 4), .assign (.tmp 12), 79, none, []⟩,
    ⟨(some 5), .assign (.tmp 13), 34, none, []⟩])
  (.seq (.seq (.reg [⟨(some 14), .move (.tmp 5), 34, none, []⟩,
    ⟨(some 15), .binOp .neq 34 (.tmp 14) (.const (.int .i64 0)) 34, 4, none, []⟩])
  (.cond (.tmp 15)
    (.seq (.reg [⟨(some 16), .build 26 #[], 26, none, []⟩,
      ⟨(some 17), .move (.tmp 5), 34, none, []⟩,
      ⟨none, .store 26 (.tmp 2) (.tmp 16), 0, none, []⟩,
      ⟨(some 3), .assign (.tmp 17), 34, none, []⟩])
    .ret)
    .skip))
  (.seq (.reg [⟨(some 18), .move (.tmp 4), 79, none, []⟩,
    ⟨(some 19), .call ⟨.value (.func 47), #[(.tmp 18)], #[79]⟩, 3, none, []⟩,
    ⟨(some 20), .build 26 #[(0, (.tmp 19))], 26, none, []⟩,
    ⟨(some 6), .alloc 26, 0, none, []⟩,
    ⟨none, .store 26 (.tmp 6) (.tmp 20), 0, none, []⟩])
  (.seq (.seq (.reg [⟨(some 21), .fieldAddr 26 (.tmp 6) 0, 0, none, []⟩,
    ⟨(some 22), .load 3 (.tmp 21), 3, none, []⟩,
    ⟨(some 23), .binOp .eql 3 (.tmp 22) (.const (.int .i64 2)) 3, 4, none, []⟩])
  (.cond (.tmp 23)
    (.seq (.reg [⟨(some 24), .move (.tmp 4), 79, none, []⟩,
      ⟨(some 25), .call ⟨.value (.func 47), #[(.tmp 24)], #[79]⟩, 3, none, []⟩,
      ⟨(some 26), .fieldAddr 26 (.tmp 6) 2, 0, none, []⟩,
      ⟨none, .store 3 (.tmp 26) (.tmp 25), 0, none, []⟩])
    (.seq (.reg [⟨(some 27), .move (.tmp 4), 79, none, []⟩,
      ⟨(some 28), .call ⟨.value (.func 48), #[(.tmp 27)], #[79]⟩, 9, none, []⟩,
      ⟨(some 29), .fieldAddr 26 (.tmp 6) 3, 0, none, []⟩,
      ⟨none, .store 9 (.tmp 29) (.tmp 28), 0, none, []⟩])
    (.seq (.reg [⟨(some 30), .move (.tmp 4), 79, none, []⟩,
      ⟨(some 31), .move (.tmp 4), 79, none, []⟩,
      ⟨(some 32), .call ⟨.value (.func 47), #[(.tmp 31)], #[79]⟩, 3, none, []⟩,
      ⟨(some 33), .call ⟨.value (.func 49), #[(.tmp 30), (.tmp 32)], #[79, 3]⟩, 24, none, []⟩,
      ⟨(some 34), .fieldAddr 26 (.tmp 6) 4, 0, none, []⟩,
      ⟨none, .store 24 (.tmp 34) (.tmp 33), 0, none, []⟩])
    (.seq (.reg [⟨(some 35), .move (.tmp 4), 79, none, []⟩,
      ⟨(some 36), .call ⟨.value (.func 48), #[(.tmp 35)], #[79]⟩, 9, none, []⟩,
      ⟨(some 37), .fieldAddr 26 (.tmp 6) 5, 0, none, []⟩,
      ⟨none, .store 9 (.tmp 37) (.tmp 36), 0, none, []⟩])
    (.reg [⟨(some 38), .move (.tmp 4), 79, none, []⟩,
      ⟨(some 39), .call ⟨.value (.func 48), #[(.tmp 38)], #[79]⟩, 9, none, []⟩,
      ⟨(some 40), .fieldAddr 26 (.tmp 6) 6, 0, none, []⟩,
      ⟨none, .store 9 (.tmp 40) (.tmp 39), 0, none, []⟩])))))
    (.reg [⟨(some 41), .move (.tmp 4), 79, none, []⟩,
      ⟨(some 42), .call ⟨.value (.func 50), #[(.tmp 41)], #[79]⟩, 23, none, []⟩,
      ⟨(some 43), .fieldAddr 26 (.tmp 6) 1, 0, none, []⟩,
      ⟨none, .store 23 (.tmp 43) (.tmp 42), 0, none, []⟩])))
  (.seq (.reg [⟨(some 44), .move (.tmp 4), 79, none, []⟩,
    ⟨(some 45), .move (.tmp 4), 79, none, []⟩,
    ⟨(some 46), .call ⟨.value (.func 51), #[(.tmp 45)], #[79]⟩, 3, none, []⟩,
    ⟨(some 47), .call ⟨.value (.func 49), #[(.tmp 44), (.tmp 46)], #[79, 3]⟩, 24, none, []⟩,
    ⟨(some 48), .fieldAddr 26 (.tmp 6) 7, 0, none, []⟩,
    ⟨none, .store 24 (.tmp 48) (.tmp 47), 0, none, []⟩])
  (.seq (.seq (.reg [⟨(some 50), .load 26 (.tmp 6), 26, none, []⟩,
    ⟨(some 51), .call ⟨.value (.func 10), #[(.tmp 50)], #[26]⟩, 35, none, []⟩,
    ⟨(some 49), .move (.tmp 51), 35, none, []⟩,
    ⟨(some 52), .extract (.tmp 49) 0, 24, none, []⟩,
    ⟨(some 53), .extract (.tmp 49) 1, 34, none, []⟩,
    ⟨(some 7), .assign (.tmp 52), 24, none, []⟩,
    ⟨(some 8), .assign (.tmp 53), 34, none, []⟩])
  (.seq (.reg [⟨(some 54), .move (.tmp 0), 24, none, []⟩,
    ⟨(some 55), .move (.tmp 4), 79, none, []⟩,
    ⟨(some 56), .move (.tmp 7), 24, none, []⟩,
    ⟨(some 57), .move (.tmp 8), 34, none, []⟩,
    ⟨(some 58), .call ⟨.value (.func 52), #[(.tmp 54), (.tmp 55), (.tmp 56), (.tmp 57)], #[24, 79, 24, 34]⟩, 4, none, []⟩,
    ⟨(some 59), .unOp .not 4 (.tmp 58), 4, none, []⟩])
  (.cond (.tmp 59)
    (.seq (.reg [⟨(some 60), .build 26 #[], 26, none, []⟩,
      ⟨none, .store 26 (.tmp 2) (.tmp 60), 0, none, []⟩,
      ⟨(some 3), .assign (.const (.int .i64 100)), 34, none, []⟩])
    .ret)
    .skip)))
  (.seq (.reg [⟨(some 61), .load 26 (.tmp 6), 26, none, []⟩,
    ⟨none, .store 26 (.tmp 2) (.tmp 61), 0, none, []⟩,
    ⟨(some 3), .assign (.const (.int .i64 0)), 34, none, []⟩])
  .ret))))))))
theorem l12 : slimF Hs 12 Try.f12 = some (62, s12, [.cell 2 26, .tmp 3]) := by kernel_rfl

/-! 13 kerbsuite/kamessage.DecodeReply -/
def s13 : SC :=
  (.seq (.reg [⟨(some 2), .alloc 40, 0, none, []⟩,
    ⟨(some 3), .assign (.const (.int .i64 0)), 34, none, []⟩])
  (.seq (.reg [⟨(some 10), .move (.tmp 0), 24, none, []⟩,
    ⟨(some 11), .call ⟨.value (.func 46), #[(.tmp 10)], #[24]⟩, 80, none, []⟩,
    ⟨(some 9), .move (.tmp 11), 80, none, []⟩,
    ⟨(some 12), .extract (.tmp 9) 0, 79, none, []⟩,
    ⟨(some 13), .extract (.tmp 9) 1, 34, none, []⟩,
    ⟨(some 4), .assign (.tmp 12), 79, none, []⟩,
    ⟨(some 5), .assign (.tmp 13), 34, none, []⟩])
  (.seq (.seq (.reg [⟨(some 14), .move (.tmp 5), 34, none, []⟩,
    ⟨(some 15), .binOp .neq 34 (.tmp 14) (.const (.int .i64 0)) 34, 4, none, []⟩])
  (.cond (.tmp 15)
    (.seq (.reg [⟨(some 16), .build 40 #[], 40, none, []⟩,
      ⟨(some 17), .move (.tmp 5), 34, none, []⟩,
      ⟨none, .store 40 (.tmp 2) (.tmp 16), 0, none, []⟩,
      ⟨(some 3), .assign (.tmp 17), 34, none, []⟩])
    .ret)
    .skip))
  (.seq (.reg [⟨(some 18), .move (.tmp 4), 79, none, []⟩,
    ⟨(some 19), .call ⟨.value (.func 47), #[(.tmp 18)], #[79]⟩, 3, none, []⟩,
    ⟨(some 20), .binOp .sub 3 (.tmp 19) (.const (.int .i64 128)) 3, 3, none, []⟩,
    ⟨(some 21), .build 40 #[(0, (.tmp 20))], 40, none, []⟩,
    ⟨(some 6), .alloc 40, 0, none, []⟩,
    ⟨none, .store 40 (.tmp 6) (.tmp 21), 0, none, []⟩])
  (.seq (.reg [⟨(some 22), .move (.tmp 4), 79, none, []⟩,
    ⟨(some 23), .call ⟨.value (.func 47), #[(.tmp 22)], #[79]⟩, 3, none, []⟩,
    ⟨(some 24), .fieldAddr 40 (.tmp 6) 1, 0, none, []⟩,
    ⟨none, .store 34 (.tmp 24) (.tmp 23), 0, none, []⟩])
  (.seq (.reg [⟨(some 25), .move (.tmp 4), 79, none, []⟩,
    ⟨(some 26), .move (.tmp 4), 79, none, []⟩,
    ⟨(some 27), .call ⟨.value (.func 51), #[(.tmp 26)], #[79]⟩, 3, none, []⟩,
    ⟨(some 28), .call ⟨.value (.func 49), #[(.tmp 25), (.tmp 27)], #[79, 3]⟩, 24, none, []⟩,
    ⟨(some 29), .fieldAddr 40 (.tmp 6) 2, 0, none, []⟩,
    ⟨none, .store 24 (.tmp 29) (.tmp 28), 0, none, []⟩])
  (.seq (.seq (.reg [⟨(some 31), .load 40 (.tmp 6), 40, none, []⟩,
    ⟨(some 32), .call ⟨.value (.func 15), #[(.tmp 31)], #[40]⟩, 35, none, []⟩,
    ⟨(some 30), .move (.tmp 32), 35, none, []⟩,
    ⟨(some 33), .extract (.tmp 30) 0, 24, none, []⟩,
    ⟨(some 34), .extract (.tmp 30) 1, 34, none, []⟩,
    ⟨(some 7), .assign (.tmp 33), 24, none, []⟩,
    ⟨(some 8), .assign (.tmp 34), 34, none, []⟩])
  (.seq (.reg [⟨(some 35), .move (.tmp 0), 24, none, []⟩,
    ⟨(some 36), .move (.tmp 4), 79, none, []⟩,
    ⟨(some 37), .move (.tmp 7), 24, none, []⟩,
    ⟨(some 38), .move (.tmp 8), 34, none, []⟩,
    ⟨(some 39), .call ⟨.value (.func 52), #[(.tmp 35), (.tmp 36), (.tmp 37), (.tmp 38)], #[24, 79, 24, 34]⟩, 4, none, []⟩,
    ⟨(some 40), .unOp .not 4 (.tmp 39), 4, none, []⟩])
  (.cond (.tmp 40)
    (.seq (.reg [⟨(some 41), .build 40 #[], 40, none, []⟩,
      ⟨none, .store 40 (.tmp 2) (.tmp 41), 0, none, []⟩,
      ⟨(some 3), .assign (.const (.int .i64 100)), 34, none, []⟩])
    .ret)
    .skip)))
  (.seq (.reg [⟨(some 42), .load 40 (.tmp 6), 40, none, []⟩,
    ⟨none, .store 40 (.tmp 2) (.tmp 42), 0, none, []⟩,
    ⟨(some 3), .assign (.const (.int .i64 0)), 34, none, []⟩])
  .ret))))))))
theorem l13 : slimF Hs 13 Try.f13 = some (43, s13, [.cell 2 40, .tmp 3]) := by kernel_rfl

/-! 14 kerbsuite/kerbsuiteref22.SameRequest -/
def s14 : SC :=
  (.seq (.reg [⟨(some 2), .box 26 (.tmp 0), 0, none, []⟩,
    ⟨(some 3), .box 26 (.tmp 1), 0, none, []⟩,
    ⟨(some 4), .assign (.const (.bool false)), 4, none, []⟩])
  (.seq (.reg [⟨(some 5), .fieldAddr 26 (.tmp 2) 0, 0, none, []⟩,
    ⟨(some 6), .load 3 (.tmp 5), 3, none, []⟩,
    ⟨(some 7), .fieldAddr 26 (.tmp 3) 0, 0, none, []⟩,
    ⟨(some 8), .load 3 (.tmp 7), 3, none, []⟩,
    ⟨(some 9), .binOp .eql 3 (.tmp 6) (.tmp 8) 3, 4, none, []⟩,
    ⟨(some 10), .move (.tmp 9), 4, none, []⟩,
    ⟨(some 11), .fieldAddr 26 (.tmp 2) 1, 0, some (10, true), []⟩,
    ⟨(some 12), .load 23 (.tmp 11), 23, some (10, true), []⟩,
    ⟨(some 13), .fieldAddr 26 (.tmp 3) 1, 0, some (10, true), []⟩,
    ⟨(some 14), .load 23 (.tmp 13), 23, some (10, true), []⟩,
    ⟨(some 15), .binOp .eql 23 (.tmp 12) (.tmp 14) 23, 4, some (10, true), []⟩,
    ⟨(some 16), .pick (.tmp 10) (.tmp 15) (.const (.bool false)), 4, none, []⟩,
    ⟨(some 17), .move (.tmp 16), 4, none, []⟩,
    ⟨(some 18), .fieldAddr 26 (.tmp 2) 2, 0, some (17, true), []⟩,
    ⟨(some 19), .load 3 (.tmp 18), 3, some (17, true), []⟩,
    ⟨(some 20), .fieldAddr 26 (.tmp 3) 2, 0, some (17, true), []⟩,
    ⟨(some 21), .load 3 (.tmp 20), 3, some (17, true), []⟩,
    ⟨(some 22), .binOp .eql 3 (.tmp 19) (.tmp 21) 3, 4, some (17, true), []⟩,
    ⟨(some 23), .pick (.tmp 17) (.tmp 22) (.const (.bool false)), 4, none, []⟩,
    ⟨(some 24), .move (.tmp 23), 4, none, []⟩,
    ⟨(some 25), .fieldAddr 26 (.tmp 2) 3, 0, some (24, true), []⟩,
    ⟨(some 26), .load 9 (.tmp 25), 9, some (24, true), []⟩,
    ⟨(some 27), .fieldAddr 26 (.tmp 3) 3, 0, some (24, true), []⟩,
    ⟨(some 28), .load 9 (.tmp 27), 9, some (24, true), []⟩,
    ⟨(some 29), .binOp .eql 9 (.tmp 26) (.tmp 28) 9, 4, some (24, true), []⟩,
    ⟨(some 30), .pick (.tmp 24) (.tmp 29) (.const (.bool false)), 4, none, []⟩,
    ⟨(some 31), .move (.tmp 30), 4, none, []⟩,
    ⟨(some 32), .fieldAddr 26 (.tmp 2) 4, 0, some (31, true), []⟩,
    ⟨(some 33), .load 24 (.tmp 32), 24, some (31, true), []⟩,
    ⟨(some 34), .convert 24 9 (.tmp 33), 9, some (31, true), []⟩,
    ⟨(some 35), .fieldAddr 26 (.tmp 3) 4, 0, some (31, true), []⟩,
    ⟨(some 36), .load 24 (.tmp 35), 24, some (31, true), []⟩,
    ⟨(some 37), .convert 24 9 (.tmp 36), 9, some (31, true), []⟩,
    ⟨(some 38), .binOp .eql 9 (.tmp 34) (.tmp 37) 9, 4, some (31, true), []⟩,
    ⟨(some 39), .pick (.tmp 31) (.tmp 38) (.const (.bool false)), 4, none, []⟩,
    ⟨(some 40), .move (.tmp 39), 4, none, []⟩,
    ⟨(some 41), .fieldAddr 26 (.tmp 2) 5, 0, some (40, true), []⟩,
    ⟨(some 42), .load 9 (.tmp 41), 9, some (40, true), []⟩,
    ⟨(some 43), .fieldAddr 26 (.tmp 3) 5, 0, some (40, true), []⟩,
    ⟨(some 44), .load 9 (.tmp 43), 9, some (40, true), []⟩,
    ⟨(some 45), .binOp .eql 9 (.tmp 42) (.tmp 44) 9, 4, some (40, true), []⟩,
    ⟨(some 46), .pick (.tmp 40) (.tmp 45) (.const (.bool false)), 4, none, []⟩,
    ⟨(some 47), .move (.tmp 46), 4, none, []⟩,
    ⟨(some 48), .fieldAddr 26 (.tmp 2) 6, 0, some (47, true), []⟩,
    ⟨(some 49), .load 9 (.tmp 48), 9, some (47, true), []⟩,
    ⟨(some 50), .fieldAddr 26 (.tmp 3) 6, 0, some (47, true), []⟩,
    ⟨(some 51), .load 9 (.tmp 50), 9, some (47, true), []⟩,
    ⟨(some 52), .binOp .eql 9 (.tmp 49) (.tmp 51) 9, 4, some (47, true), []⟩,
    ⟨(some 53), .pick (.tmp 47) (.tmp 52) (.const (.bool false)), 4, none, []⟩,
    ⟨(some 54), .move (.tmp 53), 4, none, []⟩,
    ⟨(some 55), .fieldAddr 26 (.tmp 2) 7, 0, some (54, true), []⟩,
    ⟨(some 56), .load 24 (.tmp 55), 24, some (54, true), []⟩,
    ⟨(some 57), .convert 24 9 (.tmp 56), 9, some (54, true), []⟩,
    ⟨(some 58), .fieldAddr 26 (.tmp 3) 7, 0, some (54, true), []⟩,
    ⟨(some 59), .load 24 (.tmp 58), 24, some (54, true), []⟩,
    ⟨(some 60), .convert 24 9 (.tmp 59), 9, some (54, true), []⟩,
    ⟨(some 61), .binOp .eql 9 (.tmp 57) (.tmp 60) 9, 4, some (54, true), []⟩,
    ⟨(some 62), .pick (.tmp 54) (.tmp 61) (.const (.bool false)), 4, none, []⟩,
    ⟨(some 4), .assign (.tmp 62), 4, none, []⟩])
  .ret))
theorem l14 : slimF Hs 14 Try.f14 = some (63, s14, [.tmp 4]) := by kernel_rfl

/-! 15 kerbsuite/kamessage.EncodeReply -/
def s15 : SC :=
  (.seq (.reg [⟨(some 1), .box 40 (.tmp 0), 0, none, []⟩,
    ⟨(some 2), .assign (.const (.slice none 0 0)), 24, none, []⟩,
    ⟨(some 3), .assign (.const (.int .i64 0)), 34, none, []⟩])
  (.seq (.block 0 (.seq (.reg [⟨(some 6), .fieldAddr 40 (.tmp 1) 0, 0, none, []⟩,
    ⟨(some 7), .load 3 (.tmp 6), 3, none, []⟩,
    ⟨(some 8), .call ⟨.value (.func 53), #[(.tmp 7)], #[3]⟩, 4, none, []⟩,
    ⟨(some 9), .unOp .not 4 (.tmp 8), 4, none, []⟩,
    ⟨(some 5), .assign (.tmp 9), 4, none, []⟩])
  (.cond (.tmp 5)
    (.seq (.reg [⟨(some 2), .assign (.const (.slice none 0 0)), 24, none, []⟩,
      ⟨(some 3), .assign (.const (.int .i64 40)), 34, none, []⟩])
    .ret)
    (.seq (.reg [⟨(some 11), .fieldAddr 40 (.tmp 1) 1, 0, none, []⟩,
      ⟨(some 12), .load 34 (.tmp 11), 34, none, []⟩,
      ⟨(some 13), .buildSlice 124 1 #[(0, (.tmp 12))], 124, none, []⟩,
      ⟨(some 14), .call ⟨.value (.func 54), #[(.const (.int .i64 99)), (.tmp 13)], #[3, 124]⟩, 4, none, []⟩,
      ⟨(some 10), .assign (.tmp 14), 4, none, []⟩])
    (.cond (.tmp 10)
      (.seq (.reg [⟨(some 2), .assign (.const (.slice none 0 0)), 24, none, []⟩,
        ⟨(some 3), .assign (.const (.int .i64 104)), 34, none, []⟩])
      .ret)
      (.seq (.reg [⟨(some 16), .fieldAddr 40 (.tmp 1) 2, 0, none, []⟩,
        ⟨(some 17), .load 24 (.tmp 16), 24, none, []⟩,
        ⟨(some 18), .call ⟨.builtin .len, #[(.tmp 17)], #[24]⟩, 3, none, []⟩,
        ⟨(some 19), .binOp .gtr 3 (.tmp 18) (.const (.int .i64 1012)) 3, 4, none, []⟩,
        ⟨(some 15), .assign (.tmp 19), 4, none, []⟩])
      (.cond (.tmp 15)
        (.seq (.reg [⟨(some 2), .assign (.const (.slice none 0 0)), 24, none, []⟩,
          ⟨(some 3), .assign (.const (.int .i64 105)), 34, none, []⟩])
        .ret)
        (.seq (.reg [⟨(some 21), .fieldAddr 40 (.tmp 1) 1, 0, none, []⟩,
          ⟨(some 22), .load 34 (.tmp 21), 34, none, []⟩,
          ⟨(some 23), .binOp .neq 34 (.tmp 22) (.const (.int .i64 0)) 34, 4, none, []⟩,
          ⟨(some 24), .move (.tmp 23), 4, none, []⟩,
          ⟨(some 25), .fieldAddr 40 (.tmp 1) 2, 0, some (24, true), []⟩,
          ⟨(some 26), .load 24 (.tmp 25), 24, some (24, true), []⟩,
          ⟨(some 27), .call ⟨.builtin .len, #[(.tmp 26)], #[24]⟩, 3, some (24, true), []⟩,
          ⟨(some 28), .binOp .gtr 3 (.tmp 27) (.const (.int .i64 0)) 3, 4, some (24, true), []⟩,
          ⟨(some 29), .pick (.tmp 24) (.tmp 28) (.const (.bool false)), 4, none, []⟩,
          ⟨(some 20), .assign (.tmp 29), 4, none, []⟩])
        (.cond (.tmp 20)
          (.seq (.reg [⟨(some 2), .assign (.const (.slice none 0 0)), 24, none, []⟩,
            ⟨(some 3), .assign (.const (.int .i64 108)), 34, none, []⟩])
          .ret)
          .skip)))))))))
  (.seq (.drw [(⟨(some 30), .call ⟨.value (.func 31), #[(.const (.int .i64 9)), (.const (.bool false))], #[3, 4]⟩, 24, none, []⟩, []),
    (⟨(some 31), .fieldAddr 40 (.tmp 1) 0, 0, none, []⟩, [0]),
    (⟨(some 32), .load 3 (.tmp 31), 3, none, []⟩, [0]),
    (⟨(some 33), .binOp .add 3 (.tmp 32) (.const (.int .i64 128)) 3, 3, none, []⟩, [0]),
    (⟨(some 34), .call ⟨.value (.func 30), #[(.tmp 30), (.tmp 33)], #[24, 3]⟩, 24, none, []⟩, []),
    (⟨(some 35), .fieldAddr 40 (.tmp 1) 1, 0, none, []⟩, [0, 2, 4]),
    (⟨(some 36), .load 34 (.tmp 35), 34, none, []⟩, [0, 1, 2, 3, 4]),
    (⟨(some 37), .call ⟨.value (.func 30), #[(.tmp 34), (.tmp 36)], #[24, 3]⟩, 24, none, []⟩, []),
    (⟨(some 4), .assign (.tmp 37), 24, none, []⟩, [])])
  (.seq (.drw [(⟨(some 38), .move (.tmp 4), 24, none, []⟩, []),
    (⟨(some 39), .fieldAddr 40 (.tmp 1) 2, 0, none, []⟩, []),
    (⟨(some 40), .load 24 (.tmp 39), 24, none, []⟩, [0]),
    (⟨(some 41), .call ⟨.builtin .len, #[(.tmp 40)], #[24]⟩, 3, none, []⟩, [0]),
    (⟨(some 42), .call ⟨.value (.func 34), #[(.tmp 38), (.tmp 41), (.const (.bool false))], #[24, 3, 4]⟩, 24, none, []⟩, []),
    (⟨(some 43), .fieldAddr 40 (.tmp 1) 2, 0, none, []⟩, [2, 3, 4]),
    (⟨(some 44), .load 24 (.tmp 43), 24, none, []⟩, [0, 1, 2, 3, 4]),
    (⟨(some 45), .call ⟨.builtin .append, #[(.tmp 42), (.tmp 44)], #[24, 24]⟩, 24, none, []⟩, []),
    (⟨(some 2), .assign (.tmp 45), 24, none, []⟩, []),
    (⟨(some 3), .assign (.const (.int .i64 0)), 34, none, []⟩, [])])
  .ret))))
theorem l15 : slimF Hs 15 Try.f15 = some (46, s15, [.tmp 2, .tmp 3]) := by kernel_rfl

/-! 16 kerbsuite/kerbsuiteref22.EncodeReply -/
def s16 : SC :=
  (.seq (.reg [⟨(some 1), .box 40 (.tmp 0), 0, none, []⟩,
    ⟨(some 2), .assign (.const (.slice none 0 0)), 24, none, []⟩,
    ⟨(some 3), .assign (.const (.int .i64 0)), 34, none, []⟩])
  (.seq (.seq (.reg [⟨(some 5), .fieldAddr 40 (.tmp 1) 0, 0, none, []⟩,
    ⟨(some 6), .load 3 (.tmp 5), 3, none, []⟩,
    ⟨(some 7), .binOp .lss 3 (.tmp 6) (.const (.int .i64 1)) 3, 4, none, []⟩,
    ⟨(some 8), .move (.tmp 7), 4, none, []⟩,
    ⟨(some 9), .fieldAddr 40 (.tmp 1) 0, 0, some (8, false), []⟩,
    ⟨(some 10), .load 3 (.tmp 9), 3, some (8, false), []⟩,
    ⟨(some 11), .binOp .gtr 3 (.tmp 10) (.const (.int .i64 3)) 3, 4, some (8, false), []⟩,
    ⟨(some 12), .pick (.tmp 8) (.const (.bool true)) (.tmp 11), 4, none, []⟩])
  (.cond (.tmp 12)
    (.seq (.reg [⟨(some 2), .assign (.const (.slice none 0 0)), 24, none, []⟩,
      ⟨(some 3), .assign (.const (.int .i64 40)), 34, none, []⟩])
    .ret)
    .skip))
  (.seq (.seq (.reg [⟨(some 13), .fieldAddr 40 (.tmp 1) 1, 0, none, []⟩,
    ⟨(some 14), .load 34 (.tmp 13), 34, none, []⟩,
    ⟨(some 15), .binOp .lss 34 (.tmp 14) (.const (.int .i64 0)) 34, 4, none, []⟩,
    ⟨(some 16), .move (.tmp 15), 4, none, []⟩,
    ⟨(some 17), .fieldAddr 40 (.tmp 1) 1, 0, some (16, false), []⟩,
    ⟨(some 18), .load 34 (.tmp 17), 34, some (16, false), []⟩,
    ⟨(some 19), .binOp .gtr 34 (.tmp 18) (.const (.int .i64 99)) 34, 4, some (16, false), []⟩,
    ⟨(some 20), .pick (.tmp 16) (.const (.bool true)) (.tmp 19), 4, none, []⟩])
  (.cond (.tmp 20)
    (.seq (.reg [⟨(some 2), .assign (.const (.slice none 0 0)), 24, none, []⟩,
      ⟨(some 3), .assign (.const (.int .i64 104)), 34, none, []⟩])
    .ret)
    .skip))
  (.seq (.seq (.reg [⟨(some 21), .fieldAddr 40 (.tmp 1) 2, 0, none, []⟩,
    ⟨(some 22), .load 24 (.tmp 21), 24, none, []⟩,
    ⟨(some 23), .call ⟨.builtin .len, #[(.tmp 22)], #[24]⟩, 3, none, []⟩,
    ⟨(some 24), .binOp .gtr 3 (.tmp 23) (.const (.int .i64 1012)) 3, 4, none, []⟩])
  (.cond (.tmp 24)
    (.seq (.reg [⟨(some 2), .assign (.const (.slice none 0 0)), 24, none, []⟩,
      ⟨(some 3), .assign (.const (.int .i64 105)), 34, none, []⟩])
    .ret)
    .skip))
  (.seq (.seq (.reg [⟨(some 25), .fieldAddr 40 (.tmp 1) 1, 0, none, []⟩,
    ⟨(some 26), .load 34 (.tmp 25), 34, none, []⟩,
    ⟨(some 27), .binOp .neq 34 (.tmp 26) (.const (.int .i64 0)) 34, 4, none, []⟩,
    ⟨(some 28), .move (.tmp 27), 4, none, []⟩,
    ⟨(some 29), .fieldAddr 40 (.tmp 1) 2, 0, some (28, true), []⟩,
    ⟨(some 30), .load 24 (.tmp 29), 24, some (28, true), []⟩,
    ⟨(some 31), .call ⟨.builtin .len, #[(.tmp 30)], #[24]⟩, 3, some (28, true), []⟩,
    ⟨(some 32), .binOp .gtr 3 (.tmp 31) (.const (.int .i64 0)) 3, 4, some (28, true), []⟩,
    ⟨(some 33), .pick (.tmp 28) (.tmp 32) (.const (.bool false)), 4, none, []⟩])
  (.cond (.tmp 33)
    (.seq (.reg [⟨(some 2), .assign (.const (.slice none 0 0)), 24, none, []⟩,
      ⟨(some 3), .assign (.const (.int .i64 108)), 34, none, []⟩])
    .ret)
    .skip))
  (.seq (.drw [(⟨(some 34), .call ⟨.value (.func 42), #[(.const (.int .i64 9)), (.const (.bool false))], #[3, 4]⟩, 24, none, []⟩, []),
    (⟨(some 35), .fieldAddr 40 (.tmp 1) 0, 0, none, []⟩, [0]),
    (⟨(some 36), .load 3 (.tmp 35), 3, none, []⟩, [0]),
    (⟨(some 37), .binOp .add 3 (.tmp 36) (.const (.int .i64 128)) 3, 3, none, []⟩, [0]),
    (⟨(some 38), .call ⟨.value (.func 41), #[(.tmp 34), (.tmp 37)], #[24, 3]⟩, 24, none, []⟩, []),
    (⟨(some 4), .assign (.tmp 38), 24, none, []⟩, [])])
  (.seq (.drw [(⟨(some 39), .move (.tmp 4), 24, none, []⟩, []),
    (⟨(some 40), .fieldAddr 40 (.tmp 1) 1, 0, none, []⟩, []),
    (⟨(some 41), .load 34 (.tmp 40), 34, none, []⟩, [0]),
    (⟨(some 42), .call ⟨.value (.func 41), #[(.tmp 39), (.tmp 41)], #[24, 3]⟩, 24, none, []⟩, []),
    (⟨(some 43), .fieldAddr 40 (.tmp 1) 2, 0, none, []⟩, [2, 3]),
    (⟨(some 44), .load 24 (.tmp 43), 24, none, []⟩, [0, 1, 2, 3]),
    (⟨(some 45), .call ⟨.builtin .len, #[(.tmp 44)], #[24]⟩, 3, none, []⟩, [0, 1, 2, 3]),
    (⟨(some 46), .call ⟨.value (.func 45), #[(.tmp 42), (.tmp 45), (.const (.bool false))], #[24, 3, 4]⟩, 24, none, []⟩, []),
    (⟨(some 4), .assign (.tmp 46), 24, none, []⟩, [])])
  (.seq (.reg [⟨(some 47), .move (.tmp 4), 24, none, []⟩,
    ⟨(some 48), .fieldAddr 40 (.tmp 1) 2, 0, none, []⟩,
    ⟨(some 49), .load 24 (.tmp 48), 24, none, []⟩,
    ⟨(some 50), .call ⟨.builtin .append, #[(.tmp 47), (.tmp 49)], #[24, 24]⟩, 24, none, []⟩,
    ⟨(some 2), .assign (.tmp 50), 24, none, []⟩,
    ⟨(some 3), .assign (.const (.int .i64 0)), 34, none, []⟩])
  .ret))))))))
theorem l16 : slimF Hs 16 Try.f16 = some (51, s16, [.tmp 2, .tmp 3]) := by kernel_rfl

/-! 17 kerbsuite/kerbsuiteref22.SameReply -/
def s17 : SC :=
  (.seq (.reg [⟨(some 2), .box 40 (.tmp 0), 0, none, []⟩,
    ⟨(some 3), .box 40 (.tmp 1), 0, none, []⟩,
    ⟨(some 4), .assign (.const (.bool false)), 4, none, []⟩])
  (.seq (.reg [⟨(some 5), .fieldAddr 40 (.tmp 2) 0, 0, none, []⟩,
    ⟨(some 6), .load 3 (.tmp 5), 3, none, []⟩,
    ⟨(some 7), .fieldAddr 40 (.tmp 3) 0, 0, none, []⟩,
    ⟨(some 8), .load 3 (.tmp 7), 3, none, []⟩,
    ⟨(some 9), .binOp .eql 3 (.tmp 6) (.tmp 8) 3, 4, none, []⟩,
    ⟨(some 10), .move (.tmp 9), 4, none, []⟩,
    ⟨(some 11), .fieldAddr 40 (.tmp 2) 1, 0, some (10, true), []⟩,
    ⟨(some 12), .load 34 (.tmp 11), 34, some (10, true), []⟩,
    ⟨(some 13), .fieldAddr 40 (.tmp 3) 1, 0, some (10, true), []⟩,
    ⟨(some 14), .load 34 (.tmp 13), 34, some (10, true), []⟩,
    ⟨(some 15), .binOp .eql 34 (.tmp 12) (.tmp 14) 34, 4, some (10, true), []⟩,
    ⟨(some 16), .pick (.tmp 10) (.tmp 15) (.const (.bool false)), 4, none, []⟩,
    ⟨(some 17), .move (.tmp 16), 4, none, []⟩,
    ⟨(some 18), .fieldAddr 40 (.tmp 2) 2, 0, some (17, true), []⟩,
    ⟨(some 19), .load 24 (.tmp 18), 24, some (17, true), []⟩,
    ⟨(some 20), .convert 24 9 (.tmp 19), 9, some (17, true), []⟩,
    ⟨(some 21), .fieldAddr 40 (.tmp 3) 2, 0, some (17, true), []⟩,
    ⟨(some 22), .load 24 (.tmp 21), 24, some (17, true), []⟩,
    ⟨(some 23), .convert 24 9 (.tmp 22), 9, some (17, true), []⟩,
    ⟨(some 24), .binOp .eql 9 (.tmp 20) (.tmp 23) 9, 4, some (17, true), []⟩,
    ⟨(some 25), .pick (.tmp 17) (.tmp 24) (.const (.bool false)), 4, none, []⟩,
    ⟨(some 4), .assign (.tmp 25), 4, none, []⟩])
  .ret))
theorem l17 : slimF Hs 17 Try.f17 = some (26, s17, [.tmp 4]) := by kernel_rfl

/-! 18 (kerbsuite/kerbsuitelaw22.Ask).answer -/
def s18 : SC :=
  (.seq (.reg [⟨(some 1), .box 29 (.tmp 0), 0, none, []⟩,
    ⟨(some 2), .alloc 53, 0, none, []⟩])
  (.seq (.drw [(⟨(some 4), .buildSlice 88 4 #[(0, (.const (.string ⟨#[116, 103, 115, 84]⟩))), (1, (.const (.string ⟨#[116, 107, 116, 71]⟩))), (2, (.const (.string ⟨#[67, 80, 87, 100]⟩))), (3, (.const (.string ⟨#[103, 84, 71, 83]⟩)))], 88, none, []⟩, []),
    (⟨(some 5), .fieldAddr 29 (.tmp 1) 4, 0, none, []⟩, [0]),
    (⟨(some 6), .load 5 (.tmp 5), 5, none, []⟩, [0]),
    (⟨(some 7), .convert 5 3 (.tmp 6), 3, none, []⟩, [0]),
    (⟨(some 8), .binOp .rem 3 (.tmp 7) (.const (.int .i64 4)) 3, 3, none, []⟩, [0]),
    (⟨(some 9), .indexAddr 88 (.tmp 4) (.tmp 8), 0, none, []⟩, []),
    (⟨(some 10), .load 9 (.tmp 9), 9, none, []⟩, []),
    (⟨(some 11), .fieldAddr 29 (.tmp 1) 5, 0, none, []⟩, [0, 2, 3, 5, 6]),
    (⟨(some 12), .load 27 (.tmp 11), 27, none, []⟩, [0, 1, 2, 3, 4, 5, 6]),
    (⟨(some 13), .convert 27 3 (.tmp 12), 3, none, []⟩, [0, 1, 2, 3, 4, 5, 6]),
    (⟨(some 14), .build 53 #[(0, (.tmp 10)), (1, (.tmp 13))], 53, none, []⟩, []),
    (⟨(some 3), .alloc 53, 0, none, []⟩, [0, 2, 3, 5, 6, 8, 9]),
    (⟨none, .store 53 (.tmp 3) (.tmp 14), 0, none, []⟩, [])])
  (.seq (.seq (.reg [⟨(some 15), .fieldAddr 53 (.tmp 3) 0, 0, none, []⟩,
    ⟨(some 16), .load 9 (.tmp 15), 9, none, []⟩,
    ⟨(some 17), .binOp .eql 9 (.tmp 16) (.const (.string ⟨#[67, 80, 87, 100]⟩)) 9, 4, none, []⟩,
    ⟨(some 18), .move (.tmp 17), 4, none, []⟩,
    ⟨(some 19), .fieldAddr 29 (.tmp 1) 11, 0, some (18, true), []⟩,
    ⟨(some 20), .load 5 (.tmp 19), 5, some (18, true), []⟩,
    ⟨(some 21), .binOp .rem 5 (.tmp 20) (.const (.int .u8 16)) 5, 5, some (18, true), []⟩,
    ⟨(some 22), .binOp .neq 5 (.tmp 21) (.const (.int .u8 8)) 5, 4, some (18, true), []⟩,
    ⟨(some 23), .pick (.tmp 18) (.tmp 22) (.const (.bool false)), 4, none, []⟩])
  (.cond (.tmp 23)
    (.seq (.reg [⟨(some 24), .load 53 (.tmp 3), 53, none, []⟩,
      ⟨none, .store 53 (.tmp 2) (.tmp 24), 0, none, []⟩])
    .ret)
    .skip))
  (.seq (.drw [(⟨(some 25), .fieldAddr 29 (.tmp 1) 8, 0, none, []⟩, []),
    (⟨(some 26), .load 5 (.tmp 25), 5, none, []⟩, []),
    (⟨(some 27), .convert 5 3 (.tmp 26), 3, none, []⟩, []),
    (⟨(some 28), .call ⟨.value (.func 55), #[(.tmp 27)], #[3]⟩, 51, none, []⟩, []),
    (⟨(some 29), .fieldAddr 29 (.tmp 1) 6, 0, none, []⟩, [1, 2, 3]),
    (⟨(some 30), .load 27 (.tmp 29), 27, none, []⟩, [0, 1, 2, 3]),
    (⟨(some 31), .convert 27 3 (.tmp 30), 3, none, []⟩, [0, 1, 2, 3]),
    (⟨(some 32), .fieldAddr 29 (.tmp 1) 7, 0, none, []⟩, [1, 2, 3, 5, 6]),
    (⟨(some 33), .load 27 (.tmp 32), 27, none, []⟩, [0, 1, 2, 3, 4, 5, 6]),
    (⟨(some 34), .convert 27 3 (.tmp 33), 3, none, []⟩, [0, 1, 2, 3, 4, 5, 6]),
    (⟨(some 35), .fieldAddr 29 (.tmp 1) 2, 0, none, []⟩, [1, 2, 3, 5, 6, 8, 9]),
    (⟨(some 36), .load 5 (.tmp 35), 5, none, []⟩, [0, 1, 2, 3, 4, 5, 6, 7, 8, 9]),
    (⟨(some 37), .convert 5 3 (.tmp 36), 3, none, []⟩, [0, 1, 2, 3, 4, 5, 6, 7, 8, 9]),
    (⟨(some 38), .fieldAddr 29 (.tmp 1) 3, 0, none, []⟩, [1, 2, 3, 5, 6, 8, 9, 11, 12]),
    (⟨(some 39), .load 5 (.tmp 38), 5, none, []⟩, [0, 1, 2, 3, 4, 5, 6, 7, 8, 9, 10, 11, 12]),
    (⟨(some 40), .convert 5 3 (.tmp 39), 3, none, []⟩, [0, 1, 2, 3, 4, 5, 6, 7, 8, 9, 10, 11, 12]),
    (⟨(some 41), .call ⟨.value (.func 28), #[(.tmp 40)], #[3]⟩, 23, none, []⟩, [4, 5, 6, 7, 8, 9, 10, 11, 12]),
    (⟨(some 42), .fieldAddr 29 (.tmp 1) 9, 0, none, []⟩, [1, 2, 3, 5, 6, 8, 9, 11, 12, 14, 15, 16]),
    (⟨(some 43), .load 24 (.tmp 42), 24, none, []⟩, [0, 1, 2, 3, 4, 5, 6, 7, 8, 9, 10, 11, 12, 13, 14, 15, 16]),
    (⟨(some 44), .fieldAddr 53 (.tmp 3) 2, 0, none, []⟩, [5, 6, 8, 9, 11, 12, 14, 15, 16, 18]),
    (⟨none, .store 51 (.tmp 44) (.tmp 28), 0, none, []⟩, [4, 5, 6, 7, 8, 9, 10, 11, 12, 17, 18]),
    (⟨(some 45), .fieldAddr 53 (.tmp 3) 3, 0, none, []⟩, [8, 9, 11, 12, 18]),
    (⟨none, .store 3 (.tmp 45) (.tmp 31), 0, none, []⟩, [7, 8, 9, 10, 11, 12, 17, 18]),
    (⟨(some 46), .fieldAddr 53 (.tmp 3) 4, 0, none, []⟩, [11, 12, 18]),
    (⟨none, .store 3 (.tmp 46) (.tmp 34), 0, none, []⟩, [10, 11, 12, 17, 18]),
    (⟨(some 47), .fieldAddr 53 (.tmp 3) 5, 0, none, []⟩, [18]),
    (⟨none, .store 3 (.tmp 47) (.tmp 37), 0, none, []⟩, [17, 18]),
    (⟨(some 48), .fieldAddr 53 (.tmp 3) 6, 0, none, []⟩, [18]),
    (⟨none, .store 23 (.tmp 48) (.tmp 41), 0, none, []⟩, [17, 18]),
    (⟨(some 49), .fieldAddr 53 (.tmp 3) 7, 0, none, []⟩, []),
    (⟨none, .store 24 (.tmp 49) (.tmp 43), 0, none, []⟩, [])])
  (.seq (.reg [⟨(some 50), .load 53 (.tmp 3), 53, none, []⟩,
    ⟨none, .store 53 (.tmp 2) (.tmp 50), 0, none, []⟩])
  .ret)))))
theorem l18 : slimF Hs 18 Try.f18 = some (51, s18, [.cell 2 53]) := by kernel_rfl

/-! 19 kerbsuite/kamessage.EncodeAnswer -/
def s19 : SC :=
  (.seq (.reg [⟨(some 1), .box 53 (.tmp 0), 0, none, []⟩,
    ⟨(some 2), .assign (.const (.slice none 0 0)), 24, none, []⟩,
    ⟨(some 3), .assign (.const (.int .i64 0)), 34, none, []⟩])
  (.seq (.reg [⟨(some 6), .fieldAddr 53 (.tmp 1) 0, 0, none, []⟩,
    ⟨(some 7), .load 9 (.tmp 6), 9, none, []⟩,
    ⟨(some 8), .binOp .eql 9 (.tmp 7) (.const (.string ⟨#[67, 80, 87, 100]⟩)) 9, 4, none, []⟩,
    ⟨(some 4), .assign (.tmp 8), 4, none, []⟩])
  (.seq (.block 0 (.seq (.reg [⟨(some 10), .move (.tmp 4), 4, none, []⟩,
    ⟨(some 11), .unOp .not 4 (.tmp 10), 4, none, []⟩,
    ⟨(some 12), .move (.tmp 11), 4, none, []⟩,
    ⟨(some 13), .fieldAddr 53 (.tmp 1) 0, 0, some (12, true), []⟩,
    ⟨(some 14), .load 9 (.tmp 13), 9, some (12, true), []⟩,
    ⟨(some 15), .binOp .neq 9 (.tmp 14) (.const (.string ⟨#[116, 103, 115, 84]⟩)) 9, 4, some (12, true), []⟩,
    ⟨(some 16), .pick (.tmp 12) (.tmp 15) (.const (.bool false)), 4, none, []⟩,
    ⟨(some 17), .move (.tmp 16), 4, none, []⟩,
    ⟨(some 18), .fieldAddr 53 (.tmp 1) 0, 0, some (17, true), []⟩,
    ⟨(some 19), .load 9 (.tmp 18), 9, some (17, true), []⟩,
    ⟨(some 20), .binOp .neq 9 (.tmp 19) (.const (.string ⟨#[116, 107, 116, 71]⟩)) 9, 4, some (17, true), []⟩,
    ⟨(some 21), .pick (.tmp 17) (.tmp 20) (.const (.bool false)), 4, none, []⟩,
    ⟨(some 9), .assign (.tmp 21), 4, none, []⟩])
  (.cond (.tmp 9)
    (.seq (.reg [⟨(some 2), .assign (.const (.slice none 0 0)), 24, none, []⟩,
      ⟨(some 3), .assign (.const (.int .i64 80)), 34, none, []⟩])
    .ret)
    (.seq (.reg [⟨(some 23), .fieldAddr 53 (.tmp 1) 1, 0, none, []⟩,
      ⟨(some 24), .load 3 (.tmp 23), 3, none, []⟩,
      ⟨(some 25), .buildSlice 124 1 #[(0, (.tmp 24))], 124, none, []⟩,
      ⟨(some 26), .call ⟨.value (.func 54), #[(.const (.int .i64 4294967295)), (.tmp 25)], #[3, 124]⟩, 4, none, []⟩,
      ⟨(some 22), .assign (.tmp 26), 4, none, []⟩])
    (.cond (.tmp 22)
      (.seq (.reg [⟨(some 2), .assign (.const (.slice none 0 0)), 24, none, []⟩,
        ⟨(some 3), .assign (.const (.int .i64 104)), 34, none, []⟩])
      .ret)
      (.seq (.reg [⟨(some 28), .move (.tmp 4), 4, none, []⟩,
        ⟨(some 29), .unOp .not 4 (.tmp 28), 4, none, []⟩,
        ⟨(some 30), .move (.tmp 29), 4, none, []⟩,
        ⟨(some 31), .fieldAddr 53 (.tmp 1) 2, 0, some (30, true), []⟩,
        ⟨(some 32), .load 51 (.tmp 31), 51, some (30, true), []⟩,
        ⟨(some 33), .call ⟨.value (.func 56), #[(.tmp 32)], #[51]⟩, 4, some (30, true), []⟩,
        ⟨(some 34), .unOp .not 4 (.tmp 33), 4, some (30, true), []⟩,
        ⟨(some 35), .pick (.tmp 30) (.tmp 34) (.const (.bool false)), 4, none, []⟩,
        ⟨(some 27), .assign (.tmp 35), 4, none, []⟩])
      (.cond (.tmp 27)
        (.seq (.reg [⟨(some 2), .assign (.const (.slice none 0 0)), 24, none, []⟩,
          ⟨(some 3), .assign (.const (.int .i64 10)), 34, none, []⟩])
        .ret)
        (.seq (.reg [⟨(some 37), .move (.tmp 4), 4, none, []⟩,
          ⟨(some 38), .unOp .not 4 (.tmp 37), 4, none, []⟩,
          ⟨(some 39), .move (.tmp 38), 4, none, []⟩,
          ⟨(some 40), .fieldAddr 53 (.tmp 1) 3, 0, some (39, true), []⟩,
          ⟨(some 41), .load 3 (.tmp 40), 3, some (39, true), []⟩,
          ⟨(some 42), .fieldAddr 53 (.tmp 1) 4, 0, some (39, true), []⟩,
          ⟨(some 43), .load 3 (.tmp 42), 3, some (39, true), []⟩,
          ⟨(some 44), .buildSlice 124 2 #[(0, (.tmp 41)), (1, (.tmp 43))], 124, some (39, true), []⟩,
          ⟨(some 45), .call ⟨.value (.func 54), #[(.const (.int .i64 4294967295)), (.tmp 44)], #[3, 124]⟩, 4, some (39, true), []⟩,
          ⟨(some 46), .move (.tmp 45), 4, some (39, true), []⟩,
          ⟨(some 47), .fieldAddr 53 (.tmp 1) 5, 0, some (46, false), []⟩,
          ⟨(some 48), .load 3 (.tmp 47), 3, some (46, false), []⟩,
          ⟨(some 49), .buildSlice 124 1 #[(0, (.tmp 48))], 124, some (46, false), []⟩,
          ⟨(some 50), .call ⟨.value (.func 54), #[(.const (.int .i64 255)), (.tmp 49)], #[3, 124]⟩, 4, some (46, false), []⟩,
          ⟨(some 51), .pick (.tmp 46) (.const (.bool true)) (.tmp 50), 4, some (39, true), []⟩,
          ⟨(some 52), .pick (.tmp 39) (.tmp 51) (.const (.bool false)), 4, none, []⟩,
          ⟨(some 36), .assign (.tmp 52), 4, none, []⟩])
        (.cond (.tmp 36)
          (.seq (.reg [⟨(some 2), .assign (.const (.slice none 0 0)), 24, none, []⟩,
            ⟨(some 3), .assign (.const (.int .i64 104)), 34, none, []⟩])
          .ret)
          (.seq (.reg [⟨(some 54), .move (.tmp 4), 4, none, []⟩,
            ⟨(some 55), .unOp .not 4 (.tmp 54), 4, none, []⟩,
            ⟨(some 56), .move (.tmp 55), 4, none, []⟩,
            ⟨(some 57), .fieldAddr 53 (.tmp 1) 6, 0, some (56, true), []⟩,
            ⟨(some 58), .load 23 (.tmp 57), 23, some (56, true), []⟩,
            ⟨(some 59), .call ⟨.value (.func 57), #[(.tmp 58)], #[23]⟩, 4, some (56, true), []⟩,
            ⟨(some 60), .unOp .not 4 (.tmp 59), 4, some (56, true), []⟩,
            ⟨(some 61), .pick (.tmp 56) (.tmp 60) (.const (.bool false)), 4, none, []⟩,
            ⟨(some 53), .assign (.tmp 61), 4, none, []⟩])
          (.cond (.tmp 53)
            (.seq (.reg [⟨(some 2), .assign (.const (.slice none 0 0)), 24, none, []⟩,
              ⟨(some 3), .assign (.const (.int .i64 103)), 34, none, []⟩])
            .ret)
            (.seq (.reg [⟨(some 63), .move (.tmp 4), 4, none, []⟩,
              ⟨(some 64), .unOp .not 4 (.tmp 63), 4, none, []⟩,
              ⟨(some 65), .move (.tmp 64), 4, none, []⟩,
              ⟨(some 66), .fieldAddr 53 (.tmp 1) 7, 0, some (65, true), []⟩,
              ⟨(some 67), .load 24 (.tmp 66), 24, some (65, true), []⟩,
              ⟨(some 68), .call ⟨.builtin .len, #[(.tmp 67)], #[24]⟩, 3, some (65, true), []⟩,
              ⟨(some 69), .binOp .gtr 3 (.tmp 68) (.const (.int .i64 255)) 3, 4, some (65, true), []⟩,
              ⟨(some 70), .pick (.tmp 65) (.tmp 69) (.const (.bool false)), 4, none, []⟩,
              ⟨(some 62), .assign (.tmp 70), 4, none, []⟩])
            (.cond (.tmp 62)
              (.seq (.reg [⟨(some 2), .assign (.const (.slice none 0 0)), 24, none, []⟩,
                ⟨(some 3), .assign (.const (.int .i64 105)), 34, none, []⟩])
              .ret)
              (.seq (.reg [⟨(some 72), .move (.tmp 4), 4, none, []⟩,
                ⟨(some 73), .move (.tmp 72), 4, none, []⟩,
                ⟨(some 74), .fieldAddr 53 (.tmp 1) 2, 0, some (73, true), []⟩,
                ⟨(some 75), .load 51 (.tmp 74), 51, some (73, true), []⟩,
                ⟨(some 76), .binOp .neq 51 (.tmp 75) (.const (.int .u64 0)) 51, 4, some (73, true), []⟩,
                ⟨(some 77), .move (.tmp 76), 4, some (73, true), []⟩,
                ⟨(some 78), .fieldAddr 53 (.tmp 1) 3, 0, some (77, false), []⟩,
                ⟨(some 79), .load 3 (.tmp 78), 3, some (77, false), []⟩,
                ⟨(some 80), .binOp .neq 3 (.tmp 79) (.const (.int .i64 0)) 3, 4, some (77, false), []⟩,
                ⟨(some 81), .pick (.tmp 77) (.const (.bool true)) (.tmp 80), 4, some (73, true), []⟩,
                ⟨(some 82), .move (.tmp 81), 4, some (73, true), []⟩,
                ⟨(some 83), .fieldAddr 53 (.tmp 1) 4, 0, some (82, false), []⟩,
                ⟨(some 84), .load 3 (.tmp 83), 3, some (82, false), []⟩,
                ⟨(some 85), .binOp .neq 3 (.tmp 84) (.const (.int .i64 0)) 3, 4, some (82, false), []⟩,
                ⟨(some 86), .pick (.tmp 82) (.const (.bool true)) (.tmp 85), 4, some (73, true), []⟩,
                ⟨(some 87), .move (.tmp 86), 4, some (73, true), []⟩,
                ⟨(some 88), .fieldAddr 53 (.tmp 1) 5, 0, some (87, false), []⟩,
                ⟨(some 89), .load 3 (.tmp 88), 3, some (87, false), []⟩,
                ⟨(some 90), .binOp .neq 3 (.tmp 89) (.const (.int .i64 0)) 3, 4, some (87, false), []⟩,
                ⟨(some 91), .pick (.tmp 87) (.const (.bool true)) (.tmp 90), 4, some (73, true), []⟩,
                ⟨(some 92), .move (.tmp 91), 4, some (73, true), []⟩,
                ⟨(some 93), .fieldAddr 53 (.tmp 1) 6, 0, some (92, false), []⟩,
                ⟨(some 94), .load 23 (.tmp 93), 23, some (92, false), []⟩,
                ⟨(some 95), .build 23 #[], 23, some (92, false), []⟩,
                ⟨(some 96), .binOp .neq 23 (.tmp 94) (.tmp 95) 23, 4, some (92, false), []⟩,
                ⟨(some 97), .pick (.tmp 92) (.const (.bool true)) (.tmp 96), 4, some (73, true), []⟩,
                ⟨(some 98), .move (.tmp 97), 4, some (73, true), []⟩,
                ⟨(some 99), .fieldAddr 53 (.tmp 1) 7, 0, some (98, false), []⟩,
                ⟨(some 100), .load 24 (.tmp 99), 24, some (98, false), []⟩,
                ⟨(some 101), .call ⟨.builtin .len, #[(.tmp 100)], #[24]⟩, 3, some (98, false), []⟩,
                ⟨(some 102), .binOp .gtr 3 (.tmp 101) (.const (.int .i64 0)) 3, 4, some (98, false), []⟩,
                ⟨(some 103), .pick (.tmp 98) (.const (.bool true)) (.tmp 102), 4, some (73, true), []⟩,
                ⟨(some 104), .pick (.tmp 73) (.tmp 103) (.const (.bool false)), 4, none, []⟩,
                ⟨(some 71), .assign (.tmp 104), 4, none, []⟩])
              (.cond (.tmp 71)
                (.seq (.reg [⟨(some 2), .assign (.const (.slice none 0 0)), 24, none, []⟩,
                  ⟨(some 3), .assign (.const (.int .i64 108)), 34, none, []⟩])
                .ret)
                .skip)))))))))))))))
  (.seq (.reg [⟨(some 105), .fieldAddr 53 (.tmp 1) 0, 0, none, []⟩,
    ⟨(some 106), .load 9 (.tmp 105), 9, none, []⟩,
    ⟨(some 107), .convert 9 24 (.tmp 106), 24, none, []⟩,
    ⟨(some 108), .fieldAddr 53 (.tmp 1) 1, 0, none, []⟩,
    ⟨(some 109), .load 3 (.tmp 108), 3, none, []⟩,
    ⟨(some 110), .call ⟨.value (.func 58), #[(.tmp 107), (.tmp 109), (.const (.bool false))], #[24, 3, 4]⟩, 24, none, []⟩,
    ⟨(some 5), .assign (.tmp 110), 24, none, []⟩])
  (.seq (.seq (.reg [⟨(some 111), .move (.tmp 4), 4, none, []⟩,
    ⟨(some 112), .unOp .not 4 (.tmp 111), 4, none, []⟩])
  (.cond (.tmp 112)
    (.seq (.reg [⟨(some 113), .move (.tmp 5), 24, none, []⟩,
      ⟨(some 114), .fieldAddr 53 (.tmp 1) 2, 0, none, []⟩,
      ⟨(some 115), .load 51 (.tmp 114), 51, none, []⟩,
      ⟨(some 116), .call ⟨.value (.func 59), #[(.tmp 115)], #[51]⟩, 24, none, []⟩,
      ⟨(some 117), .call ⟨.builtin .append, #[(.tmp 113), (.tmp 116)], #[24, 24]⟩, 24, none, []⟩,
      ⟨(some 5), .assign (.tmp 117), 24, none, []⟩])
    (.seq (.drw [(⟨(some 118), .move (.tmp 5), 24, none, []⟩, []),
      (⟨(some 119), .fieldAddr 53 (.tmp 1) 3, 0, none, []⟩, []),
      (⟨(some 120), .load 3 (.tmp 119), 3, none, []⟩, [0]),
      (⟨(some 121), .call ⟨.value (.func 58), #[(.tmp 118), (.tmp 120), (.const (.bool false))], #[24, 3, 4]⟩, 24, none, []⟩, []),
      (⟨(some 122), .fieldAddr 53 (.tmp 1) 4, 0, none, []⟩, [2, 3]),
      (⟨(some 123), .load 3 (.tmp 122), 3, none, []⟩, [0, 1, 2, 3]),
      (⟨(some 124), .call ⟨.value (.func 58), #[(.tmp 121), (.tmp 123), (.const (.bool false))], #[24, 3, 4]⟩, 24, none, []⟩, []),
      (⟨(some 5), .assign (.tmp 124), 24, none, []⟩, [])])
    (.seq (.drw [(⟨(some 125), .move (.tmp 5), 24, none, []⟩, []),
      (⟨(some 126), .fieldAddr 53 (.tmp 1) 5, 0, none, []⟩, []),
      (⟨(some 127), .load 3 (.tmp 126), 3, none, []⟩, [0]),
      (⟨(some 128), .call ⟨.value (.func 30), #[(.tmp 125), (.tmp 127)], #[24, 3]⟩, 24, none, []⟩, []),
      (⟨(some 129), .fieldAddr 53 (.tmp 1) 6, 0, none, []⟩, [2, 3]),
      (⟨(some 130), .load 23 (.tmp 129), 23, none, []⟩, [0, 1, 2, 3]),
      (⟨(some 131), .call ⟨.value (.func 33), #[(.tmp 128), (.tmp 130)], #[24, 23]⟩, 24, none, []⟩, []),
      (⟨(some 5), .assign (.tmp 131), 24, none, []⟩, [])])
    (.drw [(⟨(some 132), .move (.tmp 5), 24, none, []⟩, []),
      (⟨(some 133), .fieldAddr 53 (.tmp 1) 7, 0, none, []⟩, []),
      (⟨(some 134), .load 24 (.tmp 133), 24, none, []⟩, [0]),
      (⟨(some 135), .call ⟨.builtin .len, #[(.tmp 134)], #[24]⟩, 3, none, []⟩, [0]),
      (⟨(some 136), .call ⟨.value (.func 30), #[(.tmp 132), (.tmp 135)], #[24, 3]⟩, 24, none, []⟩, []),
      (⟨(some 137), .fieldAddr 53 (.tmp 1) 7, 0, none, []⟩, [2, 3, 4]),
      (⟨(some 138), .load 24 (.tmp 137), 24, none, []⟩, [0, 1, 2, 3, 4]),
      (⟨(some 139), .call ⟨.builtin .append, #[(.tmp 136), (.tmp 138)], #[24, 24]⟩, 24, none, []⟩, []),
      (⟨(some 5), .assign (.tmp 139), 24, none, []⟩, [])]))))
    .skip))
  (.seq (.reg [⟨(some 140), .move (.tmp 5), 24, none, []⟩,
    ⟨(some 141), .call ⟨.value (.func 60), #[(.tmp 140)], #[24]⟩, 24, none, []⟩,
    ⟨(some 2), .assign (.tmp 141), 24, none, []⟩,
    ⟨(some 3), .assign (.const (.int .i64 0)), 34, none, []⟩])
  .ret))))))
theorem l19 : slimF Hs 19 Try.f19 = some (142, s19, [.tmp 2, .tmp 3]) := by kernel_rfl

end Ab
