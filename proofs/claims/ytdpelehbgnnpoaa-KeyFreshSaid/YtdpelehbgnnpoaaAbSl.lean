/- A part of the proof of a row by an interpreter that is proved sound; no conditions of its own. -/
import Derived.Test.YtdpelehbgnnpoaaAbEv
import Derived.KernelRfl
import Derived.Test.YtdpelehbgnnpoaaProg
namespace Ab
open Go Go.Proofs
set_option maxRecDepth 100000

def Hs : Hints where
  inPlace := fun _ => false
  own := fun f => f == 41 || f == 53
  head := fun f b => 
    if f == 3 && b == 0 then some ([0, 1, 2, 3, 9], 0) else 
    if f == 4 && b == 0 then some ([7, 8], 0) else 
    if f == 8 && b == 0 then some ([0, 1, 2, 3, 9, 10, 11], 0) else 
    if f == 8 && b == 2 then some ([0, 9, 13, 14, 17], 0) else 
    if f == 9 && b == 0 then some ([0, 1, 3, 9, 10], 0) else 
    if f == 9 && b == 2 then some ([0, 1, 9, 11], 0) else 
    if f == 10 && b == 0 then some ([0, 3, 9, 10], 0) else 
    if f == 10 && b == 2 then some ([0, 3, 9, 10, 11], 0) else 
    if f == 11 && b == 0 then some ([2, 4, 17, 18, 19], 0) else 
    if f == 12 && b == 0 then some ([1, 7, 8, 9], 0) else 
    if f == 12 && b == 2 then some ([1, 7, 8, 9, 10, 12], 0) else 
    if f == 26 && b == 0 then some ([0, 8, 18, 19, 20], 0) else 
    if f == 29 && b == 0 then some ([1, 6, 7, 9], 0) else 
    if f == 39 && b == 0 then some ([1, 2, 8, 25, 26, 27], 0) else 
    if f == 39 && b == 2 then some ([1, 2, 8, 11], 0) else 
    if f == 39 && b == 4 then some ([1, 2, 8, 13], 0) else 
    if f == 41 && b == 0 then some ([0, 3, 4], 0) else 
    if f == 52 && b == 0 then some ([0, 1, 2], 0) else 
    if f == 53 && b == 0 then some ([0, 1, 5], 0) else 
    if f == 55 && b == 0 then some ([0, 1, 7, 8], 0) else 
    if f == 56 && b == 0 then some ([0, 1, 5], 0) else none
  fresh := fun f r i => 
    if f == 41 && r == 1 && i == 0 then [0] else 
    if f == 8 && r == 5 && i == 0 then [0] else 
    if f == 8 && r == 5 && i == 1 then [0] else []

theorem tS0 : sizeT Try.prog 0 = some 1 := idr (by kernel_rfl)
theorem tA0 : isAggT Try.prog 0 = some false := idr (by kernel_rfl)
theorem tU3 : Try.prog.underlying 3 = some (.int .i64) := idr (by kernel_rfl)
theorem tS3 : sizeT Try.prog 3 = some 1 := idr (by kernel_rfl)
theorem tA3 : isAggT Try.prog 3 = some false := idr (by kernel_rfl)
theorem tz3 : zeroA Try.prog 3 = some [.d (.int .i64 0)] := by kernel_rfl
theorem tv3 : zeroV Try.prog 3 = some (.d (.int .i64 0)) := idr (by kernel_rfl)
theorem tU4 : Try.prog.underlying 4 = some (.bool) := idr (by kernel_rfl)
theorem tS4 : sizeT Try.prog 4 = some 1 := idr (by kernel_rfl)
theorem tA4 : isAggT Try.prog 4 = some false := idr (by kernel_rfl)
theorem tz4 : zeroA Try.prog 4 = some [.d (.bool false)] := by kernel_rfl
theorem tv4 : zeroV Try.prog 4 = some (.d (.bool false)) := idr (by kernel_rfl)
theorem tU5 : Try.prog.underlying 5 = some (.int .u8) := idr (by kernel_rfl)
theorem tS5 : sizeT Try.prog 5 = some 1 := idr (by kernel_rfl)
theorem tA5 : isAggT Try.prog 5 = some false := idr (by kernel_rfl)
theorem tz5 : zeroA Try.prog 5 = some [.d (.int .u8 0)] := by kernel_rfl
theorem tv5 : zeroV Try.prog 5 = some (.d (.int .u8 0)) := idr (by kernel_rfl)
theorem tU9 : Try.prog.underlying 9 = some (.string) := idr (by kernel_rfl)
theorem tS9 : sizeT Try.prog 9 = some 1 := idr (by kernel_rfl)
theorem tA9 : isAggT Try.prog 9 = some false := idr (by kernel_rfl)
theorem tz9 : zeroA Try.prog 9 = some [.d (.str ByteArray.empty)] := by kernel_rfl
theorem tv9 : zeroV Try.prog 9 = some (.d (.str ByteArray.empty)) := idr (by kernel_rfl)
theorem tU22 : Try.prog.underlying 22 = some (.slice 5) := idr (by kernel_rfl)
theorem tS22 : sizeT Try.prog 22 = some 1 := idr (by kernel_rfl)
theorem tA22 : isAggT Try.prog 22 = some false := idr (by kernel_rfl)
theorem tE22 : elemT Try.prog 22 = some (1, 1) := idr (by kernel_rfl)
theorem tZ22 : zsizeT Try.prog 22 = some 1 := idr (by kernel_rfl)
theorem tz22 : zeroA Try.prog 22 = some [.nilsl 1] := by kernel_rfl
theorem tv22 : zeroV Try.prog 22 = some (.nilsl 1) := idr (by kernel_rfl)
theorem tU24 : Try.prog.underlying 24 = some (.slice 3) := idr (by kernel_rfl)
theorem tS24 : sizeT Try.prog 24 = some 1 := idr (by kernel_rfl)
theorem tA24 : isAggT Try.prog 24 = some false := idr (by kernel_rfl)
theorem tE24 : elemT Try.prog 24 = some (1, 8) := idr (by kernel_rfl)
theorem tZ24 : zsizeT Try.prog 24 = some 1 := idr (by kernel_rfl)
theorem tz24 : zeroA Try.prog 24 = some [.nilsl 1] := by kernel_rfl
theorem tv24 : zeroV Try.prog 24 = some (.nilsl 1) := idr (by kernel_rfl)
theorem tU26 : Try.prog.underlying 26 = some (.int .i64) := idr (by kernel_rfl)
theorem tS26 : sizeT Try.prog 26 = some 1 := idr (by kernel_rfl)
theorem tA26 : isAggT Try.prog 26 = some false := idr (by kernel_rfl)
theorem tz26 : zeroA Try.prog 26 = some [.d (.int .i64 0)] := by kernel_rfl
theorem tv26 : zeroV Try.prog 26 = some (.d (.int .i64 0)) := idr (by kernel_rfl)
theorem tS27 : sizeT Try.prog 27 = some 1 := idr (by kernel_rfl)
theorem tA27 : isAggT Try.prog 27 = some false := idr (by kernel_rfl)
theorem tU30 : Try.prog.underlying 30 = some (.slice 22) := idr (by kernel_rfl)
theorem tS30 : sizeT Try.prog 30 = some 1 := idr (by kernel_rfl)
theorem tA30 : isAggT Try.prog 30 = some false := idr (by kernel_rfl)
theorem tE30 : elemT Try.prog 30 = some (1, 24) := idr (by kernel_rfl)
theorem tZ30 : zsizeT Try.prog 30 = some 1 := idr (by kernel_rfl)
theorem tz30 : zeroA Try.prog 30 = some [.nilsl 1] := by kernel_rfl
theorem tv30 : zeroV Try.prog 30 = some (.nilsl 1) := idr (by kernel_rfl)
theorem tU32 : Try.prog.underlying 32 = some (.int .u16) := idr (by kernel_rfl)
theorem tS32 : sizeT Try.prog 32 = some 1 := idr (by kernel_rfl)
theorem tA32 : isAggT Try.prog 32 = some false := idr (by kernel_rfl)
theorem tz32 : zeroA Try.prog 32 = some [.d (.int .u16 0)] := by kernel_rfl
theorem tv32 : zeroV Try.prog 32 = some (.d (.int .u16 0)) := idr (by kernel_rfl)
theorem tS35 : sizeT Try.prog 35 = some 1 := idr (by kernel_rfl)
theorem tA35 : isAggT Try.prog 35 = some false := idr (by kernel_rfl)
theorem tU40 : Try.prog.underlying 40 = some (.slice 32) := idr (by kernel_rfl)
theorem tS40 : sizeT Try.prog 40 = some 1 := idr (by kernel_rfl)
theorem tA40 : isAggT Try.prog 40 = some false := idr (by kernel_rfl)
theorem tE40 : elemT Try.prog 40 = some (1, 2) := idr (by kernel_rfl)
theorem tZ40 : zsizeT Try.prog 40 = some 1 := idr (by kernel_rfl)
theorem tz40 : zeroA Try.prog 40 = some [.nilsl 1] := by kernel_rfl
theorem tv40 : zeroV Try.prog 40 = some (.nilsl 1) := idr (by kernel_rfl)
theorem tS44 : sizeT Try.prog 44 = some 1 := idr (by kernel_rfl)
theorem tA44 : isAggT Try.prog 44 = some false := idr (by kernel_rfl)
theorem tU47 : Try.prog.underlying 47 = some (.int .u64) := idr (by kernel_rfl)
theorem tS47 : sizeT Try.prog 47 = some 1 := idr (by kernel_rfl)
theorem tA47 : isAggT Try.prog 47 = some false := idr (by kernel_rfl)
theorem tz47 : zeroA Try.prog 47 = some [.d (.int .u64 0)] := by kernel_rfl
theorem tv47 : zeroV Try.prog 47 = some (.d (.int .u64 0)) := idr (by kernel_rfl)
theorem tU48 : Try.prog.underlying 48 = some (.int .u64) := idr (by kernel_rfl)
theorem tS48 : sizeT Try.prog 48 = some 1 := idr (by kernel_rfl)
theorem tA48 : isAggT Try.prog 48 = some false := idr (by kernel_rfl)
theorem tz48 : zeroA Try.prog 48 = some [.d (.int .u64 0)] := by kernel_rfl
theorem tv48 : zeroV Try.prog 48 = some (.d (.int .u64 0)) := idr (by kernel_rfl)
theorem tU53 : Try.prog.underlying 53 = some (.slice 48) := idr (by kernel_rfl)
theorem tS53 : sizeT Try.prog 53 = some 1 := idr (by kernel_rfl)
theorem tA53 : isAggT Try.prog 53 = some false := idr (by kernel_rfl)
theorem tE53 : elemT Try.prog 53 = some (1, 8) := idr (by kernel_rfl)
theorem tZ53 : zsizeT Try.prog 53 = some 1 := idr (by kernel_rfl)
theorem tz53 : zeroA Try.prog 53 = some [.nilsl 1] := by kernel_rfl
theorem tv53 : zeroV Try.prog 53 = some (.nilsl 1) := idr (by kernel_rfl)
theorem tS54 : sizeT Try.prog 54 = some 1 := idr (by kernel_rfl)
theorem tA54 : isAggT Try.prog 54 = some false := idr (by kernel_rfl)
theorem tS66 : sizeT Try.prog 66 = some 1 := idr (by kernel_rfl)
theorem tA66 : isAggT Try.prog 66 = some false := idr (by kernel_rfl)
theorem tU68 : Try.prog.underlying 68 = some (.map 48 4) := idr (by kernel_rfl)
theorem tS68 : sizeT Try.prog 68 = some 1 := idr (by kernel_rfl)
theorem tA68 : isAggT Try.prog 68 = some false := idr (by kernel_rfl)
theorem tz68 : zeroA Try.prog 68 = some [.nilm] := by kernel_rfl
theorem tv68 : zeroV Try.prog 68 = some (.nilm) := idr (by kernel_rfl)
theorem tM68 : mapT Try.prog 68 = some (48, 4) := idr (by kernel_rfl)
theorem n3 : Hs.own 3 = false := idr (by kernel_rfl)
theorem i3 : Hs.inPlace 3 = false := idr (by kernel_rfl)
theorem n4 : Hs.own 4 = false := idr (by kernel_rfl)
theorem i4 : Hs.inPlace 4 = false := idr (by kernel_rfl)
theorem n8 : Hs.own 8 = false := idr (by kernel_rfl)
theorem i8 : Hs.inPlace 8 = false := idr (by kernel_rfl)
theorem n9 : Hs.own 9 = false := idr (by kernel_rfl)
theorem i9 : Hs.inPlace 9 = false := idr (by kernel_rfl)
theorem n10 : Hs.own 10 = false := idr (by kernel_rfl)
theorem i10 : Hs.inPlace 10 = false := idr (by kernel_rfl)
theorem n11 : Hs.own 11 = false := idr (by kernel_rfl)
theorem i11 : Hs.inPlace 11 = false := idr (by kernel_rfl)
theorem n12 : Hs.own 12 = false := idr (by kernel_rfl)
theorem i12 : Hs.inPlace 12 = false := idr (by kernel_rfl)
theorem n15 : Hs.own 15 = false := idr (by kernel_rfl)
theorem i15 : Hs.inPlace 15 = false := idr (by kernel_rfl)
theorem n16 : Hs.own 16 = false := idr (by kernel_rfl)
theorem i16 : Hs.inPlace 16 = false := idr (by kernel_rfl)
theorem n17 : Hs.own 17 = false := idr (by kernel_rfl)
theorem i17 : Hs.inPlace 17 = false := idr (by kernel_rfl)
theorem n18 : Hs.own 18 = false := idr (by kernel_rfl)
theorem i18 : Hs.inPlace 18 = false := idr (by kernel_rfl)
theorem n19 : Hs.own 19 = false := idr (by kernel_rfl)
theorem i19 : Hs.inPlace 19 = false := idr (by kernel_rfl)
theorem n20 : Hs.own 20 = false := idr (by kernel_rfl)
theorem i20 : Hs.inPlace 20 = false := idr (by kernel_rfl)
theorem n22 : Hs.own 22 = false := idr (by kernel_rfl)
theorem i22 : Hs.inPlace 22 = false := idr (by kernel_rfl)
theorem n24 : Hs.own 24 = false := idr (by kernel_rfl)
theorem i24 : Hs.inPlace 24 = false := idr (by kernel_rfl)
theorem n26 : Hs.own 26 = false := idr (by kernel_rfl)
theorem i26 : Hs.inPlace 26 = false := idr (by kernel_rfl)
theorem n28 : Hs.own 28 = false := idr (by kernel_rfl)
theorem i28 : Hs.inPlace 28 = false := idr (by kernel_rfl)
theorem n29 : Hs.own 29 = false := idr (by kernel_rfl)
theorem i29 : Hs.inPlace 29 = false := idr (by kernel_rfl)
theorem n30 : Hs.own 30 = false := idr (by kernel_rfl)
theorem i30 : Hs.inPlace 30 = false := idr (by kernel_rfl)
theorem n31 : Hs.own 31 = false := idr (by kernel_rfl)
theorem i31 : Hs.inPlace 31 = false := idr (by kernel_rfl)
theorem n32 : Hs.own 32 = false := idr (by kernel_rfl)
theorem i32 : Hs.inPlace 32 = false := idr (by kernel_rfl)
theorem n33 : Hs.own 33 = false := idr (by kernel_rfl)
theorem i33 : Hs.inPlace 33 = false := idr (by kernel_rfl)
theorem n34 : Hs.own 34 = false := idr (by kernel_rfl)
theorem i34 : Hs.inPlace 34 = false := idr (by kernel_rfl)
theorem n35 : Hs.own 35 = false := idr (by kernel_rfl)
theorem i35 : Hs.inPlace 35 = false := idr (by kernel_rfl)
theorem n36 : Hs.own 36 = false := idr (by kernel_rfl)
theorem i36 : Hs.inPlace 36 = false := idr (by kernel_rfl)
theorem n37 : Hs.own 37 = false := idr (by kernel_rfl)
theorem i37 : Hs.inPlace 37 = false := idr (by kernel_rfl)
theorem n38 : Hs.own 38 = false := idr (by kernel_rfl)
theorem i38 : Hs.inPlace 38 = false := idr (by kernel_rfl)
theorem n39 : Hs.own 39 = false := idr (by kernel_rfl)
theorem i39 : Hs.inPlace 39 = false := idr (by kernel_rfl)
theorem n40 : Hs.own 40 = false := idr (by kernel_rfl)
theorem i40 : Hs.inPlace 40 = false := idr (by kernel_rfl)
theorem n41 : Hs.own 41 = true := idr (by kernel_rfl)
theorem i41 : Hs.inPlace 41 = false := idr (by kernel_rfl)
theorem n46 : Hs.own 46 = false := idr (by kernel_rfl)
theorem i46 : Hs.inPlace 46 = false := idr (by kernel_rfl)
theorem n47 : Hs.own 47 = false := idr (by kernel_rfl)
theorem i47 : Hs.inPlace 47 = false := idr (by kernel_rfl)
theorem n48 : Hs.own 48 = false := idr (by kernel_rfl)
theorem i48 : Hs.inPlace 48 = false := idr (by kernel_rfl)
theorem n50 : Hs.own 50 = false := idr (by kernel_rfl)
theorem i50 : Hs.inPlace 50 = false := idr (by kernel_rfl)
theorem n51 : Hs.own 51 = false := idr (by kernel_rfl)
theorem i51 : Hs.inPlace 51 = false := idr (by kernel_rfl)
theorem n52 : Hs.own 52 = false := idr (by kernel_rfl)
theorem i52 : Hs.inPlace 52 = false := idr (by kernel_rfl)
theorem n53 : Hs.own 53 = true := idr (by kernel_rfl)
theorem i53 : Hs.inPlace 53 = false := idr (by kernel_rfl)
theorem n55 : Hs.own 55 = false := idr (by kernel_rfl)
theorem i55 : Hs.inPlace 55 = false := idr (by kernel_rfl)
theorem n56 : Hs.own 56 = false := idr (by kernel_rfl)
theorem i56 : Hs.inPlace 56 = false := idr (by kernel_rfl)
theorem evTy0 : type_of% tS0 ∧ type_of% tA0 ∧ type_of% tU3 ∧ type_of% tS3 ∧ type_of% tA3 ∧ type_of% tz3 ∧ type_of% tv3 ∧ type_of% tU4 ∧ type_of% tS4 ∧ type_of% tA4 ∧ type_of% tz4 ∧ type_of% tv4 ∧ type_of% tU5 ∧ type_of% tS5 ∧ type_of% tA5 ∧ type_of% tz5 ∧ type_of% tv5 ∧ type_of% tU9 ∧ type_of% tS9 ∧ type_of% tA9 ∧ type_of% tz9 ∧ type_of% tv9 ∧ type_of% tU22 ∧ type_of% tS22 ∧ type_of% tA22 ∧ type_of% tE22 ∧ type_of% tZ22 ∧ type_of% tz22 ∧ type_of% tv22 ∧ type_of% tU24 ∧ type_of% tS24 ∧ type_of% tA24 ∧ type_of% tE24 ∧ type_of% tZ24 ∧ type_of% tz24 ∧ type_of% tv24 ∧ type_of% tU26 ∧ type_of% tS26 ∧ type_of% tA26 ∧ type_of% tz26 ∧ type_of% tv26 ∧ type_of% tS27 ∧ type_of% tA27 ∧ type_of% tU30 ∧ type_of% tS30 ∧ type_of% tA30 ∧ type_of% tE30 ∧ type_of% tZ30 ∧ type_of% tz30 ∧ type_of% tv30 ∧ type_of% tU32 ∧ type_of% tS32 ∧ type_of% tA32 ∧ type_of% tz32 ∧ type_of% tv32 ∧ type_of% tS35 ∧ type_of% tA35 ∧ type_of% tU40 ∧ type_of% tS40 ∧ type_of% tA40 :=
  ⟨tS0, tA0, tU3, tS3, tA3, tz3, tv3, tU4, tS4, tA4, tz4, tv4, tU5, tS5, tA5, tz5, tv5, tU9, tS9, tA9, tz9, tv9, tU22, tS22, tA22, tE22, tZ22, tz22, tv22, tU24, tS24, tA24, tE24, tZ24, tz24, tv24, tU26, tS26, tA26, tz26, tv26, tS27, tA27, tU30, tS30, tA30, tE30, tZ30, tz30, tv30, tU32, tS32, tA32, tz32, tv32, tS35, tA35, tU40, tS40, tA40⟩
theorem evTy1 : type_of% tE40 ∧ type_of% tZ40 ∧ type_of% tz40 ∧ type_of% tv40 ∧ type_of% tS44 ∧ type_of% tA44 ∧ type_of% tU47 ∧ type_of% tS47 ∧ type_of% tA47 ∧ type_of% tz47 ∧ type_of% tv47 ∧ type_of% tU48 ∧ type_of% tS48 ∧ type_of% tA48 ∧ type_of% tz48 ∧ type_of% tv48 ∧ type_of% tU53 ∧ type_of% tS53 ∧ type_of% tA53 ∧ type_of% tE53 ∧ type_of% tZ53 ∧ type_of% tz53 ∧ type_of% tv53 ∧ type_of% tS54 ∧ type_of% tA54 ∧ type_of% tS66 ∧ type_of% tA66 ∧ type_of% tU68 ∧ type_of% tS68 ∧ type_of% tA68 ∧ type_of% tz68 ∧ type_of% tv68 ∧ type_of% tM68 ∧ type_of% n3 ∧ type_of% i3 ∧ type_of% n4 ∧ type_of% i4 ∧ type_of% n8 ∧ type_of% i8 ∧ type_of% n9 ∧ type_of% i9 ∧ type_of% n10 ∧ type_of% i10 ∧ type_of% n11 ∧ type_of% i11 ∧ type_of% n12 ∧ type_of% i12 ∧ type_of% n15 ∧ type_of% i15 ∧ type_of% n16 ∧ type_of% i16 ∧ type_of% n17 ∧ type_of% i17 ∧ type_of% n18 ∧ type_of% i18 ∧ type_of% n19 ∧ type_of% i19 ∧ type_of% n20 ∧ type_of% i20 ∧ type_of% n22 :=
  ⟨tE40, tZ40, tz40, tv40, tS44, tA44, tU47, tS47, tA47, tz47, tv47, tU48, tS48, tA48, tz48, tv48, tU53, tS53, tA53, tE53, tZ53, tz53, tv53, tS54, tA54, tS66, tA66, tU68, tS68, tA68, tz68, tv68, tM68, n3, i3, n4, i4, n8, i8, n9, i9, n10, i10, n11, i11, n12, i12, n15, i15, n16, i16, n17, i17, n18, i18, n19, i19, n20, i20, n22⟩
theorem evTy2 : type_of% i22 ∧ type_of% n24 ∧ type_of% i24 ∧ type_of% n26 ∧ type_of% i26 ∧ type_of% n28 ∧ type_of% i28 ∧ type_of% n29 ∧ type_of% i29 ∧ type_of% n30 ∧ type_of% i30 ∧ type_of% n31 ∧ type_of% i31 ∧ type_of% n32 ∧ type_of% i32 ∧ type_of% n33 ∧ type_of% i33 ∧ type_of% n34 ∧ type_of% i34 ∧ type_of% n35 ∧ type_of% i35 ∧ type_of% n36 ∧ type_of% i36 ∧ type_of% n37 ∧ type_of% i37 ∧ type_of% n38 ∧ type_of% i38 ∧ type_of% n39 ∧ type_of% i39 ∧ type_of% n40 ∧ type_of% i40 ∧ type_of% n41 ∧ type_of% i41 ∧ type_of% n46 ∧ type_of% i46 ∧ type_of% n47 ∧ type_of% i47 ∧ type_of% n48 ∧ type_of% i48 ∧ type_of% n50 ∧ type_of% i50 ∧ type_of% n51 ∧ type_of% i51 ∧ type_of% n52 ∧ type_of% i52 ∧ type_of% n53 ∧ type_of% i53 ∧ type_of% n55 ∧ type_of% i55 ∧ type_of% n56 ∧ type_of% i56 :=
  ⟨i22, n24, i24, n26, i26, n28, i28, n29, i29, n30, i30, n31, i31, n32, i32, n33, i33, n34, i34, n35, i35, n36, i36, n37, i37, n38, i38, n39, i39, n40, i40, n41, i41, n46, i46, n47, i47, n48, i48, n50, i50, n51, i51, n52, i52, n53, i53, n55, i55, n56, i56⟩
/-! 3 kerbsuite/kerbsuitelaw8.HeaderPuts -/
def s3_0 : SC :=
  (.seq (.seq (.reg [⟨(some 20), .move (.tmp 9), 3, none, []⟩,
    ⟨(some 21), .binOp .lss 3 (.tmp 20) (.const (.int .i64 2)) 3, 4, none, []⟩])
  (.cond (.tmp 21)
    .skip
    (.exit 0)))
  (.seq (.block 1 (.seq (.reg [⟨(some 24), .move (.tmp 0), 3, none, []⟩,
    ⟨(some 25), .move (.tmp 1), 5, none, []⟩,
    ⟨(some 26), .convert 5 3 (.tmp 25), 3, none, []⟩,
    ⟨(some 27), .binOp .rem 3 (.tmp 26) (.const (.int .i64 13)) 3, 3, none, []⟩,
    ⟨(some 28), .buildSlice 24 2 #[(0, (.tmp 24)), (1, (.tmp 27))], 24, none, []⟩,
    ⟨(some 29), .move (.tmp 9), 3, none, []⟩,
    ⟨(some 30), .indexAddr 24 (.tmp 28) (.tmp 29), 0, none, []⟩,
    ⟨(some 31), .load 3 (.tmp 30), 3, none, []⟩,
    ⟨(some 10), .assign (.tmp 31), 3, none, []⟩])
  (.seq (.reg [⟨(some 32), .move (.tmp 10), 3, none, []⟩,
    ⟨(some 33), .move (.tmp 2), 4, none, []⟩,
    ⟨(some 34), .call ⟨.value (.func 16), #[(.tmp 32), (.tmp 33)], #[3, 4]⟩, 22, none, []⟩,
    ⟨(some 11), .assign (.tmp 34), 22, none, []⟩])
  (.seq (.seq (.drw [(⟨(some 35), .move (.tmp 11), 22, none, []⟩, []),
    (⟨(some 36), .convert 22 9 (.tmp 35), 9, none, []⟩, []),
    (⟨(some 37), .move (.tmp 10), 3, none, []⟩, [1]),
    (⟨(some 38), .move (.tmp 2), 4, none, []⟩, [1]),
    (⟨(some 39), .call ⟨.value (.func 17), #[(.tmp 37), (.tmp 38)], #[3, 4]⟩, 22, none, []⟩, [0, 1]),
    (⟨(some 40), .convert 22 9 (.tmp 39), 9, none, []⟩, [0, 1]),
    (⟨(some 41), .binOp .neq 9 (.tmp 36) (.tmp 40) 9, 4, none, []⟩, [])])
  (.cond (.tmp 41)
    (.seq (.reg [⟨(some 8), .assign (.const (.bool false)), 4, none, []⟩])
    .ret)
    .skip))
  (.seq (.seq (.reg [⟨(some 42), .move (.tmp 11), 22, none, []⟩,
    ⟨(some 43), .call ⟨.builtin .len, #[(.tmp 42)], #[22]⟩, 3, none, []⟩,
    ⟨(some 44), .binOp .eql 3 (.tmp 43) (.const (.int .i64 0)) 3, 4, none, []⟩])
  (.cond (.tmp 44)
    (.exit 1)
    .skip))
  (.seq (.reg [⟨(some 46), .buildSlice 22 0 #[], 22, none, []⟩,
    ⟨(some 47), .move (.tmp 11), 22, none, []⟩,
    ⟨(some 48), .call ⟨.builtin .append, #[(.tmp 46), (.tmp 47)], #[22, 22]⟩, 22, none, []⟩,
    ⟨(some 49), .move (.tmp 3), 22, none, []⟩,
    ⟨(some 50), .call ⟨.builtin .append, #[(.tmp 48), (.tmp 49)], #[22, 22]⟩, 22, none, []⟩,
    ⟨(some 51), .call ⟨.value (.func 18), #[(.tmp 50)], #[22]⟩, 27, none, []⟩,
    ⟨(some 45), .move (.tmp 51), 27, none, []⟩,
    ⟨(some 52), .extract (.tmp 45) 0, 3, none, []⟩,
    ⟨(some 53), .extract (.tmp 45) 1, 4, none, []⟩,
    ⟨(some 54), .extract (.tmp 45) 2, 26, none, []⟩,
    ⟨(some 12), .assign (.tmp 52), 3, none, []⟩,
    ⟨(some 13), .assign (.tmp 53), 4, none, []⟩,
    ⟨(some 14), .assign (.tmp 54), 26, none, []⟩])
  (.seq (.reg [⟨(some 55), .move (.tmp 14), 26, none, []⟩,
    ⟨(some 56), .binOp .neq 26 (.tmp 55) (.const (.int .i64 0)) 26, 4, none, []⟩,
    ⟨(some 57), .move (.tmp 56), 4, none, []⟩,
    ⟨(some 58), .move (.tmp 12), 3, some (57, false), []⟩,
    ⟨(some 59), .move (.tmp 10), 3, some (57, false), []⟩,
    ⟨(some 60), .binOp .neq 3 (.tmp 58) (.tmp 59) 3, 4, some (57, false), []⟩,
    ⟨(some 61), .pick (.tmp 57) (.const (.bool true)) (.tmp 60), 4, none, []⟩,
    ⟨(some 62), .move (.tmp 61), 4, none, []⟩,
    ⟨(some 63), .move (.tmp 13), 4, some (62, false), []⟩,
    ⟨(some 64), .move (.tmp 2), 4, some (62, false), []⟩,
    ⟨(some 65), .binOp .neq 4 (.tmp 63) (.tmp 64) 4, 4, some (62, false), []⟩,
    ⟨(some 66), .pick (.tmp 62) (.const (.bool true)) (.tmp 65), 4, none, []⟩])
  (.cond (.tmp 66)
    (.seq (.reg [⟨(some 8), .assign (.const (.bool false)), 4, none, []⟩])
    .ret)
    .skip))))))))
  (.reg [⟨(some 22), .move (.tmp 9), 3, none, []⟩,
    ⟨(some 23), .binOp .add 3 (.tmp 22) (.const (.int .i64 1)) 3, 3, none, []⟩,
    ⟨(some 9), .assign (.tmp 23), 3, none, []⟩])))
def s3 : SC :=
  (.seq (.reg [⟨(some 8), .assign (.const (.bool false)), 4, none, []⟩])
  (.seq (.seq (.reg [⟨(some 15), .call ⟨.value (.func 15), #[], #[]⟩, 4, none, []⟩,
    ⟨(some 16), .unOp .not 4 (.tmp 15), 4, none, []⟩])
  (.cond (.tmp 16)
    (.seq (.reg [⟨(some 8), .assign (.const (.bool false)), 4, none, []⟩])
    .ret)
    .skip))
  (.seq (.seq (.reg [⟨(some 17), .move (.tmp 3), 22, none, []⟩,
    ⟨(some 18), .call ⟨.builtin .len, #[(.tmp 17)], #[22]⟩, 3, none, []⟩,
    ⟨(some 19), .binOp .gtr 3 (.tmp 18) (.const (.int .i64 100)) 3, 4, none, []⟩])
  (.cond (.tmp 19)
    (.seq (.reg [⟨(some 8), .assign (.const (.bool true)), 4, none, []⟩])
    .ret)
    .skip))
  (.seq (.seq (.reg [⟨(some 9), .assign (.const (.int .i64 0)), 3, none, []⟩])
  (.block 0 (.loop (some ([0, 1, 2, 3, 9], 0)) s3_0)))
  (.seq (.reg [⟨(some 8), .assign (.const (.bool true)), 4, none, []⟩])
  .ret)))))
theorem l3 : slimF Hs 3 Try.f3 = some (67, s3, [.tmp 8]) := by kernel_rfl

/-! 4 kerbsuite/kerbsuitelaw8.HeaderReads -/
def s4_0 : SC :=
  (.seq (.seq (.reg [⟨(some 35), .move (.tmp 8), 3, none, []⟩,
    ⟨(some 36), .move (.tmp 7), 30, none, []⟩,
    ⟨(some 37), .call ⟨.builtin .len, #[(.tmp 36)], #[30]⟩, 3, none, []⟩,
    ⟨(some 38), .binOp .lss 3 (.tmp 35) (.tmp 37) 3, 4, none, []⟩])
  (.cond (.tmp 38)
    .skip
    (.exit 0)))
  (.seq (.block 1 (.seq (.reg [⟨(some 42), .move (.tmp 7), 30, none, []⟩,
    ⟨(some 43), .move (.tmp 8), 3, none, []⟩,
    ⟨(some 44), .indexAddr 30 (.tmp 42) (.tmp 43), 0, none, []⟩,
    ⟨(some 45), .load 22 (.tmp 44), 22, none, []⟩,
    ⟨(some 46), .call ⟨.value (.func 18), #[(.tmp 45)], #[22]⟩, 27, none, []⟩,
    ⟨(some 41), .move (.tmp 46), 27, none, []⟩,
    ⟨(some 47), .extract (.tmp 41) 0, 3, none, []⟩,
    ⟨(some 48), .extract (.tmp 41) 1, 4, none, []⟩,
    ⟨(some 49), .extract (.tmp 41) 2, 26, none, []⟩,
    ⟨(some 9), .assign (.tmp 47), 3, none, []⟩,
    ⟨(some 10), .assign (.tmp 48), 4, none, []⟩,
    ⟨(some 11), .assign (.tmp 49), 26, none, []⟩])
  (.seq (.reg [⟨(some 51), .move (.tmp 7), 30, none, []⟩,
    ⟨(some 52), .move (.tmp 8), 3, none, []⟩,
    ⟨(some 53), .indexAddr 30 (.tmp 51) (.tmp 52), 0, none, []⟩,
    ⟨(some 54), .load 22 (.tmp 53), 22, none, []⟩,
    ⟨(some 55), .call ⟨.value (.func 19), #[(.tmp 54)], #[22]⟩, 27, none, []⟩,
    ⟨(some 50), .move (.tmp 55), 27, none, []⟩,
    ⟨(some 56), .extract (.tmp 50) 0, 3, none, []⟩,
    ⟨(some 57), .extract (.tmp 50) 1, 4, none, []⟩,
    ⟨(some 58), .extract (.tmp 50) 2, 26, none, []⟩,
    ⟨(some 12), .assign (.tmp 56), 3, none, []⟩,
    ⟨(some 13), .assign (.tmp 57), 4, none, []⟩,
    ⟨(some 14), .assign (.tmp 58), 26, none, []⟩])
  (.seq (.reg [⟨(some 59), .move (.tmp 9), 3, none, []⟩,
    ⟨(some 60), .move (.tmp 12), 3, none, []⟩,
    ⟨(some 61), .binOp .neq 3 (.tmp 59) (.tmp 60) 3, 4, none, []⟩,
    ⟨(some 62), .move (.tmp 61), 4, none, []⟩,
    ⟨(some 63), .move (.tmp 10), 4, some (62, false), []⟩,
    ⟨(some 64), .move (.tmp 13), 4, some (62, false), []⟩,
    ⟨(some 65), .binOp .neq 4 (.tmp 63) (.tmp 64) 4, 4, some (62, false), []⟩,
    ⟨(some 66), .pick (.tmp 62) (.const (.bool true)) (.tmp 65), 4, none, []⟩,
    ⟨(some 67), .move (.tmp 66), 4, none, []⟩,
    ⟨(some 68), .move (.tmp 11), 26, some (67, false), []⟩,
    ⟨(some 69), .move (.tmp 14), 26, some (67, false), []⟩,
    ⟨(some 70), .binOp .neq 26 (.tmp 68) (.tmp 69) 26, 4, some (67, false), []⟩,
    ⟨(some 71), .pick (.tmp 67) (.const (.bool true)) (.tmp 70), 4, none, []⟩])
  (.cond (.tmp 71)
    (.seq (.reg [⟨(some 6), .assign (.const (.bool false)), 4, none, []⟩])
    .ret)
    .skip)))))
  (.reg [⟨(some 39), .move (.tmp 8), 3, none, []⟩,
    ⟨(some 40), .binOp .add 3 (.tmp 39) (.const (.int .i64 1)) 3, 3, none, []⟩,
    ⟨(some 8), .assign (.tmp 40), 3, none, []⟩])))
def s4 : SC :=
  (.seq (.reg [⟨(some 6), .assign (.const (.bool false)), 4, none, []⟩])
  (.seq (.seq (.reg [⟨(some 15), .call ⟨.value (.func 15), #[], #[]⟩, 4, none, []⟩,
    ⟨(some 16), .unOp .not 4 (.tmp 15), 4, none, []⟩])
  (.cond (.tmp 16)
    (.seq (.reg [⟨(some 6), .assign (.const (.bool false)), 4, none, []⟩])
    .ret)
    .skip))
  (.seq (.seq (.reg [⟨(some 17), .move (.tmp 0), 22, none, []⟩,
    ⟨(some 18), .call ⟨.builtin .len, #[(.tmp 17)], #[22]⟩, 3, none, []⟩,
    ⟨(some 19), .binOp .gtr 3 (.tmp 18) (.const (.int .i64 100)) 3, 4, none, []⟩])
  (.cond (.tmp 19)
    (.seq (.reg [⟨(some 6), .assign (.const (.bool true)), 4, none, []⟩])
    .ret)
    .skip))
  (.seq (.reg [⟨(some 20), .move (.tmp 0), 22, none, []⟩,
    ⟨(some 21), .move (.tmp 2), 5, none, []⟩,
    ⟨(some 22), .buildSlice 22 2 #[(0, (.const (.int .u8 4))), (1, (.tmp 21))], 22, none, []⟩,
    ⟨(some 23), .move (.tmp 2), 5, none, []⟩,
    ⟨(some 24), .binOp .rem 5 (.tmp 23) (.const (.int .u8 24)) 5, 5, none, []⟩,
    ⟨(some 25), .move (.tmp 1), 5, none, []⟩,
    ⟨(some 26), .buildSlice 22 3 #[(0, (.const (.int .u8 4))), (1, (.tmp 24)), (2, (.tmp 25))], 22, none, []⟩,
    ⟨(some 27), .move (.tmp 1), 5, none, []⟩,
    ⟨(some 28), .binOp .rem 5 (.tmp 27) (.const (.int .u8 6)) 5, 5, none, []⟩,
    ⟨(some 29), .move (.tmp 2), 5, none, []⟩,
    ⟨(some 30), .binOp .rem 5 (.tmp 29) (.const (.int .u8 24)) 5, 5, none, []⟩,
    ⟨(some 31), .buildSlice 22 2 #[(0, (.tmp 28)), (1, (.tmp 30))], 22, none, []⟩,
    ⟨(some 32), .move (.tmp 1), 5, none, []⟩,
    ⟨(some 33), .buildSlice 22 1 #[(0, (.tmp 32))], 22, none, []⟩,
    ⟨(some 34), .buildSlice 30 5 #[(0, (.tmp 20)), (1, (.tmp 22)), (2, (.tmp 26)), (3, (.tmp 31)), (4, (.tmp 33))], 30, none, []⟩,
    ⟨(some 7), .assign (.tmp 34), 30, none, []⟩])
  (.seq (.seq (.reg [⟨(some 8), .assign (.const (.int .i64 0)), 3, none, []⟩])
  (.block 0 (.loop (some ([7, 8], 0)) s4_0)))
  (.seq (.reg [⟨(some 6), .assign (.const (.bool true)), 4, none, []⟩])
  .ret))))))
theorem l4 : slimF Hs 4 Try.f4 = some (72, s4, [.tmp 6]) := by kernel_rfl

/-! 8 kerbsuite/kerbsuitelaw2.LifetimeMonotone -/
def s8_0 : SC :=
  (.seq (.seq (.reg [⟨(some 23), .move (.tmp 11), 3, none, []⟩,
    ⟨(some 24), .move (.tmp 3), 40, none, []⟩,
    ⟨(some 25), .call ⟨.builtin .len, #[(.tmp 24)], #[40]⟩, 3, none, []⟩,
    ⟨(some 26), .binOp .lss 3 (.tmp 23) (.tmp 25) 3, 4, none, []⟩])
  (.cond (.tmp 26)
    .skip
    (.exit 0)))
  (.seq (.block 1 (.seq (.reg [⟨(some 29), .move (.tmp 9), 24, none, []⟩,
    ⟨(some 30), .move (.tmp 0), 32, none, []⟩,
    ⟨(some 31), .convert 32 3 (.tmp 30), 3, none, []⟩,
    ⟨(some 32), .move (.tmp 3), 40, none, []⟩,
    ⟨(some 33), .move (.tmp 11), 3, none, []⟩,
    ⟨(some 34), .indexAddr 40 (.tmp 32) (.tmp 33), 0, none, []⟩,
    ⟨(some 35), .load 32 (.tmp 34), 32, none, []⟩,
    ⟨(some 36), .convert 32 3 (.tmp 35), 3, none, []⟩,
    ⟨(some 37), .binOp .add 3 (.tmp 31) (.tmp 36) 3, 3, none, []⟩,
    ⟨(some 38), .buildSlice 24 1 #[(0, (.tmp 37))], 24, none, []⟩,
    ⟨(some 39), .call ⟨.builtin .append, #[(.tmp 29), (.tmp 38)], #[24, 24]⟩, 24, none, []⟩,
    ⟨(some 9), .assign (.tmp 39), 24, none, []⟩])
  (.reg [⟨(some 40), .move (.tmp 10), 24, none, []⟩,
    ⟨(some 41), .move (.tmp 0), 32, none, []⟩,
    ⟨(some 42), .convert 32 3 (.tmp 41), 3, none, []⟩,
    ⟨(some 43), .move (.tmp 3), 40, none, []⟩,
    ⟨(some 44), .move (.tmp 11), 3, none, []⟩,
    ⟨(some 45), .indexAddr 40 (.tmp 43) (.tmp 44), 0, none, []⟩,
    ⟨(some 46), .load 32 (.tmp 45), 32, none, []⟩,
    ⟨(some 47), .convert 32 3 (.tmp 46), 3, none, []⟩,
    ⟨(some 48), .binOp .add 3 (.tmp 42) (.tmp 47) 3, 3, none, []⟩,
    ⟨(some 49), .move (.tmp 2), 32, none, []⟩,
    ⟨(some 50), .convert 32 3 (.tmp 49), 3, none, []⟩,
    ⟨(some 51), .binOp .add 3 (.tmp 48) (.tmp 50) 3, 3, none, []⟩,
    ⟨(some 52), .buildSlice 24 1 #[(0, (.tmp 51))], 24, none, []⟩,
    ⟨(some 53), .call ⟨.builtin .append, #[(.tmp 40), (.tmp 52)], #[24, 24]⟩, 24, none, []⟩,
    ⟨(some 10), .assign (.tmp 53), 24, none, []⟩])))
  (.reg [⟨(some 27), .move (.tmp 11), 3, none, []⟩,
    ⟨(some 28), .binOp .add 3 (.tmp 27) (.const (.int .i64 1)) 3, 3, none, []⟩,
    ⟨(some 11), .assign (.tmp 28), 3, none, []⟩])))
def s8_1 : SC :=
  (.seq (.seq (.reg [⟨(some 92), .move (.tmp 14), 4, none, []⟩,
    ⟨(some 93), .move (.tmp 92), 4, none, []⟩,
    ⟨(some 94), .move (.tmp 17), 3, some (93, true), []⟩,
    ⟨(some 95), .move (.tmp 9), 24, some (93, true), []⟩,
    ⟨(some 96), .call ⟨.builtin .len, #[(.tmp 95)], #[24]⟩, 3, some (93, true), []⟩,
    ⟨(some 97), .binOp .lss 3 (.tmp 94) (.tmp 96) 3, 4, some (93, true), []⟩,
    ⟨(some 98), .pick (.tmp 93) (.tmp 97) (.const (.bool false)), 4, none, []⟩])
  (.cond (.tmp 98)
    .skip
    (.exit 2)))
  (.seq (.block 3 (.seq (.drw [(⟨(some 101), .move (.tmp 0), 32, none, []⟩, []),
    (⟨(some 102), .convert 32 3 (.tmp 101), 3, none, []⟩, []),
    (⟨(some 103), .move (.tmp 13), 3, none, []⟩, [1]),
    (⟨(some 104), .call ⟨.value (.func 22), #[(.tmp 102), (.tmp 103)], #[3, 3]⟩, 3, none, []⟩, []),
    (⟨(some 105), .move (.tmp 9), 24, none, []⟩, [1, 3]),
    (⟨(some 106), .move (.tmp 17), 3, none, []⟩, [1, 3]),
    (⟨(some 107), .indexAddr 24 (.tmp 105) (.tmp 106), 0, none, []⟩, [0, 1, 2, 3]),
    (⟨(some 108), .load 3 (.tmp 107), 3, none, []⟩, [0, 1, 2, 3]),
    (⟨(some 109), .binOp .gtr 3 (.tmp 104) (.tmp 108) 3, 4, none, []⟩, [])])
  (.cond (.tmp 109)
    (.seq (.reg [⟨(some 8), .assign (.const (.bool false)), 4, none, []⟩])
    .ret)
    .skip)))
  (.reg [⟨(some 99), .move (.tmp 17), 3, none, []⟩,
    ⟨(some 100), .binOp .add 3 (.tmp 99) (.const (.int .i64 1)) 3, 3, none, []⟩,
    ⟨(some 17), .assign (.tmp 100), 3, none, []⟩])))
def s8 : SC :=
  (.seq (.reg [⟨(some 8), .assign (.const (.bool false)), 4, none, []⟩])
  (.seq (.seq (.reg [⟨(some 18), .call ⟨.value (.func 20), #[], #[]⟩, 4, none, []⟩,
    ⟨(some 19), .unOp .not 4 (.tmp 18), 4, none, []⟩])
  (.cond (.tmp 19)
    (.seq (.reg [⟨(some 8), .assign (.const (.bool false)), 4, none, []⟩])
    .ret)
    .skip))
  (.seq (.seq (.reg [⟨(some 20), .move (.tmp 3), 40, none, []⟩,
    ⟨(some 21), .call ⟨.builtin .len, #[(.tmp 20)], #[40]⟩, 3, none, []⟩,
    ⟨(some 22), .binOp .gtr 3 (.tmp 21) (.const (.int .i64 20)) 3, 4, none, []⟩])
  (.cond (.tmp 22)
    (.seq (.reg [⟨(some 8), .assign (.const (.bool true)), 4, none, []⟩])
    .ret)
    .skip))
  (.seq (.reg [⟨(some 9), .assign (.const (.slice none 0 0)), 24, none, [0]⟩,
    ⟨(some 10), .assign (.const (.slice none 0 0)), 24, none, [0]⟩])
  (.seq (.seq (.reg [⟨(some 11), .assign (.const (.int .i64 0)), 3, none, []⟩])
  (.block 0 (.loop (some ([0, 1, 2, 3, 9, 10, 11], 0)) s8_0)))
  (.seq (.reg [⟨(some 54), .move (.tmp 1), 32, none, []⟩,
    ⟨(some 55), .convert 32 3 (.tmp 54), 3, none, []⟩,
    ⟨(some 56), .binOp .rem 3 (.tmp 55) (.const (.int .i64 300)) 3, 3, none, []⟩,
    ⟨(some 12), .assign (.tmp 56), 3, none, []⟩])
  (.seq (.reg [⟨(some 58), .move (.tmp 0), 32, none, []⟩,
    ⟨(some 59), .convert 32 3 (.tmp 58), 3, none, []⟩,
    ⟨(some 60), .move (.tmp 12), 3, none, []⟩,
    ⟨(some 61), .move (.tmp 9), 24, none, []⟩,
    ⟨(some 62), .call ⟨.value (.func 26), #[(.tmp 59), (.tmp 60), (.tmp 61)], #[3, 3, 24]⟩, 35, none, []⟩,
    ⟨(some 57), .move (.tmp 62), 35, none, []⟩,
    ⟨(some 63), .extract (.tmp 57) 0, 3, none, []⟩,
    ⟨(some 64), .extract (.tmp 57) 1, 4, none, []⟩,
    ⟨(some 13), .assign (.tmp 63), 3, none, []⟩,
    ⟨(some 14), .assign (.tmp 64), 4, none, []⟩])
  (.seq (.reg [⟨(some 66), .move (.tmp 0), 32, none, []⟩,
    ⟨(some 67), .convert 32 3 (.tmp 66), 3, none, []⟩,
    ⟨(some 68), .move (.tmp 12), 3, none, []⟩,
    ⟨(some 69), .move (.tmp 2), 32, none, []⟩,
    ⟨(some 70), .convert 32 3 (.tmp 69), 3, none, []⟩,
    ⟨(some 71), .binOp .rem 3 (.tmp 70) (.const (.int .i64 100)) 3, 3, none, []⟩,
    ⟨(some 72), .binOp .add 3 (.tmp 68) (.tmp 71) 3, 3, none, []⟩,
    ⟨(some 73), .move (.tmp 10), 24, none, []⟩,
    ⟨(some 74), .call ⟨.value (.func 26), #[(.tmp 67), (.tmp 72), (.tmp 73)], #[3, 3, 24]⟩, 35, none, []⟩,
    ⟨(some 65), .move (.tmp 74), 35, none, []⟩,
    ⟨(some 75), .extract (.tmp 65) 0, 3, none, []⟩,
    ⟨(some 76), .extract (.tmp 65) 1, 4, none, []⟩,
    ⟨(some 15), .assign (.tmp 75), 3, none, []⟩,
    ⟨(some 16), .assign (.tmp 76), 4, none, []⟩])
  (.seq (.seq (.reg [⟨(some 77), .move (.tmp 14), 4, none, []⟩,
    ⟨(some 78), .move (.tmp 77), 4, none, []⟩,
    ⟨(some 79), .move (.tmp 16), 4, some (78, true), []⟩,
    ⟨(some 80), .unOp .not 4 (.tmp 79), 4, some (78, true), []⟩,
    ⟨(some 81), .move (.tmp 80), 4, some (78, true), []⟩,
    ⟨(some 82), .move (.tmp 15), 3, some (81, false), []⟩,
    ⟨(some 83), .move (.tmp 13), 3, some (81, false), []⟩,
    ⟨(some 84), .binOp .lss 3 (.tmp 82) (.tmp 83) 3, 4, some (81, false), []⟩,
    ⟨(some 85), .pick (.tmp 81) (.const (.bool true)) (.tmp 84), 4, some (78, true), []⟩,
    ⟨(some 86), .move (.tmp 85), 4, some (78, true), []⟩,
    ⟨(some 87), .move (.tmp 13), 3, some (86, false), []⟩,
    ⟨(some 88), .move (.tmp 12), 3, some (86, false), []⟩,
    ⟨(some 89), .binOp .gtr 3 (.tmp 87) (.tmp 88) 3, 4, some (86, false), []⟩,
    ⟨(some 90), .pick (.tmp 86) (.const (.bool true)) (.tmp 89), 4, some (78, true), []⟩,
    ⟨(some 91), .pick (.tmp 78) (.tmp 90) (.const (.bool false)), 4, none, []⟩])
  (.cond (.tmp 91)
    (.seq (.reg [⟨(some 8), .assign (.const (.bool false)), 4, none, []⟩])
    .ret)
    .skip))
  (.seq (.seq (.reg [⟨(some 17), .assign (.const (.int .i64 0)), 3, none, []⟩])
  (.block 2 (.loop (some ([0, 9, 13, 14, 17], 0)) s8_1)))
  (.seq (.reg [⟨(some 8), .assign (.const (.bool true)), 4, none, []⟩])
  .ret)))))))))))
theorem l8 : slimF Hs 8 Try.f8 = some (110, s8, [.tmp 8]) := by kernel_rfl

/-! 9 kerbsuite/kerbsuitelaw8.HeaderIs -/
def s9_0 : SC :=
  (.seq (.seq (.reg [⟨(some 37), .move (.tmp 10), 3, none, []⟩,
    ⟨(some 38), .move (.tmp 3), 22, none, []⟩,
    ⟨(some 39), .call ⟨.builtin .len, #[(.tmp 38)], #[22]⟩, 3, none, []⟩,
    ⟨(some 40), .binOp .lss 3 (.tmp 37) (.tmp 39) 3, 4, none, []⟩])
  (.cond (.tmp 40)
    .skip
    (.exit 0)))
  (.seq (.block 1 (.reg [⟨(some 43), .move (.tmp 9), 24, none, []⟩,
    ⟨(some 44), .move (.tmp 3), 22, none, []⟩,
    ⟨(some 45), .move (.tmp 10), 3, none, []⟩,
    ⟨(some 46), .indexAddr 22 (.tmp 44) (.tmp 45), 0, none, []⟩,
    ⟨(some 47), .load 5 (.tmp 46), 5, none, []⟩,
    ⟨(some 48), .convert 5 3 (.tmp 47), 3, none, []⟩,
    ⟨(some 49), .binOp .rem 3 (.tmp 48) (.const (.int .i64 12)) 3, 3, none, []⟩,
    ⟨(some 50), .buildSlice 24 1 #[(0, (.tmp 49))], 24, none, []⟩,
    ⟨(some 51), .call ⟨.builtin .append, #[(.tmp 43), (.tmp 50)], #[24, 24]⟩, 24, none, []⟩,
    ⟨(some 9), .assign (.tmp 51), 24, none, []⟩]))
  (.reg [⟨(some 41), .move (.tmp 10), 3, none, []⟩,
    ⟨(some 42), .binOp .add 3 (.tmp 41) (.const (.int .i64 1)) 3, 3, none, []⟩,
    ⟨(some 10), .assign (.tmp 42), 3, none, []⟩])))
def s9_1 : SC :=
  (.seq (.seq (.reg [⟨(some 52), .move (.tmp 11), 3, none, []⟩,
    ⟨(some 53), .binOp .lss 3 (.tmp 52) (.const (.int .i64 2)) 3, 4, none, []⟩])
  (.cond (.tmp 53)
    .skip
    (.exit 2)))
  (.seq (.block 3 (.seq (.reg [⟨(some 56), .move (.tmp 0), 22, none, []⟩,
    ⟨(some 57), .move (.tmp 1), 5, none, []⟩,
    ⟨(some 58), .binOp .rem 5 (.tmp 57) (.const (.int .u8 24)) 5, 5, none, []⟩,
    ⟨(some 59), .buildSlice 22 2 #[(0, (.const (.int .u8 4))), (1, (.tmp 58))], 22, none, []⟩,
    ⟨(some 60), .buildSlice 30 2 #[(0, (.tmp 56)), (1, (.tmp 59))], 30, none, []⟩,
    ⟨(some 61), .move (.tmp 11), 3, none, []⟩,
    ⟨(some 62), .indexAddr 30 (.tmp 60) (.tmp 61), 0, none, []⟩,
    ⟨(some 63), .load 22 (.tmp 62), 22, none, []⟩,
    ⟨(some 12), .assign (.tmp 63), 22, none, []⟩])
  (.seq (.reg [⟨(some 65), .move (.tmp 12), 22, none, []⟩,
    ⟨(some 66), .move (.tmp 9), 24, none, []⟩,
    ⟨(some 67), .call ⟨.value (.func 28), #[(.tmp 65), (.tmp 66)], #[22, 24]⟩, 44, none, []⟩,
    ⟨(some 64), .move (.tmp 67), 44, none, []⟩,
    ⟨(some 68), .extract (.tmp 64) 0, 4, none, []⟩,
    ⟨(some 69), .extract (.tmp 64) 1, 26, none, []⟩,
    ⟨(some 13), .assign (.tmp 68), 4, none, []⟩,
    ⟨(some 14), .assign (.tmp 69), 26, none, []⟩])
  (.seq (.reg [⟨(some 71), .move (.tmp 12), 22, none, []⟩,
    ⟨(some 72), .move (.tmp 9), 24, none, []⟩,
    ⟨(some 73), .call ⟨.value (.func 29), #[(.tmp 71), (.tmp 72)], #[22, 24]⟩, 44, none, []⟩,
    ⟨(some 70), .move (.tmp 73), 44, none, []⟩,
    ⟨(some 74), .extract (.tmp 70) 0, 4, none, []⟩,
    ⟨(some 75), .extract (.tmp 70) 1, 26, none, []⟩,
    ⟨(some 15), .assign (.tmp 74), 4, none, []⟩,
    ⟨(some 16), .assign (.tmp 75), 26, none, []⟩])
  (.seq (.reg [⟨(some 76), .move (.tmp 13), 4, none, []⟩,
    ⟨(some 77), .move (.tmp 15), 4, none, []⟩,
    ⟨(some 78), .binOp .neq 4 (.tmp 76) (.tmp 77) 4, 4, none, []⟩,
    ⟨(some 79), .move (.tmp 78), 4, none, []⟩,
    ⟨(some 80), .move (.tmp 14), 26, some (79, false), []⟩,
    ⟨(some 81), .move (.tmp 16), 26, some (79, false), []⟩,
    ⟨(some 82), .binOp .neq 26 (.tmp 80) (.tmp 81) 26, 4, some (79, false), []⟩,
    ⟨(some 83), .pick (.tmp 79) (.const (.bool true)) (.tmp 82), 4, none, []⟩])
  (.cond (.tmp 83)
    (.seq (.reg [⟨(some 8), .assign (.const (.bool false)), 4, none, []⟩])
    .ret)
    .skip))))))
  (.reg [⟨(some 54), .move (.tmp 11), 3, none, []⟩,
    ⟨(some 55), .binOp .add 3 (.tmp 54) (.const (.int .i64 1)) 3, 3, none, []⟩,
    ⟨(some 11), .assign (.tmp 55), 3, none, []⟩])))
def s9 : SC :=
  (.seq (.reg [⟨(some 8), .assign (.const (.bool false)), 4, none, []⟩])
  (.seq (.seq (.reg [⟨(some 19), .call ⟨.value (.func 15), #[], #[]⟩, 4, none, []⟩,
    ⟨(some 20), .unOp .not 4 (.tmp 19), 4, none, []⟩])
  (.cond (.tmp 20)
    (.seq (.reg [⟨(some 8), .assign (.const (.bool false)), 4, none, []⟩])
    .ret)
    .skip))
  (.seq (.seq (.reg [⟨(some 21), .move (.tmp 0), 22, none, []⟩,
    ⟨(some 22), .call ⟨.builtin .len, #[(.tmp 21)], #[22]⟩, 3, none, []⟩,
    ⟨(some 23), .binOp .gtr 3 (.tmp 22) (.const (.int .i64 100)) 3, 4, none, []⟩,
    ⟨(some 24), .move (.tmp 23), 4, none, []⟩,
    ⟨(some 25), .move (.tmp 2), 24, some (24, false), []⟩,
    ⟨(some 26), .call ⟨.builtin .len, #[(.tmp 25)], #[24]⟩, 3, some (24, false), []⟩,
    ⟨(some 27), .binOp .gtr 3 (.tmp 26) (.const (.int .i64 12)) 3, 4, some (24, false), []⟩,
    ⟨(some 28), .pick (.tmp 24) (.const (.bool true)) (.tmp 27), 4, none, []⟩,
    ⟨(some 29), .move (.tmp 28), 4, none, []⟩,
    ⟨(some 30), .move (.tmp 3), 22, some (29, false), []⟩,
    ⟨(some 31), .call ⟨.builtin .len, #[(.tmp 30)], #[22]⟩, 3, some (29, false), []⟩,
    ⟨(some 32), .binOp .gtr 3 (.tmp 31) (.const (.int .i64 12)) 3, 4, some (29, false), []⟩,
    ⟨(some 33), .pick (.tmp 29) (.const (.bool true)) (.tmp 32), 4, none, []⟩])
  (.cond (.tmp 33)
    (.seq (.reg [⟨(some 8), .assign (.const (.bool true)), 4, none, []⟩])
    .ret)
    .skip))
  (.seq (.reg [⟨(some 34), .buildSlice 24 0 #[], 24, none, []⟩,
    ⟨(some 35), .move (.tmp 2), 24, none, []⟩,
    ⟨(some 36), .call ⟨.builtin .append, #[(.tmp 34), (.tmp 35)], #[24, 24]⟩, 24, none, []⟩,
    ⟨(some 9), .assign (.tmp 36), 24, none, []⟩])
  (.seq (.seq (.reg [⟨(some 10), .assign (.const (.int .i64 0)), 3, none, []⟩])
  (.block 0 (.loop (some ([0, 1, 3, 9, 10], 0)) s9_0)))
  (.seq (.seq (.reg [⟨(some 11), .assign (.const (.int .i64 0)), 3, none, []⟩])
  (.block 2 (.loop (some ([0, 1, 9, 11], 0)) s9_1)))
  (.seq (.reg [⟨(some 85), .call ⟨.value (.func 16), #[(.const (.int .i64 7)), (.const (.bool false))], #[3, 4]⟩, 22, none, []⟩,
    ⟨(some 86), .call ⟨.value (.func 28), #[(.tmp 85), (.const (.slice none 0 0))], #[22, 24]⟩, 44, none, []⟩,
    ⟨(some 84), .move (.tmp 86), 44, none, []⟩,
    ⟨(some 87), .extract (.tmp 84) 0, 4, none, []⟩,
    ⟨(some 88), .extract (.tmp 84) 1, 26, none, []⟩,
    ⟨(some 17), .assign (.tmp 87), 4, none, []⟩,
    ⟨(some 18), .assign (.tmp 88), 26, none, []⟩])
  (.seq (.reg [⟨(some 89), .move (.tmp 18), 26, none, []⟩,
    ⟨(some 90), .binOp .eql 26 (.tmp 89) (.const (.int .i64 40)) 26, 4, none, []⟩,
    ⟨(some 8), .assign (.tmp 90), 4, none, []⟩])
  .ret))))))))
theorem l9 : slimF Hs 9 Try.f9 = some (91, s9, [.tmp 8]) := by kernel_rfl

/-! 10 kerbsuite/kerbsuitelaw3.KeyMakes -/
def s10_0 : SC :=
  (.seq (.seq (.reg [⟨(some 35), .move (.tmp 11), 3, none, []⟩,
    ⟨(some 36), .binOp .lss 3 (.tmp 35) (.const (.int .i64 5)) 3, 4, none, []⟩])
  (.cond (.tmp 36)
    .skip
    (.exit 2)))
  (.seq (.block 3 (.seq (.reg [⟨(some 39), .move (.tmp 11), 3, none, []⟩,
    ⟨(some 12), .assign (.tmp 39), 3, none, []⟩])
  (.seq (.seq (.reg [⟨(some 40), .move (.tmp 11), 3, none, []⟩,
    ⟨(some 41), .binOp .eql 3 (.tmp 40) (.const (.int .i64 4)) 3, 4, none, []⟩])
  (.cond (.tmp 41)
    (.reg [⟨(some 42), .move (.tmp 0), 3, none, []⟩,
      ⟨(some 12), .assign (.tmp 42), 3, none, []⟩])
    .skip))
  (.seq (.reg [⟨(some 43), .move (.tmp 12), 3, none, []⟩,
    ⟨(some 44), .move (.tmp 9), 24, none, []⟩,
    ⟨(some 45), .move (.tmp 10), 3, none, []⟩,
    ⟨(some 46), .indexAddr 24 (.tmp 44) (.tmp 45), 0, none, []⟩,
    ⟨(some 47), .load 3 (.tmp 46), 3, none, []⟩,
    ⟨(some 48), .call ⟨.value (.func 31), #[(.tmp 43), (.tmp 47)], #[3, 3]⟩, 48, none, []⟩,
    ⟨(some 13), .assign (.tmp 48), 48, none, []⟩])
  (.seq (.drw [(⟨(some 49), .move (.tmp 13), 48, none, []⟩, []),
    (⟨(some 50), .move (.tmp 12), 3, none, []⟩, []),
    (⟨(some 51), .move (.tmp 9), 24, none, []⟩, []),
    (⟨(some 52), .move (.tmp 10), 3, none, []⟩, []),
    (⟨(some 53), .indexAddr 24 (.tmp 51) (.tmp 52), 0, none, []⟩, [0, 1]),
    (⟨(some 54), .load 3 (.tmp 53), 3, none, []⟩, [0, 1]),
    (⟨(some 55), .call ⟨.value (.func 32), #[(.tmp 50), (.tmp 54)], #[3, 3]⟩, 48, none, []⟩, [0]),
    (⟨(some 56), .binOp .neq 48 (.tmp 49) (.tmp 55) 48, 4, none, []⟩, []),
    (⟨(some 57), .move (.tmp 56), 4, none, []⟩, []),
    (⟨(some 58), .move (.tmp 13), 48, some (57, false), []⟩, []),
    (⟨(some 59), .call ⟨.value (.func 33), #[(.tmp 58)], #[48]⟩, 4, some (57, false), []⟩, []),
    (⟨(some 60), .move (.tmp 13), 48, some (57, false), []⟩, [10]),
    (⟨(some 61), .binOp .neq 48 (.tmp 60) (.const (.int .u64 0)) 48, 4, some (57, false), []⟩, [10]),
    (⟨(some 62), .binOp .neq 4 (.tmp 59) (.tmp 61) 4, 4, some (57, false), []⟩, []),
    (⟨(some 63), .pick (.tmp 57) (.const (.bool true)) (.tmp 62), 4, none, []⟩, []),
    (⟨(some 64), .move (.tmp 63), 4, none, []⟩, []),
    (⟨(some 65), .move (.tmp 13), 48, some (64, false), []⟩, []),
    (⟨(some 66), .binOp .neq 48 (.tmp 65) (.const (.int .u64 0)) 48, 4, some (64, false), []⟩, []),
    (⟨(some 67), .move (.tmp 66), 4, some (64, false), []⟩, []),
    (⟨(some 68), .move (.tmp 13), 48, some (67, true), []⟩, []),
    (⟨(some 69), .call ⟨.value (.func 34), #[(.tmp 68)], #[48]⟩, 3, some (67, true), []⟩, []),
    (⟨(some 70), .move (.tmp 12), 3, some (67, true), []⟩, [20]),
    (⟨(some 71), .binOp .neq 3 (.tmp 69) (.tmp 70) 3, 4, some (67, true), []⟩, []),
    (⟨(some 72), .move (.tmp 71), 4, some (67, true), []⟩, []),
    (⟨(some 73), .move (.tmp 13), 48, some (72, false), []⟩, []),
    (⟨(some 74), .call ⟨.value (.func 35), #[(.tmp 73)], #[48]⟩, 3, some (72, false), []⟩, []),
    (⟨(some 75), .move (.tmp 9), 24, some (72, false), []⟩, [25]),
    (⟨(some 76), .move (.tmp 10), 3, some (72, false), []⟩, [25]),
    (⟨(some 77), .indexAddr 24 (.tmp 75) (.tmp 76), 0, some (72, false), []⟩, [24, 25]),
    (⟨(some 78), .load 3 (.tmp 77), 3, some (72, false), []⟩, [24, 25]),
    (⟨(some 79), .binOp .neq 3 (.tmp 74) (.tmp 78) 3, 4, some (72, false), []⟩, []),
    (⟨(some 80), .pick (.tmp 72) (.const (.bool true)) (.tmp 79), 4, some (67, true), []⟩, []),
    (⟨(some 81), .pick (.tmp 67) (.tmp 80) (.const (.bool false)), 4, some (64, false), []⟩, []),
    (⟨(some 82), .pick (.tmp 64) (.const (.bool true)) (.tmp 81), 4, none, []⟩, [])])
  (.cond (.tmp 82)
    (.seq (.reg [⟨(some 8), .assign (.const (.bool false)), 4, none, []⟩])
    .ret)
    .skip))))))
  (.reg [⟨(some 37), .move (.tmp 11), 3, none, []⟩,
    ⟨(some 38), .binOp .add 3 (.tmp 37) (.const (.int .i64 1)) 3, 3, none, []⟩,
    ⟨(some 11), .assign (.tmp 38), 3, none, []⟩])))
def s10_1 : SC :=
  (.seq (.seq (.reg [⟨(some 29), .move (.tmp 10), 3, none, []⟩,
    ⟨(some 30), .move (.tmp 9), 24, none, []⟩,
    ⟨(some 31), .call ⟨.builtin .len, #[(.tmp 30)], #[24]⟩, 3, none, []⟩,
    ⟨(some 32), .binOp .lss 3 (.tmp 29) (.tmp 31) 3, 4, none, []⟩])
  (.cond (.tmp 32)
    .skip
    (.exit 0)))
  (.seq (.block 1 (.seq (.reg [⟨(some 11), .assign (.const (.int .i64 0)), 3, none, []⟩])
  (.block 2 (.loop (some ([0, 3, 9, 10, 11], 0)) s10_0))))
  (.reg [⟨(some 33), .move (.tmp 10), 3, none, []⟩,
    ⟨(some 34), .binOp .add 3 (.tmp 33) (.const (.int .i64 1)) 3, 3, none, []⟩,
    ⟨(some 10), .assign (.tmp 34), 3, none, []⟩])))
def s10 : SC :=
  (.seq (.reg [⟨(some 8), .assign (.const (.bool false)), 4, none, []⟩])
  (.seq (.seq (.reg [⟨(some 14), .call ⟨.value (.func 30), #[], #[]⟩, 4, none, []⟩,
    ⟨(some 15), .unOp .not 4 (.tmp 14), 4, none, []⟩])
  (.cond (.tmp 15)
    (.seq (.reg [⟨(some 8), .assign (.const (.bool false)), 4, none, []⟩])
    .ret)
    .skip))
  (.seq (.reg [⟨(some 16), .move (.tmp 1), 3, none, []⟩,
    ⟨(some 17), .move (.tmp 2), 32, none, []⟩,
    ⟨(some 18), .convert 32 3 (.tmp 17), 3, none, []⟩,
    ⟨(some 19), .move (.tmp 2), 32, none, []⟩,
    ⟨(some 20), .convert 32 3 (.tmp 19), 3, none, []⟩,
    ⟨(some 21), .binOp .rem 3 (.tmp 20) (.const (.int .i64 3)) 3, 3, none, []⟩,
    ⟨(some 22), .binOp .sub 3 (.const (.int .i64 4294967295)) (.tmp 21) 3, 3, none, []⟩,
    ⟨(some 23), .binOp .add 3 (.tmp 22) (.const (.int .i64 1)) 3, 3, none, []⟩,
    ⟨(some 24), .move (.tmp 2), 32, none, []⟩,
    ⟨(some 25), .convert 32 3 (.tmp 24), 3, none, []⟩,
    ⟨(some 26), .unOp .neg 3 (.tmp 25), 3, none, []⟩,
    ⟨(some 27), .binOp .rem 3 (.tmp 26) (.const (.int .i64 3)) 3, 3, none, []⟩,
    ⟨(some 28), .buildSlice 24 4 #[(0, (.tmp 16)), (1, (.tmp 18)), (2, (.tmp 23)), (3, (.tmp 27))], 24, none, []⟩,
    ⟨(some 9), .assign (.tmp 28), 24, none, []⟩])
  (.seq (.seq (.reg [⟨(some 10), .assign (.const (.int .i64 0)), 3, none, []⟩])
  (.block 0 (.loop (some ([0, 3, 9, 10], 0)) s10_1)))
  (.seq (.reg [⟨(some 83), .move (.tmp 3), 48, none, []⟩,
    ⟨(some 84), .call ⟨.value (.func 33), #[(.tmp 83)], #[48]⟩, 4, none, []⟩,
    ⟨(some 85), .move (.tmp 3), 48, none, []⟩,
    ⟨(some 86), .call ⟨.value (.func 36), #[(.tmp 85)], #[48]⟩, 4, none, []⟩,
    ⟨(some 87), .binOp .eql 4 (.tmp 84) (.tmp 86) 4, 4, none, []⟩,
    ⟨(some 88), .move (.tmp 87), 4, none, []⟩,
    ⟨(some 89), .move (.tmp 3), 48, some (88, true), []⟩,
    ⟨(some 90), .call ⟨.value (.func 34), #[(.tmp 89)], #[48]⟩, 3, some (88, true), []⟩,
    ⟨(some 91), .move (.tmp 3), 48, some (88, true), []⟩,
    ⟨(some 92), .call ⟨.value (.func 37), #[(.tmp 91)], #[48]⟩, 3, some (88, true), []⟩,
    ⟨(some 93), .binOp .eql 3 (.tmp 90) (.tmp 92) 3, 4, some (88, true), []⟩,
    ⟨(some 94), .pick (.tmp 88) (.tmp 93) (.const (.bool false)), 4, none, []⟩,
    ⟨(some 95), .move (.tmp 94), 4, none, []⟩,
    ⟨(some 96), .move (.tmp 3), 48, some (95, true), []⟩,
    ⟨(some 97), .call ⟨.value (.func 35), #[(.tmp 96)], #[48]⟩, 3, some (95, true), []⟩,
    ⟨(some 98), .move (.tmp 3), 48, some (95, true), []⟩,
    ⟨(some 99), .call ⟨.value (.func 38), #[(.tmp 98)], #[48]⟩, 3, some (95, true), []⟩,
    ⟨(some 100), .binOp .eql 3 (.tmp 97) (.tmp 99) 3, 4, some (95, true), []⟩,
    ⟨(some 101), .pick (.tmp 95) (.tmp 100) (.const (.bool false)), 4, none, []⟩,
    ⟨(some 8), .assign (.tmp 101), 4, none, []⟩])
  .ret)))))
theorem l10 : slimF Hs 10 Try.f10 = some (102, s10, [.tmp 8]) := by kernel_rfl

/-! 11 kerbsuite/kerbsuitelaw3.KeyDraws -/
def s11_0 : SC :=
  (.seq (.seq (.reg [⟨(some 57), .move (.tmp 19), 3, none, []⟩,
    ⟨(some 58), .binOp .lss 3 (.tmp 57) (.const (.int .i64 3)) 3, 4, none, []⟩])
  (.cond (.tmp 58)
    .skip
    (.exit 0)))
  (.seq (.block 1 (.seq (.reg [⟨(some 61), .move (.tmp 4), 5, none, []⟩,
    ⟨(some 62), .convert 5 3 (.tmp 61), 3, none, []⟩,
    ⟨(some 63), .binOp .quo 3 (.tmp 62) (.const (.int .i64 2)) 3, 3, none, []⟩,
    ⟨(some 64), .move (.tmp 4), 5, none, []⟩,
    ⟨(some 65), .convert 5 3 (.tmp 64), 3, none, []⟩,
    ⟨(some 66), .binOp .rem 3 (.tmp 65) (.const (.int .i64 3)) 3, 3, none, []⟩,
    ⟨(some 67), .binOp .sub 3 (.const (.int .i64 4294967295)) (.tmp 66) 3, 3, none, []⟩,
    ⟨(some 68), .move (.tmp 2), 3, none, []⟩,
    ⟨(some 69), .buildSlice 24 3 #[(0, (.tmp 63)), (1, (.tmp 67)), (2, (.tmp 68))], 24, none, []⟩,
    ⟨(some 70), .move (.tmp 19), 3, none, []⟩,
    ⟨(some 71), .indexAddr 24 (.tmp 69) (.tmp 70), 0, none, []⟩,
    ⟨(some 72), .load 3 (.tmp 71), 3, none, []⟩,
    ⟨(some 20), .assign (.tmp 72), 3, none, []⟩])
  (.seq (.reg [⟨(some 74), .move (.tmp 18), 53, none, []⟩,
    ⟨(some 75), .move (.tmp 17), 3, none, []⟩,
    ⟨(some 76), .move (.tmp 20), 3, none, []⟩,
    ⟨(some 77), .call ⟨.value (.func 39), #[(.tmp 74), (.tmp 75), (.tmp 76)], #[53, 3, 3]⟩, 54, none, []⟩,
    ⟨(some 73), .move (.tmp 77), 54, none, []⟩,
    ⟨(some 78), .extract (.tmp 73) 0, 48, none, []⟩,
    ⟨(some 79), .extract (.tmp 73) 1, 4, none, []⟩,
    ⟨(some 13), .assign (.tmp 78), 48, none, []⟩,
    ⟨(some 14), .assign (.tmp 79), 4, none, []⟩])
  (.seq (.reg [⟨(some 81), .move (.tmp 18), 53, none, []⟩,
    ⟨(some 82), .move (.tmp 17), 3, none, []⟩,
    ⟨(some 83), .move (.tmp 20), 3, none, []⟩,
    ⟨(some 84), .call ⟨.value (.func 40), #[(.tmp 81), (.tmp 82), (.tmp 83)], #[53, 3, 3]⟩, 54, none, []⟩,
    ⟨(some 80), .move (.tmp 84), 54, none, []⟩,
    ⟨(some 85), .extract (.tmp 80) 0, 48, none, []⟩,
    ⟨(some 86), .extract (.tmp 80) 1, 4, none, []⟩,
    ⟨(some 15), .assign (.tmp 85), 48, none, []⟩,
    ⟨(some 16), .assign (.tmp 86), 4, none, []⟩])
  (.seq (.reg [⟨(some 87), .move (.tmp 13), 48, none, []⟩,
    ⟨(some 88), .move (.tmp 15), 48, none, []⟩,
    ⟨(some 89), .binOp .neq 48 (.tmp 87) (.tmp 88) 48, 4, none, []⟩,
    ⟨(some 90), .move (.tmp 89), 4, none, []⟩,
    ⟨(some 91), .move (.tmp 14), 4, some (90, false), []⟩,
    ⟨(some 92), .move (.tmp 16), 4, some (90, false), []⟩,
    ⟨(some 93), .binOp .neq 4 (.tmp 91) (.tmp 92) 4, 4, some (90, false), []⟩,
    ⟨(some 94), .pick (.tmp 90) (.const (.bool true)) (.tmp 93), 4, none, []⟩])
  (.cond (.tmp 94)
    (.seq (.reg [⟨(some 12), .assign (.const (.bool false)), 4, none, []⟩])
    .ret)
    .skip))))))
  (.reg [⟨(some 59), .move (.tmp 19), 3, none, []⟩,
    ⟨(some 60), .binOp .add 3 (.tmp 59) (.const (.int .i64 1)) 3, 3, none, []⟩,
    ⟨(some 19), .assign (.tmp 60), 3, none, []⟩])))
def s11 : SC :=
  (.seq (.reg [⟨(some 12), .assign (.const (.bool false)), 4, none, []⟩])
  (.seq (.seq (.reg [⟨(some 21), .call ⟨.value (.func 30), #[], #[]⟩, 4, none, []⟩,
    ⟨(some 22), .unOp .not 4 (.tmp 21), 4, none, []⟩])
  (.cond (.tmp 22)
    (.seq (.reg [⟨(some 12), .assign (.const (.bool false)), 4, none, []⟩])
    .ret)
    .skip))
  (.seq (.seq (.reg [⟨(some 23), .move (.tmp 0), 53, none, []⟩,
    ⟨(some 24), .call ⟨.builtin .len, #[(.tmp 23)], #[53]⟩, 3, none, []⟩,
    ⟨(some 25), .binOp .gtr 3 (.tmp 24) (.const (.int .i64 60)) 3, 4, none, []⟩])
  (.cond (.tmp 25)
    (.seq (.reg [⟨(some 12), .assign (.const (.bool true)), 4, none, []⟩])
    .ret)
    .skip))
  (.seq (.reg [⟨(some 27), .move (.tmp 0), 53, none, []⟩,
    ⟨(some 28), .move (.tmp 1), 3, none, []⟩,
    ⟨(some 29), .move (.tmp 2), 3, none, []⟩,
    ⟨(some 30), .call ⟨.value (.func 39), #[(.tmp 27), (.tmp 28), (.tmp 29)], #[53, 3, 3]⟩, 54, none, []⟩,
    ⟨(some 26), .move (.tmp 30), 54, none, []⟩,
    ⟨(some 31), .extract (.tmp 26) 0, 48, none, []⟩,
    ⟨(some 32), .extract (.tmp 26) 1, 4, none, []⟩,
    ⟨(some 13), .assign (.tmp 31), 48, none, []⟩,
    ⟨(some 14), .assign (.tmp 32), 4, none, []⟩])
  (.seq (.reg [⟨(some 34), .move (.tmp 0), 53, none, []⟩,
    ⟨(some 35), .move (.tmp 1), 3, none, []⟩,
    ⟨(some 36), .move (.tmp 2), 3, none, []⟩,
    ⟨(some 37), .call ⟨.value (.func 40), #[(.tmp 34), (.tmp 35), (.tmp 36)], #[53, 3, 3]⟩, 54, none, []⟩,
    ⟨(some 33), .move (.tmp 37), 54, none, []⟩,
    ⟨(some 38), .extract (.tmp 33) 0, 48, none, []⟩,
    ⟨(some 39), .extract (.tmp 33) 1, 4, none, []⟩,
    ⟨(some 15), .assign (.tmp 38), 48, none, []⟩,
    ⟨(some 16), .assign (.tmp 39), 4, none, []⟩])
  (.seq (.seq (.reg [⟨(some 40), .move (.tmp 13), 48, none, []⟩,
    ⟨(some 41), .move (.tmp 15), 48, none, []⟩,
    ⟨(some 42), .binOp .neq 48 (.tmp 40) (.tmp 41) 48, 4, none, []⟩,
    ⟨(some 43), .move (.tmp 42), 4, none, []⟩,
    ⟨(some 44), .move (.tmp 14), 4, some (43, false), []⟩,
    ⟨(some 45), .move (.tmp 16), 4, some (43, false), []⟩,
    ⟨(some 46), .binOp .neq 4 (.tmp 44) (.tmp 45) 4, 4, some (43, false), []⟩,
    ⟨(some 47), .pick (.tmp 43) (.const (.bool true)) (.tmp 46), 4, none, []⟩])
  (.cond (.tmp 47)
    (.seq (.reg [⟨(some 12), .assign (.const (.bool false)), 4, none, []⟩])
    .ret)
    .skip))
  (.seq (.reg [⟨(some 17), .assign (.const (.int .i64 1)), 3, none, []⟩])
  (.seq (.seq (.reg [⟨(some 48), .move (.tmp 5), 4, none, []⟩])
  (.cond (.tmp 48)
    (.reg [⟨(some 17), .assign (.const (.int .i64 2)), 3, none, []⟩])
    .skip))
  (.seq (.reg [⟨(some 49), .move (.tmp 3), 22, none, []⟩,
    ⟨(some 50), .call ⟨.value (.func 41), #[(.tmp 49)], #[22]⟩, 53, none, []⟩,
    ⟨(some 51), .move (.tmp 17), 3, none, []⟩,
    ⟨(some 52), .call ⟨.value (.func 32), #[(.tmp 51), (.const (.int .i64 4294967295))], #[3, 3]⟩, 48, none, []⟩,
    ⟨(some 53), .move (.tmp 17), 3, none, []⟩,
    ⟨(some 54), .call ⟨.value (.func 32), #[(.tmp 53), (.const (.int .i64 4294967294))], #[3, 3]⟩, 48, none, []⟩,
    ⟨(some 55), .buildSlice 53 2 #[(0, (.tmp 52)), (1, (.tmp 54))], 53, none, []⟩,
    ⟨(some 56), .call ⟨.builtin .append, #[(.tmp 50), (.tmp 55)], #[53, 53]⟩, 53, none, []⟩,
    ⟨(some 18), .assign (.tmp 56), 53, none, []⟩])
  (.seq (.seq (.reg [⟨(some 19), .assign (.const (.int .i64 0)), 3, none, []⟩])
  (.block 0 (.loop (some ([2, 4, 17, 18, 19], 0)) s11_0)))
  (.seq (.reg [⟨(some 12), .assign (.const (.bool true)), 4, none, []⟩])
  .ret)))))))))))
theorem l11 : slimF Hs 11 Try.f11 = some (95, s11, [.tmp 12]) := by kernel_rfl

/-! 12 kerbsuite/kerbsuitelaw3.KeyFresh -/
def s12_0 : SC :=
  (.seq (.seq (.reg [⟨(some 53), .move (.tmp 12), 3, none, []⟩,
    ⟨(some 54), .move (.tmp 8), 53, none, []⟩,
    ⟨(some 55), .call ⟨.builtin .len, #[(.tmp 54)], #[53]⟩, 3, none, []⟩,
    ⟨(some 56), .binOp .lss 3 (.tmp 53) (.tmp 55) 3, 4, none, []⟩])
  (.cond (.tmp 56)
    .skip
    (.exit 2)))
  (.seq (.block 3 (.seq (.reg [⟨(some 59), .move (.tmp 8), 53, none, []⟩,
    ⟨(some 60), .move (.tmp 12), 3, none, []⟩,
    ⟨(some 61), .indexAddr 53 (.tmp 59) (.tmp 60), 0, none, []⟩,
    ⟨(some 62), .load 48 (.tmp 61), 48, none, []⟩,
    ⟨(some 63), .move (.tmp 10), 48, none, []⟩,
    ⟨(some 64), .binOp .eql 48 (.tmp 62) (.tmp 63) 48, 4, none, []⟩])
  (.cond (.tmp 64)
    (.seq (.reg [⟨(some 6), .assign (.const (.bool false)), 4, none, []⟩])
    .ret)
    .skip)))
  (.reg [⟨(some 57), .move (.tmp 12), 3, none, []⟩,
    ⟨(some 58), .binOp .add 3 (.tmp 57) (.const (.int .i64 1)) 3, 3, none, []⟩,
    ⟨(some 12), .assign (.tmp 58), 3, none, []⟩])))
def s12_1 : SC :=
  (.seq (.seq (.reg [⟨(some 18), .move (.tmp 9), 3, none, []⟩,
    ⟨(some 19), .move (.tmp 1), 22, none, []⟩,
    ⟨(some 20), .call ⟨.builtin .len, #[(.tmp 19)], #[22]⟩, 3, none, []⟩,
    ⟨(some 21), .binOp .lss 3 (.tmp 18) (.tmp 20) 3, 4, none, []⟩,
    ⟨(some 22), .move (.tmp 21), 4, none, []⟩,
    ⟨(some 23), .move (.tmp 9), 3, some (22, true), []⟩,
    ⟨(some 24), .binOp .lss 3 (.tmp 23) (.const (.int .i64 60)) 3, 4, some (22, true), []⟩,
    ⟨(some 25), .pick (.tmp 22) (.tmp 24) (.const (.bool false)), 4, none, []⟩])
  (.cond (.tmp 25)
    .skip
    (.exit 0)))
  (.seq (.block 1 (.seq (.reg [⟨(some 29), .move (.tmp 8), 53, none, []⟩,
    ⟨(some 30), .move (.tmp 7), 3, none, []⟩,
    ⟨(some 31), .move (.tmp 1), 22, none, []⟩,
    ⟨(some 32), .move (.tmp 9), 3, none, []⟩,
    ⟨(some 33), .indexAddr 22 (.tmp 31) (.tmp 32), 0, none, []⟩,
    ⟨(some 34), .load 5 (.tmp 33), 5, none, []⟩,
    ⟨(some 35), .convert 5 3 (.tmp 34), 3, none, []⟩,
    ⟨(some 36), .binOp .quo 3 (.tmp 35) (.const (.int .i64 4)) 3, 3, none, []⟩,
    ⟨(some 37), .call ⟨.value (.func 39), #[(.tmp 29), (.tmp 30), (.tmp 36)], #[53, 3, 3]⟩, 54, none, []⟩,
    ⟨(some 28), .move (.tmp 37), 54, none, []⟩,
    ⟨(some 38), .extract (.tmp 28) 0, 48, none, []⟩,
    ⟨(some 39), .extract (.tmp 28) 1, 4, none, []⟩,
    ⟨(some 10), .assign (.tmp 38), 48, none, []⟩,
    ⟨(some 11), .assign (.tmp 39), 4, none, []⟩])
  (.seq (.seq (.reg [⟨(some 40), .move (.tmp 11), 4, none, []⟩,
    ⟨(some 41), .unOp .not 4 (.tmp 40), 4, none, []⟩,
    ⟨(some 42), .move (.tmp 41), 4, none, []⟩,
    ⟨(some 43), .move (.tmp 10), 48, some (42, false), []⟩,
    ⟨(some 44), .call ⟨.value (.func 34), #[(.tmp 43)], #[48]⟩, 3, some (42, false), []⟩,
    ⟨(some 45), .move (.tmp 7), 3, some (42, false), []⟩,
    ⟨(some 46), .binOp .neq 3 (.tmp 44) (.tmp 45) 3, 4, some (42, false), []⟩,
    ⟨(some 47), .pick (.tmp 42) (.const (.bool true)) (.tmp 46), 4, none, []⟩,
    ⟨(some 48), .move (.tmp 47), 4, none, []⟩,
    ⟨(some 49), .move (.tmp 10), 48, some (48, false), []⟩,
    ⟨(some 50), .call ⟨.value (.func 33), #[(.tmp 49)], #[48]⟩, 4, some (48, false), []⟩,
    ⟨(some 51), .unOp .not 4 (.tmp 50), 4, some (48, false), []⟩,
    ⟨(some 52), .pick (.tmp 48) (.const (.bool true)) (.tmp 51), 4, none, []⟩])
  (.cond (.tmp 52)
    (.seq (.reg [⟨(some 6), .assign (.const (.bool false)), 4, none, []⟩])
    .ret)
    .skip))
  (.seq (.seq (.reg [⟨(some 12), .assign (.const (.int .i64 0)), 3, none, []⟩])
  (.block 2 (.loop (some ([1, 7, 8, 9, 10, 12], 0)) s12_0)))
  (.reg [⟨(some 65), .move (.tmp 8), 53, none, []⟩,
    ⟨(some 66), .move (.tmp 10), 48, none, []⟩,
    ⟨(some 67), .buildSlice 53 1 #[(0, (.tmp 66))], 53, none, []⟩,
    ⟨(some 68), .call ⟨.builtin .append, #[(.tmp 65), (.tmp 67)], #[53, 53]⟩, 53, none, []⟩,
    ⟨(some 8), .assign (.tmp 68), 53, none, []⟩])))))
  (.reg [⟨(some 26), .move (.tmp 9), 3, none, []⟩,
    ⟨(some 27), .binOp .add 3 (.tmp 26) (.const (.int .i64 1)) 3, 3, none, []⟩,
    ⟨(some 9), .assign (.tmp 27), 3, none, []⟩])))
def s12 : SC :=
  (.seq (.reg [⟨(some 6), .assign (.const (.bool false)), 4, none, []⟩])
  (.seq (.seq (.reg [⟨(some 13), .call ⟨.value (.func 30), #[], #[]⟩, 4, none, []⟩,
    ⟨(some 14), .unOp .not 4 (.tmp 13), 4, none, []⟩])
  (.cond (.tmp 14)
    (.seq (.reg [⟨(some 6), .assign (.const (.bool false)), 4, none, []⟩])
    .ret)
    .skip))
  (.seq (.reg [⟨(some 7), .assign (.const (.int .i64 1)), 3, none, []⟩])
  (.seq (.seq (.reg [⟨(some 15), .move (.tmp 2), 4, none, []⟩])
  (.cond (.tmp 15)
    (.reg [⟨(some 7), .assign (.const (.int .i64 2)), 3, none, []⟩])
    .skip))
  (.seq (.reg [⟨(some 16), .move (.tmp 0), 22, none, []⟩,
    ⟨(some 17), .call ⟨.value (.func 41), #[(.tmp 16)], #[22]⟩, 53, none, []⟩,
    ⟨(some 8), .assign (.tmp 17), 53, none, []⟩])
  (.seq (.seq (.reg [⟨(some 9), .assign (.const (.int .i64 0)), 3, none, []⟩])
  (.block 0 (.loop (some ([1, 7, 8, 9], 0)) s12_1)))
  (.seq (.reg [⟨(some 6), .assign (.const (.bool true)), 4, none, []⟩])
  .ret)))))))
theorem l12 : slimF Hs 12 Try.f12 = some (69, s12, [.tmp 6]) := by kernel_rfl

/-! 15 kerbsuite/kerbsuitelaw8.awake -/
def s15 : SC :=
  (.seq (.reg [⟨(some 0), .assign (.const (.bool false)), 4, none, []⟩])
  (.seq (.reg [⟨(some 2), .call ⟨.value (.func 16), #[(.const (.int .i64 3)), (.const (.bool true))], #[3, 4]⟩, 22, none, []⟩,
    ⟨(some 1), .assign (.tmp 2), 22, none, []⟩])
  (.seq (.reg [⟨(some 3), .move (.tmp 1), 22, none, []⟩,
    ⟨(some 4), .call ⟨.builtin .len, #[(.tmp 3)], #[22]⟩, 3, none, []⟩,
    ⟨(some 5), .binOp .eql 3 (.tmp 4) (.const (.int .i64 2)) 3, 4, none, []⟩,
    ⟨(some 6), .move (.tmp 5), 4, none, []⟩,
    ⟨(some 7), .move (.tmp 1), 22, some (6, true), []⟩,
    ⟨(some 8), .indexAddr 22 (.tmp 7) (.const (.int .i64 0)), 0, some (6, true), []⟩,
    ⟨(some 9), .load 5 (.tmp 8), 5, some (6, true), []⟩,
    ⟨(some 10), .binOp .eql 5 (.tmp 9) (.const (.int .u8 4)) 5, 4, some (6, true), []⟩,
    ⟨(some 11), .pick (.tmp 6) (.tmp 10) (.const (.bool false)), 4, none, []⟩,
    ⟨(some 12), .move (.tmp 11), 4, none, []⟩,
    ⟨(some 13), .move (.tmp 1), 22, some (12, true), []⟩,
    ⟨(some 14), .indexAddr 22 (.tmp 13) (.const (.int .i64 1)), 0, some (12, true), []⟩,
    ⟨(some 15), .load 5 (.tmp 14), 5, some (12, true), []⟩,
    ⟨(some 16), .binOp .eql 5 (.tmp 15) (.const (.int .u8 7)) 5, 4, some (12, true), []⟩,
    ⟨(some 17), .pick (.tmp 12) (.tmp 16) (.const (.bool false)), 4, none, []⟩,
    ⟨(some 0), .assign (.tmp 17), 4, none, []⟩])
  .ret)))
theorem l15 : slimF Hs 15 Try.f15 = some (18, s15, [.tmp 0]) := by kernel_rfl

/-! 16 kerbsuite/header.Put -/
def s16 : SC :=
  (.seq (.reg [⟨(some 4), .assign (.const (.slice none 0 0)), 22, none, []⟩])
  (.seq (.seq (.reg [⟨(some 6), .move (.tmp 0), 3, none, []⟩,
    ⟨(some 7), .call ⟨.value (.func 46), #[(.tmp 6)], #[3]⟩, 4, none, []⟩,
    ⟨(some 8), .unOp .not 4 (.tmp 7), 4, none, []⟩])
  (.cond (.tmp 8)
    (.seq (.reg [⟨(some 4), .assign (.const (.slice none 0 0)), 22, none, []⟩])
    .ret)
    .skip))
  (.seq (.reg [⟨(some 9), .move (.tmp 0), 3, none, []⟩,
    ⟨(some 10), .binOp .mul 3 (.const (.int .i64 2)) (.tmp 9) 3, 3, none, []⟩,
    ⟨(some 11), .convert 3 5 (.tmp 10), 5, none, []⟩,
    ⟨(some 5), .assign (.tmp 11), 5, none, []⟩])
  (.seq (.seq (.reg [⟨(some 12), .move (.tmp 1), 4, none, []⟩])
  (.cond (.tmp 12)
    (.reg [⟨(some 13), .move (.tmp 5), 5, none, []⟩,
      ⟨(some 14), .binOp .add 5 (.tmp 13) (.const (.int .u8 1)) 5, 5, none, []⟩,
      ⟨(some 5), .assign (.tmp 14), 5, none, []⟩])
    .skip))
  (.seq (.reg [⟨(some 15), .move (.tmp 5), 5, none, []⟩,
    ⟨(some 16), .buildSlice 22 2 #[(0, (.const (.int .u8 4))), (1, (.tmp 15))], 22, none, []⟩,
    ⟨(some 4), .assign (.tmp 16), 22, none, []⟩])
  .ret)))))
theorem l16 : slimF Hs 16 Try.f16 = some (17, s16, [.tmp 4]) := by kernel_rfl

/-! 17 kerbsuite/kerbsuiteref8.Put -/
def s17 : SC :=
  (.seq (.reg [⟨(some 4), .assign (.const (.slice none 0 0)), 22, none, []⟩])
  (.seq (.seq (.reg [⟨(some 6), .move (.tmp 0), 3, none, []⟩,
    ⟨(some 7), .binOp .lss 3 (.tmp 6) (.const (.int .i64 1)) 3, 4, none, []⟩,
    ⟨(some 8), .move (.tmp 7), 4, none, []⟩,
    ⟨(some 9), .move (.tmp 0), 3, some (8, false), []⟩,
    ⟨(some 10), .binOp .gtr 3 (.tmp 9) (.const (.int .i64 10)) 3, 4, some (8, false), []⟩,
    ⟨(some 11), .pick (.tmp 8) (.const (.bool true)) (.tmp 10), 4, none, []⟩])
  (.cond (.tmp 11)
    (.seq (.reg [⟨(some 4), .assign (.const (.slice none 0 0)), 22, none, []⟩])
    .ret)
    .skip))
  (.seq (.reg [⟨(some 12), .move (.tmp 0), 3, none, []⟩,
    ⟨(some 13), .binOp .mul 3 (.const (.int .i64 2)) (.tmp 12) 3, 3, none, []⟩,
    ⟨(some 5), .assign (.tmp 13), 3, none, []⟩])
  (.seq (.seq (.reg [⟨(some 14), .move (.tmp 1), 4, none, []⟩])
  (.cond (.tmp 14)
    (.reg [⟨(some 15), .move (.tmp 5), 3, none, []⟩,
      ⟨(some 16), .binOp .add 3 (.tmp 15) (.const (.int .i64 1)) 3, 3, none, []⟩,
      ⟨(some 5), .assign (.tmp 16), 3, none, []⟩])
    .skip))
  (.seq (.reg [⟨(some 17), .move (.tmp 5), 3, none, []⟩,
    ⟨(some 18), .convert 3 5 (.tmp 17), 5, none, []⟩,
    ⟨(some 19), .buildSlice 22 2 #[(0, (.const (.int .u8 4))), (1, (.tmp 18))], 22, none, []⟩,
    ⟨(some 4), .assign (.tmp 19), 22, none, []⟩])
  .ret)))))
theorem l17 : slimF Hs 17 Try.f17 = some (20, s17, [.tmp 4]) := by kernel_rfl

/-! 18 kerbsuite/header.Read -/
def s18 : SC :=
  (.seq (.reg [⟨(some 2), .assign (.const (.int .i64 0)), 3, none, []⟩,
    ⟨(some 3), .assign (.const (.bool false)), 4, none, []⟩,
    ⟨(some 4), .assign (.const (.int .i64 0)), 26, none, []⟩])
  (.seq (.block 0 (.seq (.reg [⟨(some 16), .move (.tmp 0), 22, none, []⟩,
    ⟨(some 17), .call ⟨.builtin .len, #[(.tmp 16)], #[22]⟩, 3, none, []⟩,
    ⟨(some 18), .binOp .lss 3 (.tmp 17) (.const (.int .i64 2)) 3, 4, none, []⟩,
    ⟨(some 15), .assign (.tmp 18), 4, none, []⟩])
  (.cond (.tmp 15)
    (.reg [⟨(some 4), .assign (.const (.int .i64 101)), 26, none, []⟩])
    (.seq (.reg [⟨(some 20), .move (.tmp 0), 22, none, []⟩,
      ⟨(some 21), .indexAddr 22 (.tmp 20) (.const (.int .i64 0)), 0, none, []⟩,
      ⟨(some 22), .load 5 (.tmp 21), 5, none, []⟩,
      ⟨(some 23), .binOp .neq 5 (.tmp 22) (.const (.int .u8 4)) 5, 4, none, []⟩,
      ⟨(some 19), .assign (.tmp 23), 4, none, []⟩])
    (.cond (.tmp 19)
      (.reg [⟨(some 4), .assign (.const (.int .i64 39)), 26, none, []⟩])
      (.seq (.reg [⟨(some 25), .move (.tmp 0), 22, none, []⟩,
        ⟨(some 26), .indexAddr 22 (.tmp 25) (.const (.int .i64 1)), 0, none, []⟩,
        ⟨(some 27), .load 5 (.tmp 26), 5, none, []⟩,
        ⟨(some 28), .binOp .quo 5 (.tmp 27) (.const (.int .u8 2)) 5, 5, none, []⟩,
        ⟨(some 29), .convert 5 3 (.tmp 28), 3, none, []⟩,
        ⟨(some 30), .call ⟨.value (.func 46), #[(.tmp 29)], #[3]⟩, 4, none, []⟩,
        ⟨(some 31), .unOp .not 4 (.tmp 30), 4, none, []⟩,
        ⟨(some 24), .assign (.tmp 31), 4, none, []⟩])
      (.cond (.tmp 24)
        (.reg [⟨(some 4), .assign (.const (.int .i64 40)), 26, none, []⟩])
        (.drw [(⟨(some 5), .move (.tmp 0), 22, none, []⟩, []),
          (⟨(some 6), .indexAddr 22 (.tmp 5) (.const (.int .i64 1)), 0, none, []⟩, []),
          (⟨(some 7), .load 5 (.tmp 6), 5, none, []⟩, []),
          (⟨(some 8), .binOp .quo 5 (.tmp 7) (.const (.int .u8 2)) 5, 5, none, []⟩, []),
          (⟨(some 9), .convert 5 3 (.tmp 8), 3, none, []⟩, []),
          (⟨(some 10), .move (.tmp 0), 22, none, []⟩, [1, 2, 4]),
          (⟨(some 11), .indexAddr 22 (.tmp 10) (.const (.int .i64 1)), 0, none, []⟩, [0, 1, 2, 3, 4]),
          (⟨(some 12), .load 5 (.tmp 11), 5, none, []⟩, [0, 1, 2, 3, 4]),
          (⟨(some 13), .binOp .rem 5 (.tmp 12) (.const (.int .u8 2)) 5, 5, none, []⟩, [1, 2, 4]),
          (⟨(some 14), .binOp .eql 5 (.tmp 13) (.const (.int .u8 1)) 5, 4, none, []⟩, [1, 2, 4]),
          (⟨(some 2), .assign (.tmp 9), 3, none, []⟩, [6, 7]),
          (⟨(some 3), .assign (.tmp 14), 4, none, []⟩, [])]))))))))
  (.seq (.reg [⟨(some 32), .move (.tmp 2), 3, none, []⟩,
    ⟨(some 33), .move (.tmp 3), 4, none, []⟩,
    ⟨(some 34), .move (.tmp 4), 26, none, []⟩,
    ⟨(some 2), .assign (.tmp 32), 3, none, []⟩,
    ⟨(some 3), .assign (.tmp 33), 4, none, []⟩,
    ⟨(some 4), .assign (.tmp 34), 26, none, []⟩])
  .ret)))
theorem l18 : slimF Hs 18 Try.f18 = some (35, s18, [.tmp 2, .tmp 3, .tmp 4]) := by kernel_rfl

/-! 19 kerbsuite/kerbsuiteref8.Read -/
def s19 : SC :=
  (.seq (.reg [⟨(some 2), .assign (.const (.int .i64 0)), 3, none, []⟩,
    ⟨(some 3), .assign (.const (.bool false)), 4, none, []⟩,
    ⟨(some 4), .assign (.const (.int .i64 0)), 26, none, []⟩])
  (.seq (.seq (.reg [⟨(some 5), .move (.tmp 0), 22, none, []⟩,
    ⟨(some 6), .call ⟨.builtin .len, #[(.tmp 5)], #[22]⟩, 3, none, []⟩,
    ⟨(some 7), .binOp .lss 3 (.tmp 6) (.const (.int .i64 2)) 3, 4, none, []⟩])
  (.cond (.tmp 7)
    (.seq (.reg [⟨(some 2), .assign (.const (.int .i64 0)), 3, none, []⟩,
      ⟨(some 3), .assign (.const (.bool false)), 4, none, []⟩,
      ⟨(some 4), .assign (.const (.int .i64 101)), 26, none, []⟩])
    .ret)
    .skip))
  (.seq (.seq (.reg [⟨(some 8), .move (.tmp 0), 22, none, []⟩,
    ⟨(some 9), .indexAddr 22 (.tmp 8) (.const (.int .i64 0)), 0, none, []⟩,
    ⟨(some 10), .load 5 (.tmp 9), 5, none, []⟩,
    ⟨(some 11), .binOp .neq 5 (.tmp 10) (.const (.int .u8 4)) 5, 4, none, []⟩])
  (.cond (.tmp 11)
    (.seq (.reg [⟨(some 2), .assign (.const (.int .i64 0)), 3, none, []⟩,
      ⟨(some 3), .assign (.const (.bool false)), 4, none, []⟩,
      ⟨(some 4), .assign (.const (.int .i64 39)), 26, none, []⟩])
    .ret)
    .skip))
  (.seq (.reg [⟨(some 12), .move (.tmp 0), 22, none, []⟩,
    ⟨(some 13), .indexAddr 22 (.tmp 12) (.const (.int .i64 1)), 0, none, []⟩,
    ⟨(some 14), .load 5 (.tmp 13), 5, none, []⟩,
    ⟨(some 15), .binOp .quo 5 (.tmp 14) (.const (.int .u8 2)) 5, 5, none, []⟩,
    ⟨(some 16), .convert 5 3 (.tmp 15), 3, none, []⟩,
    ⟨(some 2), .assign (.tmp 16), 3, none, []⟩])
  (.seq (.seq (.reg [⟨(some 17), .move (.tmp 2), 3, none, []⟩,
    ⟨(some 18), .binOp .lss 3 (.tmp 17) (.const (.int .i64 1)) 3, 4, none, []⟩,
    ⟨(some 19), .move (.tmp 18), 4, none, []⟩,
    ⟨(some 20), .move (.tmp 2), 3, some (19, false), []⟩,
    ⟨(some 21), .binOp .gtr 3 (.tmp 20) (.const (.int .i64 10)) 3, 4, some (19, false), []⟩,
    ⟨(some 22), .pick (.tmp 19) (.const (.bool true)) (.tmp 21), 4, none, []⟩])
  (.cond (.tmp 22)
    (.seq (.reg [⟨(some 2), .assign (.const (.int .i64 0)), 3, none, []⟩,
      ⟨(some 3), .assign (.const (.bool false)), 4, none, []⟩,
      ⟨(some 4), .assign (.const (.int .i64 40)), 26, none, []⟩])
    .ret)
    .skip))
  (.seq (.drw [(⟨(some 23), .move (.tmp 2), 3, none, []⟩, []),
    (⟨(some 24), .move (.tmp 0), 22, none, []⟩, []),
    (⟨(some 25), .indexAddr 22 (.tmp 24) (.const (.int .i64 1)), 0, none, []⟩, [0]),
    (⟨(some 26), .load 5 (.tmp 25), 5, none, []⟩, [0]),
    (⟨(some 27), .binOp .rem 5 (.tmp 26) (.const (.int .u8 2)) 5, 5, none, []⟩, []),
    (⟨(some 28), .binOp .eql 5 (.tmp 27) (.const (.int .u8 1)) 5, 4, none, []⟩, []),
    (⟨(some 2), .assign (.tmp 23), 3, none, []⟩, [2, 3]),
    (⟨(some 3), .assign (.tmp 28), 4, none, []⟩, []),
    (⟨(some 4), .assign (.const (.int .i64 0)), 26, none, []⟩, [])])
  .ret))))))
theorem l19 : slimF Hs 19 Try.f19 = some (29, s19, [.tmp 2, .tmp 3, .tmp 4]) := by kernel_rfl

/-! 20 kerbsuite/kerbsuitelaw2.awake -/
def s20 : SC :=
  (.seq (.reg [⟨(some 0), .assign (.const (.bool false)), 4, none, []⟩])
  (.seq (.reg [⟨(some 8), .call ⟨.value (.func 24), #[(.const (.int .i64 899))], #[3]⟩, 35, none, []⟩,
    ⟨(some 7), .move (.tmp 8), 35, none, []⟩,
    ⟨(some 9), .extract (.tmp 7) 0, 3, none, []⟩,
    ⟨(some 10), .extract (.tmp 7) 1, 4, none, []⟩,
    ⟨(some 1), .assign (.tmp 9), 3, none, []⟩,
    ⟨(some 2), .assign (.tmp 10), 4, none, []⟩])
  (.seq (.reg [⟨(some 12), .call ⟨.value (.func 24), #[(.const (.int .i64 299))], #[3]⟩, 35, none, []⟩,
    ⟨(some 11), .move (.tmp 12), 35, none, []⟩,
    ⟨(some 13), .extract (.tmp 11) 0, 3, none, []⟩,
    ⟨(some 14), .extract (.tmp 11) 1, 4, none, []⟩,
    ⟨(some 3), .assign (.tmp 13), 3, none, []⟩,
    ⟨(some 4), .assign (.tmp 14), 4, none, []⟩])
  (.seq (.reg [⟨(some 16), .buildSlice 24 1 #[(0, (.const (.int .i64 1900)))], 24, none, []⟩,
    ⟨(some 17), .call ⟨.value (.func 26), #[(.const (.int .i64 1000)), (.const (.int .i64 255)), (.tmp 16)], #[3, 3, 24]⟩, 35, none, []⟩,
    ⟨(some 15), .move (.tmp 17), 35, none, []⟩,
    ⟨(some 18), .extract (.tmp 15) 0, 3, none, []⟩,
    ⟨(some 19), .extract (.tmp 15) 1, 4, none, []⟩,
    ⟨(some 5), .assign (.tmp 18), 3, none, []⟩,
    ⟨(some 6), .assign (.tmp 19), 4, none, []⟩])
  (.seq (.reg [⟨(some 20), .call ⟨.value (.func 22), #[(.const (.int .i64 0)), (.const (.int .i64 0))], #[3, 3]⟩, 3, none, []⟩,
    ⟨(some 21), .binOp .eql 3 (.tmp 20) (.const (.int .i64 300)) 3, 4, none, []⟩,
    ⟨(some 22), .move (.tmp 21), 4, none, []⟩,
    ⟨(some 23), .move (.tmp 1), 3, some (22, true), []⟩,
    ⟨(some 24), .binOp .eql 3 (.tmp 23) (.const (.int .i64 1)) 3, 4, some (22, true), []⟩,
    ⟨(some 25), .pick (.tmp 22) (.tmp 24) (.const (.bool false)), 4, none, []⟩,
    ⟨(some 26), .move (.tmp 25), 4, none, []⟩,
    ⟨(some 27), .move (.tmp 2), 4, some (26, true), []⟩,
    ⟨(some 28), .pick (.tmp 26) (.tmp 27) (.const (.bool false)), 4, none, []⟩,
    ⟨(some 29), .move (.tmp 28), 4, none, []⟩,
    ⟨(some 30), .move (.tmp 4), 4, some (29, true), []⟩,
    ⟨(some 31), .unOp .not 4 (.tmp 30), 4, some (29, true), []⟩,
    ⟨(some 32), .pick (.tmp 29) (.tmp 31) (.const (.bool false)), 4, none, []⟩,
    ⟨(some 33), .move (.tmp 32), 4, none, []⟩,
    ⟨(some 34), .move (.tmp 5), 3, some (33, true), []⟩,
    ⟨(some 35), .binOp .eql 3 (.tmp 34) (.const (.int .i64 2)) 3, 4, some (33, true), []⟩,
    ⟨(some 36), .pick (.tmp 33) (.tmp 35) (.const (.bool false)), 4, none, []⟩,
    ⟨(some 37), .move (.tmp 36), 4, none, []⟩,
    ⟨(some 38), .move (.tmp 6), 4, some (37, true), []⟩,
    ⟨(some 39), .pick (.tmp 37) (.tmp 38) (.const (.bool false)), 4, none, []⟩,
    ⟨(some 0), .assign (.tmp 39), 4, none, []⟩])
  .ret)))))
theorem l20 : slimF Hs 20 Try.f20 = some (40, s20, [.tmp 0]) := by kernel_rfl

/-! 22 kerbsuite/lifetime.End -/
def s22 : SC :=
  (.seq (.reg [⟨(some 4), .assign (.const (.int .i64 0)), 3, none, []⟩])
  (.seq (.seq (.reg [⟨(some 5), .move (.tmp 0), 3, none, []⟩,
    ⟨(some 6), .call ⟨.value (.func 47), #[(.tmp 5)], #[3]⟩, 4, none, []⟩,
    ⟨(some 7), .unOp .not 4 (.tmp 6), 4, none, []⟩,
    ⟨(some 8), .move (.tmp 7), 4, none, []⟩,
    ⟨(some 9), .move (.tmp 1), 3, some (8, false), []⟩,
    ⟨(some 10), .call ⟨.value (.func 48), #[(.tmp 9)], #[3]⟩, 4, some (8, false), []⟩,
    ⟨(some 11), .unOp .not 4 (.tmp 10), 4, some (8, false), []⟩,
    ⟨(some 12), .pick (.tmp 8) (.const (.bool true)) (.tmp 11), 4, none, []⟩])
  (.cond (.tmp 12)
    (.seq (.reg [⟨(some 4), .assign (.const (.int .i64 0)), 3, none, []⟩])
    .ret)
    .skip))
  (.seq (.reg [⟨(some 13), .move (.tmp 0), 3, none, []⟩,
    ⟨(some 14), .move (.tmp 1), 3, none, []⟩,
    ⟨(some 15), .binOp .add 3 (.tmp 14) (.const (.int .i64 1)) 3, 3, none, []⟩,
    ⟨(some 16), .binOp .mul 3 (.const (.int .i64 300)) (.tmp 15) 3, 3, none, []⟩,
    ⟨(some 17), .binOp .add 3 (.tmp 13) (.tmp 16) 3, 3, none, []⟩,
    ⟨(some 4), .assign (.tmp 17), 3, none, []⟩])
  .ret)))
theorem l22 : slimF Hs 22 Try.f22 = some (18, s22, [.tmp 4]) := by kernel_rfl

/-! 24 kerbsuite/lifetime.FromSeconds -/
def s24 : SC :=
  (.seq (.reg [⟨(some 2), .assign (.const (.int .i64 0)), 3, none, []⟩,
    ⟨(some 3), .assign (.const (.bool false)), 4, none, []⟩])
  (.seq (.seq (.reg [⟨(some 4), .move (.tmp 0), 3, none, []⟩,
    ⟨(some 5), .binOp .lss 3 (.tmp 4) (.const (.int .i64 300)) 3, 4, none, []⟩])
  (.cond (.tmp 5)
    (.seq (.reg [⟨(some 2), .assign (.const (.int .i64 0)), 3, none, []⟩,
      ⟨(some 3), .assign (.const (.bool false)), 4, none, []⟩])
    .ret)
    .skip))
  (.seq (.reg [⟨(some 6), .move (.tmp 0), 3, none, []⟩,
    ⟨(some 7), .binOp .quo 3 (.tmp 6) (.const (.int .i64 300)) 3, 3, none, []⟩,
    ⟨(some 8), .binOp .sub 3 (.tmp 7) (.const (.int .i64 1)) 3, 3, none, []⟩,
    ⟨(some 9), .call ⟨.builtin .min, #[(.tmp 8), (.const (.int .i64 255))], #[3, 3]⟩, 3, none, []⟩,
    ⟨(some 2), .assign (.tmp 9), 3, none, []⟩,
    ⟨(some 3), .assign (.const (.bool true)), 4, none, []⟩])
  .ret)))
theorem l24 : slimF Hs 24 Try.f24 = some (10, s24, [.tmp 2, .tmp 3]) := by kernel_rfl

/-! 26 kerbsuite/lifetime.Grant -/
def s26_0 : SC :=
  (.seq (.reg [⟨(some 21), .binOp .lss 3 (.tmp 20) (.tmp 19) 3, 0, none, []⟩])
  (.seq (.cond (.tmp 21)
    .skip
    (.exit 0))
  (.seq (.block 1 (.seq (.reg [⟨(some 22), .indexAddr 24 (.tmp 18) (.tmp 20), 0, none, []⟩,
    ⟨(some 23), .load 3 (.tmp 22), 3, none, []⟩,
    ⟨(some 10), .assign (.tmp 23), 3, none, []⟩])
  (.seq (.seq (.reg [⟨(some 24), .move (.tmp 10), 3, none, []⟩,
    ⟨(some 25), .move (.tmp 0), 3, none, []⟩,
    ⟨(some 26), .binOp .lss 3 (.tmp 24) (.tmp 25) 3, 4, none, []⟩])
  (.cond (.tmp 26)
    (.seq (.reg [⟨(some 6), .assign (.const (.int .i64 0)), 3, none, []⟩,
      ⟨(some 7), .assign (.const (.bool false)), 4, none, []⟩])
    .ret)
    .skip))
  (.seq (.reg [⟨(some 28), .move (.tmp 10), 3, none, []⟩,
    ⟨(some 29), .move (.tmp 0), 3, none, []⟩,
    ⟨(some 30), .binOp .sub 3 (.tmp 28) (.tmp 29) 3, 3, none, []⟩,
    ⟨(some 31), .call ⟨.value (.func 24), #[(.tmp 30)], #[3]⟩, 35, none, []⟩,
    ⟨(some 27), .move (.tmp 31), 35, none, []⟩,
    ⟨(some 32), .extract (.tmp 27) 0, 3, none, []⟩,
    ⟨(some 33), .extract (.tmp 27) 1, 4, none, []⟩,
    ⟨(some 11), .assign (.tmp 32), 3, none, []⟩,
    ⟨(some 12), .assign (.tmp 33), 4, none, []⟩])
  (.seq (.seq (.reg [⟨(some 34), .move (.tmp 12), 4, none, []⟩,
    ⟨(some 35), .unOp .not 4 (.tmp 34), 4, none, []⟩])
  (.cond (.tmp 35)
    (.seq (.reg [⟨(some 6), .assign (.const (.int .i64 0)), 3, none, []⟩,
      ⟨(some 7), .assign (.const (.bool false)), 4, none, []⟩])
    .ret)
    .skip))
  (.reg [⟨(some 36), .move (.tmp 8), 3, none, []⟩,
    ⟨(some 37), .move (.tmp 11), 3, none, []⟩,
    ⟨(some 38), .call ⟨.builtin .min, #[(.tmp 36), (.tmp 37)], #[3, 3]⟩, 3, none, []⟩,
    ⟨(some 8), .assign (.tmp 38), 3, none, []⟩]))))))
  (.reg [⟨(some 39), .binOp .add 3 (.tmp 20) (.const (.int .i64 1)) 3, 3, none, []⟩,
    ⟨(some 20), .move (.tmp 39), 3, none, []⟩]))))
def s26 : SC :=
  (.seq (.reg [⟨(some 6), .assign (.const (.int .i64 0)), 3, none, []⟩,
    ⟨(some 7), .assign (.const (.bool false)), 4, none, []⟩])
  (.seq (.seq (.reg [⟨(some 13), .move (.tmp 0), 3, none, []⟩,
    ⟨(some 14), .call ⟨.value (.func 47), #[(.tmp 13)], #[3]⟩, 4, none, []⟩,
    ⟨(some 15), .unOp .not 4 (.tmp 14), 4, none, []⟩])
  (.cond (.tmp 15)
    (.seq (.reg [⟨(some 6), .assign (.const (.int .i64 0)), 3, none, []⟩,
      ⟨(some 7), .assign (.const (.bool false)), 4, none, []⟩])
    .ret)
    .skip))
  (.seq (.reg [⟨(some 16), .move (.tmp 1), 3, none, []⟩,
    ⟨(some 17), .call ⟨.builtin .min, #[(.tmp 16), (.const (.int .i64 255))], #[3, 3]⟩, 3, none, []⟩,
    ⟨(some 8), .assign (.tmp 17), 3, none, []⟩])
  (.seq (.seq (.reg [⟨(some 18), .move (.tmp 2), 24, none, []⟩,
    ⟨(some 19), .call ⟨.builtin .len, #[(.tmp 18)], #[24]⟩, 3, none, []⟩,
    ⟨(some 20), .move (.const (.int .i64 0)), 3, none, []⟩])
  (.block 0 (.loop (some ([0, 8, 18, 19, 20], 0)) s26_0)))
  (.seq (.seq (.reg [⟨(some 40), .move (.tmp 8), 3, none, []⟩,
    ⟨(some 41), .binOp .lss 3 (.tmp 40) (.const (.int .i64 0)) 3, 4, none, []⟩])
  (.cond (.tmp 41)
    (.seq (.reg [⟨(some 6), .assign (.const (.int .i64 0)), 3, none, []⟩,
      ⟨(some 7), .assign (.const (.bool false)), 4, none, []⟩])
    .ret)
    .skip))
  (.seq (.reg [⟨(some 42), .move (.tmp 8), 3, none, []⟩,
    ⟨(some 6), .assign (.tmp 42), 3, none, []⟩,
    ⟨(some 7), .assign (.const (.bool true)), 4, none, []⟩])
  .ret))))))
theorem l26 : slimF Hs 26 Try.f26 = some (43, s26, [.tmp 6, .tmp 7]) := by kernel_rfl

/-! 28 kerbsuite/header.Is -/
def s28 : SC :=
  (.seq (.reg [⟨(some 4), .assign (.const (.bool false)), 4, none, []⟩,
    ⟨(some 5), .assign (.const (.int .i64 0)), 26, none, []⟩])
  (.seq (.reg [⟨(some 10), .move (.tmp 0), 22, none, []⟩,
    ⟨(some 11), .call ⟨.value (.func 18), #[(.tmp 10)], #[22]⟩, 27, none, []⟩,
    ⟨(some 9), .move (.tmp 11), 27, none, []⟩,
    ⟨(some 12), .extract (.tmp 9) 0, 3, none, []⟩,
    ⟨(some 13), .extract (.tmp 9) 1, 4, none, []⟩,
    ⟨(some 14), .extract (.tmp 9) 2, 26, none, []⟩,
    ⟨(some 6), .assign (.tmp 12), 3, none, []⟩,
    ⟨(some 7), .assign (.tmp 13), 4, none, []⟩,
    ⟨(some 8), .assign (.tmp 14), 26, none, []⟩])
  (.seq (.seq (.reg [⟨(some 15), .move (.tmp 8), 26, none, []⟩,
    ⟨(some 16), .binOp .neq 26 (.tmp 15) (.const (.int .i64 0)) 26, 4, none, []⟩])
  (.cond (.tmp 16)
    (.seq (.reg [⟨(some 17), .move (.tmp 8), 26, none, []⟩,
      ⟨(some 4), .assign (.const (.bool false)), 4, none, []⟩,
      ⟨(some 5), .assign (.tmp 17), 26, none, []⟩])
    .ret)
    .skip))
  (.seq (.seq (.reg [⟨(some 18), .move (.tmp 1), 24, none, []⟩,
    ⟨(some 19), .move (.tmp 6), 3, none, []⟩,
    ⟨(some 20), .call ⟨.value (.func 50), #[(.tmp 18), (.tmp 19)], #[24, 3]⟩, 4, none, []⟩,
    ⟨(some 21), .unOp .not 4 (.tmp 20), 4, none, []⟩])
  (.cond (.tmp 21)
    (.seq (.reg [⟨(some 4), .assign (.const (.bool false)), 4, none, []⟩,
      ⟨(some 5), .assign (.const (.int .i64 40)), 26, none, []⟩])
    .ret)
    .skip))
  (.seq (.reg [⟨(some 22), .move (.tmp 7), 4, none, []⟩,
    ⟨(some 4), .assign (.tmp 22), 4, none, []⟩,
    ⟨(some 5), .assign (.const (.int .i64 0)), 26, none, []⟩])
  .ret)))))
theorem l28 : slimF Hs 28 Try.f28 = some (23, s28, [.tmp 4, .tmp 5]) := by kernel_rfl

/-! 29 kerbsuite/kerbsuiteref8.Is -/
def s29_0 : SC :=
  (.seq (.seq (.reg [⟨(some 19), .move (.tmp 9), 3, none, []⟩,
    ⟨(some 20), .move (.tmp 1), 24, none, []⟩,
    ⟨(some 21), .call ⟨.builtin .len, #[(.tmp 20)], #[24]⟩, 3, none, []⟩,
    ⟨(some 22), .binOp .lss 3 (.tmp 19) (.tmp 21) 3, 4, none, []⟩])
  (.cond (.tmp 22)
    .skip
    (.exit 0)))
  (.seq (.block 1 (.seq (.reg [⟨(some 25), .move (.tmp 1), 24, none, []⟩,
    ⟨(some 26), .move (.tmp 9), 3, none, []⟩,
    ⟨(some 27), .indexAddr 24 (.tmp 25) (.tmp 26), 0, none, []⟩,
    ⟨(some 28), .load 3 (.tmp 27), 3, none, []⟩,
    ⟨(some 29), .move (.tmp 6), 3, none, []⟩,
    ⟨(some 30), .binOp .eql 3 (.tmp 28) (.tmp 29) 3, 4, none, []⟩])
  (.cond (.tmp 30)
    (.seq (.reg [⟨(some 31), .move (.tmp 7), 4, none, []⟩,
      ⟨(some 4), .assign (.tmp 31), 4, none, []⟩,
      ⟨(some 5), .assign (.const (.int .i64 0)), 26, none, []⟩])
    .ret)
    .skip)))
  (.reg [⟨(some 23), .move (.tmp 9), 3, none, []⟩,
    ⟨(some 24), .binOp .add 3 (.tmp 23) (.const (.int .i64 1)) 3, 3, none, []⟩,
    ⟨(some 9), .assign (.tmp 24), 3, none, []⟩])))
def s29 : SC :=
  (.seq (.reg [⟨(some 4), .assign (.const (.bool false)), 4, none, []⟩,
    ⟨(some 5), .assign (.const (.int .i64 0)), 26, none, []⟩])
  (.seq (.reg [⟨(some 11), .move (.tmp 0), 22, none, []⟩,
    ⟨(some 12), .call ⟨.value (.func 19), #[(.tmp 11)], #[22]⟩, 27, none, []⟩,
    ⟨(some 10), .move (.tmp 12), 27, none, []⟩,
    ⟨(some 13), .extract (.tmp 10) 0, 3, none, []⟩,
    ⟨(some 14), .extract (.tmp 10) 1, 4, none, []⟩,
    ⟨(some 15), .extract (.tmp 10) 2, 26, none, []⟩,
    ⟨(some 6), .assign (.tmp 13), 3, none, []⟩,
    ⟨(some 7), .assign (.tmp 14), 4, none, []⟩,
    ⟨(some 8), .assign (.tmp 15), 26, none, []⟩])
  (.seq (.seq (.reg [⟨(some 16), .move (.tmp 8), 26, none, []⟩,
    ⟨(some 17), .binOp .neq 26 (.tmp 16) (.const (.int .i64 0)) 26, 4, none, []⟩])
  (.cond (.tmp 17)
    (.seq (.reg [⟨(some 18), .move (.tmp 8), 26, none, []⟩,
      ⟨(some 4), .assign (.const (.bool false)), 4, none, []⟩,
      ⟨(some 5), .assign (.tmp 18), 26, none, []⟩])
    .ret)
    .skip))
  (.seq (.seq (.reg [⟨(some 9), .assign (.const (.int .i64 0)), 3, none, []⟩])
  (.block 0 (.loop (some ([1, 6, 7, 9], 0)) s29_0)))
  (.seq (.reg [⟨(some 4), .assign (.const (.bool false)), 4, none, []⟩,
    ⟨(some 5), .assign (.const (.int .i64 40)), 26, none, []⟩])
  .ret)))))
theorem l29 : slimF Hs 29 Try.f29 = some (32, s29, [.tmp 4, .tmp 5]) := by kernel_rfl

/-! 30 kerbsuite/kerbsuitelaw3.awake -/
def s30 : SC :=
  (.seq (.reg [⟨(some 0), .assign (.const (.bool false)), 4, none, []⟩])
  (.seq (.reg [⟨(some 4), .call ⟨.value (.func 31), #[(.const (.int .i64 2)), (.const (.int .i64 5))], #[3, 3]⟩, 48, none, []⟩,
    ⟨(some 5), .call ⟨.value (.func 31), #[(.const (.int .i64 2)), (.const (.int .i64 6))], #[3, 3]⟩, 48, none, []⟩,
    ⟨(some 6), .buildSlice 53 2 #[(0, (.tmp 4)), (1, (.tmp 5))], 53, none, []⟩,
    ⟨(some 1), .assign (.tmp 6), 53, none, []⟩])
  (.seq (.reg [⟨(some 8), .move (.tmp 1), 53, none, []⟩,
    ⟨(some 9), .call ⟨.value (.func 39), #[(.tmp 8), (.const (.int .i64 2)), (.const (.int .i64 5))], #[53, 3, 3]⟩, 54, none, []⟩,
    ⟨(some 7), .move (.tmp 9), 54, none, []⟩,
    ⟨(some 10), .extract (.tmp 7) 0, 48, none, []⟩,
    ⟨(some 11), .extract (.tmp 7) 1, 4, none, []⟩,
    ⟨(some 2), .assign (.tmp 10), 48, none, []⟩,
    ⟨(some 3), .assign (.tmp 11), 4, none, []⟩])
  (.seq (.reg [⟨(some 12), .move (.tmp 3), 4, none, []⟩,
    ⟨(some 13), .move (.tmp 12), 4, none, []⟩,
    ⟨(some 14), .move (.tmp 2), 48, some (13, true), []⟩,
    ⟨(some 15), .call ⟨.value (.func 35), #[(.tmp 14)], #[48]⟩, 3, some (13, true), []⟩,
    ⟨(some 16), .binOp .eql 3 (.tmp 15) (.const (.int .i64 7)) 3, 4, some (13, true), []⟩,
    ⟨(some 17), .pick (.tmp 13) (.tmp 16) (.const (.bool false)), 4, none, []⟩,
    ⟨(some 18), .move (.tmp 17), 4, none, []⟩,
    ⟨(some 19), .move (.tmp 2), 48, some (18, true), []⟩,
    ⟨(some 20), .call ⟨.value (.func 34), #[(.tmp 19)], #[48]⟩, 3, some (18, true), []⟩,
    ⟨(some 21), .binOp .eql 3 (.tmp 20) (.const (.int .i64 2)) 3, 4, some (18, true), []⟩,
    ⟨(some 22), .pick (.tmp 18) (.tmp 21) (.const (.bool false)), 4, none, []⟩,
    ⟨(some 23), .move (.tmp 22), 4, none, []⟩,
    ⟨(some 24), .move (.tmp 2), 48, some (23, true), []⟩,
    ⟨(some 25), .call ⟨.value (.func 33), #[(.tmp 24)], #[48]⟩, 4, some (23, true), []⟩,
    ⟨(some 26), .pick (.tmp 23) (.tmp 25) (.const (.bool false)), 4, none, []⟩,
    ⟨(some 0), .assign (.tmp 26), 4, none, []⟩])
  .ret))))
theorem l30 : slimF Hs 30 Try.f30 = some (27, s30, [.tmp 0]) := by kernel_rfl

/-! 31 kerbsuite/key.Make -/
def s31 : SC :=
  (.seq (.reg [⟨(some 4), .assign (.const (.int .u64 0)), 48, none, []⟩])
  (.seq (.seq (.reg [⟨(some 5), .move (.tmp 0), 3, none, []⟩,
    ⟨(some 6), .binOp .neq 3 (.tmp 5) (.const (.int .i64 1)) 3, 4, none, []⟩,
    ⟨(some 7), .move (.tmp 6), 4, none, []⟩,
    ⟨(some 8), .move (.tmp 0), 3, some (7, true), []⟩,
    ⟨(some 9), .binOp .neq 3 (.tmp 8) (.const (.int .i64 2)) 3, 4, some (7, true), []⟩,
    ⟨(some 10), .pick (.tmp 7) (.tmp 9) (.const (.bool false)), 4, none, []⟩,
    ⟨(some 11), .move (.tmp 10), 4, none, []⟩,
    ⟨(some 12), .move (.tmp 1), 3, some (11, false), []⟩,
    ⟨(some 13), .binOp .lss 3 (.tmp 12) (.const (.int .i64 1)) 3, 4, some (11, false), []⟩,
    ⟨(some 14), .pick (.tmp 11) (.const (.bool true)) (.tmp 13), 4, none, []⟩,
    ⟨(some 15), .move (.tmp 14), 4, none, []⟩,
    ⟨(some 16), .move (.tmp 1), 3, some (15, false), []⟩,
    ⟨(some 17), .binOp .gtr 3 (.tmp 16) (.const (.int .i64 4294967295)) 3, 4, some (15, false), []⟩,
    ⟨(some 18), .pick (.tmp 15) (.const (.bool true)) (.tmp 17), 4, none, []⟩])
  (.cond (.tmp 18)
    (.seq (.reg [⟨(some 4), .assign (.const (.int .u64 0)), 48, none, []⟩])
    .ret)
    .skip))
  (.seq (.reg [⟨(some 19), .move (.tmp 0), 3, none, []⟩,
    ⟨(some 20), .convert 3 47 (.tmp 19), 47, none, []⟩,
    ⟨(some 21), .binOp .shl 47 (.tmp 20) (.const (.int .u64 56)) 65, 47, none, []⟩,
    ⟨(some 22), .move (.tmp 1), 3, none, []⟩,
    ⟨(some 23), .convert 3 47 (.tmp 22), 47, none, []⟩,
    ⟨(some 24), .binOp .or 47 (.tmp 21) (.tmp 23) 47, 47, none, []⟩,
    ⟨(some 4), .assign (.tmp 24), 48, none, []⟩])
  .ret)))
theorem l31 : slimF Hs 31 Try.f31 = some (25, s31, [.tmp 4]) := by kernel_rfl

/-! 32 kerbsuite/kerbsuiteref3.Make -/
def s32 : SC :=
  (.seq (.reg [⟨(some 4), .assign (.const (.int .u64 0)), 48, none, []⟩])
  (.seq (.seq (.reg [⟨(some 5), .move (.tmp 0), 3, none, []⟩,
    ⟨(some 6), .binOp .neq 3 (.tmp 5) (.const (.int .i64 1)) 3, 4, none, []⟩,
    ⟨(some 7), .move (.tmp 6), 4, none, []⟩,
    ⟨(some 8), .move (.tmp 0), 3, some (7, true), []⟩,
    ⟨(some 9), .binOp .neq 3 (.tmp 8) (.const (.int .i64 2)) 3, 4, some (7, true), []⟩,
    ⟨(some 10), .pick (.tmp 7) (.tmp 9) (.const (.bool false)), 4, none, []⟩,
    ⟨(some 11), .move (.tmp 10), 4, none, []⟩,
    ⟨(some 12), .move (.tmp 1), 3, some (11, false), []⟩,
    ⟨(some 13), .binOp .lss 3 (.tmp 12) (.const (.int .i64 1)) 3, 4, some (11, false), []⟩,
    ⟨(some 14), .pick (.tmp 11) (.const (.bool true)) (.tmp 13), 4, none, []⟩,
    ⟨(some 15), .move (.tmp 14), 4, none, []⟩,
    ⟨(some 16), .move (.tmp 1), 3, some (15, false), []⟩,
    ⟨(some 17), .binOp .gtr 3 (.tmp 16) (.const (.int .i64 4294967295)) 3, 4, some (15, false), []⟩,
    ⟨(some 18), .pick (.tmp 15) (.const (.bool true)) (.tmp 17), 4, none, []⟩])
  (.cond (.tmp 18)
    (.seq (.reg [⟨(some 4), .assign (.const (.int .u64 0)), 48, none, []⟩])
    .ret)
    .skip))
  (.seq (.reg [⟨(some 19), .move (.tmp 0), 3, none, []⟩,
    ⟨(some 20), .convert 3 48 (.tmp 19), 48, none, []⟩,
    ⟨(some 21), .binOp .shl 48 (.tmp 20) (.const (.int .u64 56)) 65, 48, none, []⟩,
    ⟨(some 22), .move (.tmp 1), 3, none, []⟩,
    ⟨(some 23), .convert 3 48 (.tmp 22), 48, none, []⟩,
    ⟨(some 24), .binOp .or 48 (.tmp 21) (.tmp 23) 48, 48, none, []⟩,
    ⟨(some 4), .assign (.tmp 24), 48, none, []⟩])
  .ret)))
theorem l32 : slimF Hs 32 Try.f32 = some (25, s32, [.tmp 4]) := by kernel_rfl

/-! 33 kerbsuite/key.Valid -/
def s33 : SC :=
  (.seq (.reg [⟨(some 2), .assign (.const (.bool false)), 4, none, []⟩])
  (.seq (.reg [⟨(some 3), .move (.tmp 0), 48, none, []⟩,
    ⟨(some 4), .call ⟨.value (.func 34), #[(.tmp 3)], #[48]⟩, 3, none, []⟩,
    ⟨(some 5), .binOp .neq 3 (.tmp 4) (.const (.int .i64 0)) 3, 4, none, []⟩,
    ⟨(some 2), .assign (.tmp 5), 4, none, []⟩])
  .ret))
theorem l33 : slimF Hs 33 Try.f33 = some (6, s33, [.tmp 2]) := by kernel_rfl

/-! 34 kerbsuite/key.Class -/
def s34 : SC :=
  (.seq (.reg [⟨(some 2), .assign (.const (.int .i64 0)), 3, none, []⟩])
  (.seq (.reg [⟨(some 6), .move (.tmp 0), 48, none, []⟩,
    ⟨(some 7), .call ⟨.value (.func 51), #[(.tmp 6)], #[48]⟩, 66, none, []⟩,
    ⟨(some 5), .move (.tmp 7), 66, none, []⟩,
    ⟨(some 8), .extract (.tmp 5) 0, 3, none, []⟩,
    ⟨(some 9), .extract (.tmp 5) 1, 3, none, []⟩,
    ⟨(some 3), .assign (.tmp 8), 3, none, []⟩,
    ⟨(some 4), .assign (.tmp 9), 3, none, []⟩])
  (.seq (.reg [⟨(some 10), .move (.tmp 3), 3, none, []⟩,
    ⟨(some 2), .assign (.tmp 10), 3, none, []⟩])
  .ret)))
theorem l34 : slimF Hs 34 Try.f34 = some (11, s34, [.tmp 2]) := by kernel_rfl

/-! 35 kerbsuite/key.Serial -/
def s35 : SC :=
  (.seq (.reg [⟨(some 2), .assign (.const (.int .i64 0)), 3, none, []⟩])
  (.seq (.reg [⟨(some 6), .move (.tmp 0), 48, none, []⟩,
    ⟨(some 7), .call ⟨.value (.func 51), #[(.tmp 6)], #[48]⟩, 66, none, []⟩,
    ⟨(some 5), .move (.tmp 7), 66, none, []⟩,
    ⟨(some 8), .extract (.tmp 5) 0, 3, none, []⟩,
    ⟨(some 9), .extract (.tmp 5) 1, 3, none, []⟩,
    ⟨(some 3), .assign (.tmp 8), 3, none, []⟩,
    ⟨(some 4), .assign (.tmp 9), 3, none, []⟩])
  (.seq (.reg [⟨(some 10), .move (.tmp 4), 3, none, []⟩,
    ⟨(some 2), .assign (.tmp 10), 3, none, []⟩])
  .ret)))
theorem l35 : slimF Hs 35 Try.f35 = some (11, s35, [.tmp 2]) := by kernel_rfl

/-! 36 kerbsuite/kerbsuiteref3.Valid -/
def s36 : SC :=
  (.seq (.reg [⟨(some 2), .assign (.const (.bool false)), 4, none, []⟩])
  (.seq (.reg [⟨(some 3), .move (.tmp 0), 48, none, []⟩,
    ⟨(some 4), .binOp .neq 48 (.tmp 3) (.const (.int .u64 0)) 48, 4, none, []⟩,
    ⟨(some 5), .move (.tmp 4), 4, none, []⟩,
    ⟨(some 6), .move (.tmp 0), 48, some (5, true), []⟩,
    ⟨(some 7), .binOp .shr 48 (.tmp 6) (.const (.int .u64 56)) 65, 48, some (5, true), []⟩,
    ⟨(some 8), .convert 48 3 (.tmp 7), 3, some (5, true), []⟩,
    ⟨(some 9), .move (.tmp 0), 48, some (5, true), []⟩,
    ⟨(some 10), .binOp .and 48 (.tmp 9) (.const (.int .u64 72057594037927935)) 48, 48, some (5, true), []⟩,
    ⟨(some 11), .convert 48 3 (.tmp 10), 3, some (5, true), []⟩,
    ⟨(some 12), .call ⟨.value (.func 32), #[(.tmp 8), (.tmp 11)], #[3, 3]⟩, 48, some (5, true), []⟩,
    ⟨(some 13), .move (.tmp 0), 48, some (5, true), []⟩,
    ⟨(some 14), .binOp .eql 48 (.tmp 12) (.tmp 13) 48, 4, some (5, true), []⟩,
    ⟨(some 15), .pick (.tmp 5) (.tmp 14) (.const (.bool false)), 4, none, []⟩,
    ⟨(some 2), .assign (.tmp 15), 4, none, []⟩])
  .ret))
theorem l36 : slimF Hs 36 Try.f36 = some (16, s36, [.tmp 2]) := by kernel_rfl

/-! 37 kerbsuite/kerbsuiteref3.Class -/
def s37 : SC :=
  (.seq (.reg [⟨(some 2), .assign (.const (.int .i64 0)), 3, none, []⟩])
  (.seq (.seq (.reg [⟨(some 3), .move (.tmp 0), 48, none, []⟩,
    ⟨(some 4), .call ⟨.value (.func 36), #[(.tmp 3)], #[48]⟩, 4, none, []⟩,
    ⟨(some 5), .unOp .not 4 (.tmp 4), 4, none, []⟩])
  (.cond (.tmp 5)
    (.seq (.reg [⟨(some 2), .assign (.const (.int .i64 0)), 3, none, []⟩])
    .ret)
    .skip))
  (.seq (.reg [⟨(some 6), .move (.tmp 0), 48, none, []⟩,
    ⟨(some 7), .binOp .shr 48 (.tmp 6) (.const (.int .u64 56)) 65, 48, none, []⟩,
    ⟨(some 8), .convert 48 3 (.tmp 7), 3, none, []⟩,
    ⟨(some 2), .assign (.tmp 8), 3, none, []⟩])
  .ret)))
theorem l37 : slimF Hs 37 Try.f37 = some (9, s37, [.tmp 2]) := by kernel_rfl

/-! 38 kerbsuite/kerbsuiteref3.Serial -/
def s38 : SC :=
  (.seq (.reg [⟨(some 2), .assign (.const (.int .i64 0)), 3, none, []⟩])
  (.seq (.seq (.reg [⟨(some 3), .move (.tmp 0), 48, none, []⟩,
    ⟨(some 4), .call ⟨.value (.func 36), #[(.tmp 3)], #[48]⟩, 4, none, []⟩,
    ⟨(some 5), .unOp .not 4 (.tmp 4), 4, none, []⟩])
  (.cond (.tmp 5)
    (.seq (.reg [⟨(some 2), .assign (.const (.int .i64 0)), 3, none, []⟩])
    .ret)
    .skip))
  (.seq (.reg [⟨(some 6), .move (.tmp 0), 48, none, []⟩,
    ⟨(some 7), .binOp .and 48 (.tmp 6) (.const (.int .u64 72057594037927935)) 48, 48, none, []⟩,
    ⟨(some 8), .convert 48 3 (.tmp 7), 3, none, []⟩,
    ⟨(some 2), .assign (.tmp 8), 3, none, []⟩])
  .ret)))
theorem l38 : slimF Hs 38 Try.f38 = some (9, s38, [.tmp 2]) := by kernel_rfl

/-! 39 kerbsuite/key.Draw -/
def s39_0 : SC :=
  (.seq (.reg [⟨(some 28), .binOp .lss 3 (.tmp 27) (.tmp 26) 3, 0, none, []⟩])
  (.seq (.cond (.tmp 28)
    .skip
    (.exit 0))
  (.seq (.block 1 (.seq (.reg [⟨(some 29), .indexAddr 53 (.tmp 25) (.tmp 27), 0, none, []⟩,
    ⟨(some 30), .load 48 (.tmp 29), 48, none, []⟩,
    ⟨(some 10), .assign (.tmp 30), 48, none, []⟩])
  (.reg [⟨(some 31), .move (.tmp 8), 68, none, []⟩,
    ⟨(some 32), .move (.tmp 10), 48, none, []⟩,
    ⟨none, .mapUpdate 68 (.tmp 31) (.tmp 32) (.const (.bool true)), 0, none, []⟩])))
  (.reg [⟨(some 33), .binOp .add 3 (.tmp 27) (.const (.int .i64 1)) 3, 3, none, []⟩,
    ⟨(some 27), .move (.tmp 33), 3, none, []⟩]))))
def s39_1 : SC :=
  (.seq (.seq (.reg [⟨(some 35), .move (.tmp 11), 3, none, []⟩,
    ⟨(some 36), .binOp .leq 3 (.tmp 35) (.const (.int .i64 4294967295)) 3, 4, none, []⟩])
  (.cond (.tmp 36)
    .skip
    (.exit 2)))
  (.seq (.block 3 (.seq (.reg [⟨(some 39), .move (.tmp 1), 3, none, []⟩,
    ⟨(some 40), .move (.tmp 11), 3, none, []⟩,
    ⟨(some 41), .call ⟨.value (.func 31), #[(.tmp 39), (.tmp 40)], #[3, 3]⟩, 48, none, []⟩,
    ⟨(some 12), .assign (.tmp 41), 48, none, []⟩])
  (.seq (.reg [⟨(some 42), .move (.tmp 8), 68, none, []⟩,
    ⟨(some 43), .move (.tmp 12), 48, none, []⟩,
    ⟨(some 44), .lookup 68 (.tmp 42) (.tmp 43) false, 4, none, []⟩,
    ⟨(some 45), .unOp .not 4 (.tmp 44), 4, none, []⟩])
  (.cond (.tmp 45)
    (.seq (.reg [⟨(some 46), .move (.tmp 12), 48, none, []⟩,
      ⟨(some 6), .assign (.tmp 46), 48, none, []⟩,
      ⟨(some 7), .assign (.const (.bool true)), 4, none, []⟩])
    .ret)
    .skip))))
  (.reg [⟨(some 37), .move (.tmp 11), 3, none, []⟩,
    ⟨(some 38), .binOp .add 3 (.tmp 37) (.const (.int .i64 1)) 3, 3, none, []⟩,
    ⟨(some 11), .assign (.tmp 38), 3, none, []⟩])))
def s39_2 : SC :=
  (.seq (.seq (.reg [⟨(some 47), .move (.tmp 13), 3, none, []⟩,
    ⟨(some 48), .move (.tmp 2), 3, none, []⟩,
    ⟨(some 49), .binOp .lss 3 (.tmp 47) (.tmp 48) 3, 4, none, []⟩])
  (.cond (.tmp 49)
    .skip
    (.exit 4)))
  (.seq (.block 5 (.seq (.reg [⟨(some 52), .move (.tmp 1), 3, none, []⟩,
    ⟨(some 53), .move (.tmp 13), 3, none, []⟩,
    ⟨(some 54), .call ⟨.value (.func 31), #[(.tmp 52), (.tmp 53)], #[3, 3]⟩, 48, none, []⟩,
    ⟨(some 14), .assign (.tmp 54), 48, none, []⟩])
  (.seq (.reg [⟨(some 55), .move (.tmp 8), 68, none, []⟩,
    ⟨(some 56), .move (.tmp 14), 48, none, []⟩,
    ⟨(some 57), .lookup 68 (.tmp 55) (.tmp 56) false, 4, none, []⟩,
    ⟨(some 58), .unOp .not 4 (.tmp 57), 4, none, []⟩])
  (.cond (.tmp 58)
    (.seq (.reg [⟨(some 59), .move (.tmp 14), 48, none, []⟩,
      ⟨(some 6), .assign (.tmp 59), 48, none, []⟩,
      ⟨(some 7), .assign (.const (.bool true)), 4, none, []⟩])
    .ret)
    .skip))))
  (.reg [⟨(some 50), .move (.tmp 13), 3, none, []⟩,
    ⟨(some 51), .binOp .add 3 (.tmp 50) (.const (.int .i64 1)) 3, 3, none, []⟩,
    ⟨(some 13), .assign (.tmp 51), 3, none, []⟩])))
def s39 : SC :=
  (.seq (.reg [⟨(some 6), .assign (.const (.int .u64 0)), 48, none, []⟩,
    ⟨(some 7), .assign (.const (.bool false)), 4, none, []⟩])
  (.seq (.seq (.reg [⟨(some 15), .move (.tmp 1), 3, none, []⟩,
    ⟨(some 16), .call ⟨.value (.func 31), #[(.tmp 15), (.const (.int .i64 1))], #[3, 3]⟩, 48, none, []⟩,
    ⟨(some 17), .binOp .eql 48 (.tmp 16) (.const (.int .u64 0)) 48, 4, none, []⟩])
  (.cond (.tmp 17)
    (.seq (.reg [⟨(some 6), .assign (.const (.int .u64 0)), 48, none, []⟩,
      ⟨(some 7), .assign (.const (.bool false)), 4, none, []⟩])
    .ret)
    .skip))
  (.seq (.seq (.reg [⟨(some 18), .move (.tmp 2), 3, none, []⟩,
    ⟨(some 19), .binOp .lss 3 (.tmp 18) (.const (.int .i64 1)) 3, 4, none, []⟩,
    ⟨(some 20), .move (.tmp 19), 4, none, []⟩,
    ⟨(some 21), .move (.tmp 2), 3, some (20, false), []⟩,
    ⟨(some 22), .binOp .gtr 3 (.tmp 21) (.const (.int .i64 4294967295)) 3, 4, some (20, false), []⟩,
    ⟨(some 23), .pick (.tmp 20) (.const (.bool true)) (.tmp 22), 4, none, []⟩])
  (.cond (.tmp 23)
    (.reg [⟨(some 2), .assign (.const (.int .i64 1)), 3, none, []⟩])
    .skip))
  (.seq (.reg [⟨(some 24), .makeMap 68 none, 68, none, []⟩,
    ⟨(some 8), .assign (.tmp 24), 68, none, []⟩])
  (.seq (.seq (.reg [⟨(some 25), .move (.tmp 0), 53, none, []⟩,
    ⟨(some 26), .call ⟨.builtin .len, #[(.tmp 25)], #[53]⟩, 3, none, []⟩,
    ⟨(some 27), .move (.const (.int .i64 0)), 3, none, []⟩])
  (.block 0 (.loop (some ([1, 2, 8, 25, 26, 27], 0)) s39_0)))
  (.seq (.seq (.reg [⟨(some 34), .move (.tmp 2), 3, none, []⟩,
    ⟨(some 11), .assign (.tmp 34), 3, none, []⟩])
  (.block 2 (.loop (some ([1, 2, 8, 11], 0)) s39_1)))
  (.seq (.seq (.reg [⟨(some 13), .assign (.const (.int .i64 1)), 3, none, []⟩])
  (.block 4 (.loop (some ([1, 2, 8, 13], 0)) s39_2)))
  (.seq (.reg [⟨(some 6), .assign (.const (.int .u64 0)), 48, none, []⟩,
    ⟨(some 7), .assign (.const (.bool false)), 4, none, []⟩])
  .ret))))))))
theorem l39 : slimF Hs 39 Try.f39 = some (60, s39, [.tmp 6, .tmp 7]) := by kernel_rfl

/-! 40 kerbsuite/kerbsuiteref3.Draw -/
def s40 : SC :=
  (.seq (.reg [⟨(some 6), .assign (.const (.int .u64 0)), 48, none, []⟩,
    ⟨(some 7), .assign (.const (.bool false)), 4, none, []⟩])
  (.seq (.seq (.reg [⟨(some 9), .move (.tmp 1), 3, none, []⟩,
    ⟨(some 10), .binOp .neq 3 (.tmp 9) (.const (.int .i64 1)) 3, 4, none, []⟩,
    ⟨(some 11), .move (.tmp 10), 4, none, []⟩,
    ⟨(some 12), .move (.tmp 1), 3, some (11, true), []⟩,
    ⟨(some 13), .binOp .neq 3 (.tmp 12) (.const (.int .i64 2)) 3, 4, some (11, true), []⟩,
    ⟨(some 14), .pick (.tmp 11) (.tmp 13) (.const (.bool false)), 4, none, []⟩])
  (.cond (.tmp 14)
    (.seq (.reg [⟨(some 6), .assign (.const (.int .u64 0)), 48, none, []⟩,
      ⟨(some 7), .assign (.const (.bool false)), 4, none, []⟩])
    .ret)
    .skip))
  (.seq (.seq (.reg [⟨(some 15), .move (.tmp 2), 3, none, []⟩,
    ⟨(some 16), .binOp .lss 3 (.tmp 15) (.const (.int .i64 1)) 3, 4, none, []⟩,
    ⟨(some 17), .move (.tmp 16), 4, none, []⟩,
    ⟨(some 18), .move (.tmp 2), 3, some (17, false), []⟩,
    ⟨(some 19), .binOp .gtr 3 (.tmp 18) (.const (.int .i64 4294967295)) 3, 4, some (17, false), []⟩,
    ⟨(some 20), .pick (.tmp 17) (.const (.bool true)) (.tmp 19), 4, none, []⟩])
  (.cond (.tmp 20)
    (.reg [⟨(some 2), .assign (.const (.int .i64 1)), 3, none, []⟩])
    .skip))
  (.seq (.reg [⟨(some 21), .move (.tmp 0), 53, none, []⟩,
    ⟨(some 22), .move (.tmp 1), 3, none, []⟩,
    ⟨(some 23), .move (.tmp 2), 3, none, []⟩,
    ⟨(some 24), .call ⟨.value (.func 52), #[(.tmp 21), (.tmp 22), (.tmp 23)], #[53, 3, 3]⟩, 3, none, []⟩,
    ⟨(some 8), .assign (.tmp 24), 3, none, []⟩])
  (.seq (.seq (.reg [⟨(some 25), .move (.tmp 8), 3, none, []⟩,
    ⟨(some 26), .binOp .eql 3 (.tmp 25) (.const (.int .i64 0)) 3, 4, none, []⟩])
  (.cond (.tmp 26)
    (.reg [⟨(some 27), .move (.tmp 0), 53, none, []⟩,
      ⟨(some 28), .move (.tmp 1), 3, none, []⟩,
      ⟨(some 29), .call ⟨.value (.func 52), #[(.tmp 27), (.tmp 28), (.const (.int .i64 1))], #[53, 3, 3]⟩, 3, none, []⟩,
      ⟨(some 8), .assign (.tmp 29), 3, none, []⟩])
    .skip))
  (.seq (.reg [⟨(some 30), .move (.tmp 1), 3, none, []⟩,
    ⟨(some 31), .move (.tmp 8), 3, none, []⟩,
    ⟨(some 32), .call ⟨.value (.func 32), #[(.tmp 30), (.tmp 31)], #[3, 3]⟩, 48, none, []⟩,
    ⟨(some 6), .assign (.tmp 32), 48, none, []⟩,
    ⟨(some 7), .assign (.const (.bool true)), 4, none, []⟩])
  .ret))))))
theorem l40 : slimF Hs 40 Try.f40 = some (33, s40, [.tmp 6, .tmp 7]) := by kernel_rfl

/-! 41 kerbsuite/kerbsuitelaw3.list -/
def s41_0 : SC :=
  (.seq (.seq (.reg [⟨(some 5), .move (.tmp 4), 3, none, []⟩,
    ⟨(some 6), .move (.tmp 0), 22, none, []⟩,
    ⟨(some 7), .call ⟨.builtin .len, #[(.tmp 6)], #[22]⟩, 3, none, []⟩,
    ⟨(some 8), .binOp .lss 3 (.tmp 5) (.tmp 7) 3, 4, none, []⟩,
    ⟨(some 9), .move (.tmp 8), 4, none, []⟩,
    ⟨(some 10), .move (.tmp 4), 3, some (9, true), []⟩,
    ⟨(some 11), .binOp .lss 3 (.tmp 10) (.const (.int .i64 60)) 3, 4, some (9, true), []⟩,
    ⟨(some 12), .pick (.tmp 9) (.tmp 11) (.const (.bool false)), 4, none, []⟩])
  (.cond (.tmp 12)
    .skip
    (.exit 0)))
  (.seq (.block 1 (.drw [(⟨(some 15), .move (.tmp 3), 53, none, []⟩, []),
    (⟨(some 16), .move (.tmp 0), 22, none, []⟩, []),
    (⟨(some 17), .move (.tmp 4), 3, none, []⟩, []),
    (⟨(some 18), .indexAddr 22 (.tmp 16) (.tmp 17), 0, none, []⟩, [0]),
    (⟨(some 19), .load 5 (.tmp 18), 5, none, []⟩, [0]),
    (⟨(some 20), .convert 5 3 (.tmp 19), 3, none, []⟩, [0]),
    (⟨(some 21), .binOp .rem 3 (.tmp 20) (.const (.int .i64 2)) 3, 3, none, []⟩, []),
    (⟨(some 22), .binOp .add 3 (.const (.int .i64 1)) (.tmp 21) 3, 3, none, []⟩, []),
    (⟨(some 23), .move (.tmp 0), 22, none, []⟩, [3, 4, 5]),
    (⟨(some 24), .move (.tmp 4), 3, none, []⟩, [3, 4, 5]),
    (⟨(some 25), .indexAddr 22 (.tmp 23) (.tmp 24), 0, none, []⟩, [0, 1, 2, 3, 4, 5, 6, 7]),
    (⟨(some 26), .load 5 (.tmp 25), 5, none, []⟩, [0, 1, 2, 3, 4, 5, 6, 7]),
    (⟨(some 27), .convert 5 3 (.tmp 26), 3, none, []⟩, [0, 1, 2, 3, 4, 5, 6, 7]),
    (⟨(some 28), .binOp .quo 3 (.tmp 27) (.const (.int .i64 2)) 3, 3, none, []⟩, [3, 4, 5]),
    (⟨(some 29), .binOp .add 3 (.const (.int .i64 1)) (.tmp 28) 3, 3, none, []⟩, [3, 4, 5]),
    (⟨(some 30), .call ⟨.value (.func 32), #[(.tmp 22), (.tmp 29)], #[3, 3]⟩, 48, none, []⟩, [0]),
    (⟨(some 31), .call ⟨.value (.func 53), #[(.tmp 15), (.tmp 30)], #[53, 48]⟩, 53, none, []⟩, []),
    (⟨(some 3), .assign (.tmp 31), 53, none, []⟩, [])]))
  (.reg [⟨(some 13), .move (.tmp 4), 3, none, []⟩,
    ⟨(some 14), .binOp .add 3 (.tmp 13) (.const (.int .i64 1)) 3, 3, none, []⟩,
    ⟨(some 4), .assign (.tmp 14), 3, none, []⟩])))
def s41 : SC :=
  (.seq (.reg [⟨(some 2), .assign (.const (.slice none 0 0)), 53, none, []⟩])
  (.seq (.reg [⟨(some 3), .assign (.const (.slice none 0 0)), 53, none, [0]⟩])
  (.seq (.seq (.reg [⟨(some 4), .assign (.const (.int .i64 0)), 3, none, []⟩])
  (.block 0 (.loop (some ([0, 3, 4], 0)) s41_0)))
  (.seq (.reg [⟨(some 32), .move (.tmp 3), 53, none, []⟩,
    ⟨(some 2), .assign (.tmp 32), 53, none, []⟩])
  .ret))))
theorem l41 : slimF Hs 41 Try.f41 = some (33, s41, [.tmp 2]) := by kernel_rfl

/-! 46 kerbsuite/header.isType -/
def s46 : SC :=
  (.seq (.reg [⟨(some 2), .assign (.const (.bool false)), 4, none, []⟩])
  (.seq (.reg [⟨(some 3), .move (.tmp 0), 3, none, []⟩,
    ⟨(some 4), .binOp .geq 3 (.tmp 3) (.const (.int .i64 1)) 3, 4, none, []⟩,
    ⟨(some 5), .move (.tmp 4), 4, none, []⟩,
    ⟨(some 6), .move (.tmp 0), 3, some (5, true), []⟩,
    ⟨(some 7), .binOp .leq 3 (.tmp 6) (.const (.int .i64 10)) 3, 4, some (5, true), []⟩,
    ⟨(some 8), .pick (.tmp 5) (.tmp 7) (.const (.bool false)), 4, none, []⟩,
    ⟨(some 2), .assign (.tmp 8), 4, none, []⟩])
  .ret))
theorem l46 : slimF Hs 46 Try.f46 = some (9, s46, [.tmp 2]) := by kernel_rfl

/-! 47 kerbsuite/lifetime.isTime -/
def s47 : SC :=
  (.seq (.reg [⟨(some 2), .assign (.const (.bool false)), 4, none, []⟩])
  (.seq (.reg [⟨(some 3), .move (.tmp 0), 3, none, []⟩,
    ⟨(some 4), .binOp .geq 3 (.tmp 3) (.const (.int .i64 0)) 3, 4, none, []⟩,
    ⟨(some 5), .move (.tmp 4), 4, none, []⟩,
    ⟨(some 6), .move (.tmp 0), 3, some (5, true), []⟩,
    ⟨(some 7), .binOp .leq 3 (.tmp 6) (.const (.int .i64 4294967295)) 3, 4, some (5, true), []⟩,
    ⟨(some 8), .pick (.tmp 5) (.tmp 7) (.const (.bool false)), 4, none, []⟩,
    ⟨(some 2), .assign (.tmp 8), 4, none, []⟩])
  .ret))
theorem l47 : slimF Hs 47 Try.f47 = some (9, s47, [.tmp 2]) := by kernel_rfl

/-! 48 kerbsuite/lifetime.isLife -/
def s48 : SC :=
  (.seq (.reg [⟨(some 2), .assign (.const (.bool false)), 4, none, []⟩])
  (.seq (.reg [⟨(some 3), .move (.tmp 0), 3, none, []⟩,
    ⟨(some 4), .binOp .geq 3 (.tmp 3) (.const (.int .i64 0)) 3, 4, none, []⟩,
    ⟨(some 5), .move (.tmp 4), 4, none, []⟩,
    ⟨(some 6), .move (.tmp 0), 3, some (5, true), []⟩,
    ⟨(some 7), .binOp .leq 3 (.tmp 6) (.const (.int .i64 255)) 3, 4, some (5, true), []⟩,
    ⟨(some 8), .pick (.tmp 5) (.tmp 7) (.const (.bool false)), 4, none, []⟩,
    ⟨(some 2), .assign (.tmp 8), 4, none, []⟩])
  .ret))
theorem l48 : slimF Hs 48 Try.f48 = some (9, s48, [.tmp 2]) := by kernel_rfl

/-! 50 slices.Contains[[]int,int] -/
def s50 : SC :=
  (.seq (.reg [⟨(some 4), .assign (.const (.bool false)), 4, none, []⟩])
  (.seq (.reg [⟨(some 5), .move (.tmp 0), 24, none, []⟩,
    ⟨(some 6), .move (.tmp 1), 3, none, []⟩,
    ⟨(some 7), .call ⟨.value (.func 55), #[(.tmp 5), (.tmp 6)], #[24, 3]⟩, 3, none, []⟩,
    ⟨(some 8), .binOp .geq 3 (.tmp 7) (.const (.int .i64 0)) 3, 4, none, []⟩,
    ⟨(some 4), .assign (.tmp 8), 4, none, []⟩])
  .ret))
theorem l50 : slimF Hs 50 Try.f50 = some (9, s50, [.tmp 4]) := by kernel_rfl

/-! 51 kerbsuite/key.split -/
def s51 : SC :=
  (.seq (.reg [⟨(some 2), .assign (.const (.int .i64 0)), 3, none, []⟩,
    ⟨(some 3), .assign (.const (.int .i64 0)), 3, none, []⟩])
  (.seq (.reg [⟨(some 4), .move (.tmp 0), 48, none, []⟩,
    ⟨(some 5), .binOp .shr 48 (.tmp 4) (.const (.int .u64 56)) 65, 48, none, []⟩,
    ⟨(some 6), .convert 48 3 (.tmp 5), 3, none, []⟩,
    ⟨(some 7), .move (.tmp 0), 48, none, []⟩,
    ⟨(some 8), .binOp .and 48 (.tmp 7) (.const (.int .u64 72057594037927935)) 48, 48, none, []⟩,
    ⟨(some 9), .convert 48 3 (.tmp 8), 3, none, []⟩,
    ⟨(some 2), .assign (.tmp 6), 3, none, []⟩,
    ⟨(some 3), .assign (.tmp 9), 3, none, []⟩])
  (.seq (.seq (.reg [⟨(some 10), .move (.tmp 0), 48, none, []⟩,
    ⟨(some 11), .binOp .eql 48 (.tmp 10) (.const (.int .u64 0)) 48, 4, none, []⟩,
    ⟨(some 12), .move (.tmp 11), 4, none, []⟩,
    ⟨(some 13), .move (.tmp 2), 3, some (12, false), []⟩,
    ⟨(some 14), .move (.tmp 3), 3, some (12, false), []⟩,
    ⟨(some 15), .call ⟨.value (.func 31), #[(.tmp 13), (.tmp 14)], #[3, 3]⟩, 48, some (12, false), []⟩,
    ⟨(some 16), .move (.tmp 0), 48, some (12, false), []⟩,
    ⟨(some 17), .binOp .neq 48 (.tmp 15) (.tmp 16) 48, 4, some (12, false), []⟩,
    ⟨(some 18), .pick (.tmp 12) (.const (.bool true)) (.tmp 17), 4, none, []⟩])
  (.cond (.tmp 18)
    (.seq (.reg [⟨(some 2), .assign (.const (.int .i64 0)), 3, none, []⟩,
      ⟨(some 3), .assign (.const (.int .i64 0)), 3, none, []⟩])
    .ret)
    .skip))
  (.seq (.reg [⟨(some 19), .move (.tmp 2), 3, none, []⟩,
    ⟨(some 20), .move (.tmp 3), 3, none, []⟩,
    ⟨(some 2), .assign (.tmp 19), 3, none, []⟩,
    ⟨(some 3), .assign (.tmp 20), 3, none, []⟩])
  .ret))))
theorem l51 : slimF Hs 51 Try.f51 = some (21, s51, [.tmp 2, .tmp 3]) := by kernel_rfl

/-! 52 kerbsuite/kerbsuiteref3.free -/
def s52_0 : SC :=
  (.seq (.seq (.reg [⟨(some 7), .move (.tmp 2), 3, none, []⟩,
    ⟨(some 8), .binOp .leq 3 (.tmp 7) (.const (.int .i64 4294967295)) 3, 4, none, []⟩,
    ⟨(some 9), .move (.tmp 8), 4, none, []⟩,
    ⟨(some 10), .move (.tmp 0), 53, some (9, true), []⟩,
    ⟨(some 11), .move (.tmp 1), 3, some (9, true), []⟩,
    ⟨(some 12), .move (.tmp 2), 3, some (9, true), []⟩,
    ⟨(some 13), .call ⟨.value (.func 32), #[(.tmp 11), (.tmp 12)], #[3, 3]⟩, 48, some (9, true), []⟩,
    ⟨(some 14), .call ⟨.value (.func 56), #[(.tmp 10), (.tmp 13)], #[53, 48]⟩, 4, some (9, true), []⟩,
    ⟨(some 15), .pick (.tmp 9) (.tmp 14) (.const (.bool false)), 4, none, []⟩])
  (.cond (.tmp 15)
    .skip
    (.exit 0)))
  (.block 1 (.reg [⟨(some 16), .move (.tmp 2), 3, none, []⟩,
    ⟨(some 17), .binOp .add 3 (.tmp 16) (.const (.int .i64 1)) 3, 3, none, []⟩,
    ⟨(some 2), .assign (.tmp 17), 3, none, []⟩])))
def s52 : SC :=
  (.seq (.reg [⟨(some 6), .assign (.const (.int .i64 0)), 3, none, []⟩])
  (.seq (.block 0 (.loop (some ([0, 1, 2], 0)) s52_0))
  (.seq (.seq (.reg [⟨(some 18), .move (.tmp 2), 3, none, []⟩,
    ⟨(some 19), .binOp .gtr 3 (.tmp 18) (.const (.int .i64 4294967295)) 3, 4, none, []⟩])
  (.cond (.tmp 19)
    (.seq (.reg [⟨(some 6), .assign (.const (.int .i64 0)), 3, none, []⟩])
    .ret)
    .skip))
  (.seq (.reg [⟨(some 20), .move (.tmp 2), 3, none, []⟩,
    ⟨(some 6), .assign (.tmp 20), 3, none, []⟩])
  .ret))))
theorem l52 : slimF Hs 52 Try.f52 = some (21, s52, [.tmp 6]) := by kernel_rfl

/-! 53 kerbsuite/kerbsuiteref3.Add -/
def s53_0 : SC :=
  (.seq (.seq (.reg [⟨(some 6), .move (.tmp 5), 3, none, []⟩,
    ⟨(some 7), .move (.tmp 0), 53, none, []⟩,
    ⟨(some 8), .call ⟨.builtin .len, #[(.tmp 7)], #[53]⟩, 3, none, []⟩,
    ⟨(some 9), .binOp .lss 3 (.tmp 6) (.tmp 8) 3, 4, none, []⟩,
    ⟨(some 10), .move (.tmp 9), 4, none, []⟩,
    ⟨(some 11), .move (.tmp 0), 53, some (10, true), []⟩,
    ⟨(some 12), .move (.tmp 5), 3, some (10, true), []⟩,
    ⟨(some 13), .indexAddr 53 (.tmp 11) (.tmp 12), 0, some (10, true), []⟩,
    ⟨(some 14), .load 48 (.tmp 13), 48, some (10, true), []⟩,
    ⟨(some 15), .move (.tmp 1), 48, some (10, true), []⟩,
    ⟨(some 16), .binOp .lss 48 (.tmp 14) (.tmp 15) 48, 4, some (10, true), []⟩,
    ⟨(some 17), .pick (.tmp 10) (.tmp 16) (.const (.bool false)), 4, none, []⟩])
  (.cond (.tmp 17)
    .skip
    (.exit 0)))
  (.block 1 (.reg [⟨(some 18), .move (.tmp 5), 3, none, []⟩,
    ⟨(some 19), .binOp .add 3 (.tmp 18) (.const (.int .i64 1)) 3, 3, none, []⟩,
    ⟨(some 5), .assign (.tmp 19), 3, none, []⟩])))
def s53 : SC :=
  (.seq (.reg [⟨(some 4), .assign (.const (.slice none 0 0)), 53, none, []⟩])
  (.seq (.reg [⟨(some 5), .assign (.const (.int .i64 0)), 3, none, []⟩])
  (.seq (.block 0 (.loop (some ([0, 1, 5], 0)) s53_0))
  (.seq (.seq (.reg [⟨(some 20), .move (.tmp 5), 3, none, []⟩,
    ⟨(some 21), .move (.tmp 0), 53, none, []⟩,
    ⟨(some 22), .call ⟨.builtin .len, #[(.tmp 21)], #[53]⟩, 3, none, []⟩,
    ⟨(some 23), .binOp .lss 3 (.tmp 20) (.tmp 22) 3, 4, none, []⟩,
    ⟨(some 24), .move (.tmp 23), 4, none, []⟩,
    ⟨(some 25), .move (.tmp 0), 53, some (24, true), []⟩,
    ⟨(some 26), .move (.tmp 5), 3, some (24, true), []⟩,
    ⟨(some 27), .indexAddr 53 (.tmp 25) (.tmp 26), 0, some (24, true), []⟩,
    ⟨(some 28), .load 48 (.tmp 27), 48, some (24, true), []⟩,
    ⟨(some 29), .move (.tmp 1), 48, some (24, true), []⟩,
    ⟨(some 30), .binOp .eql 48 (.tmp 28) (.tmp 29) 48, 4, some (24, true), []⟩,
    ⟨(some 31), .pick (.tmp 24) (.tmp 30) (.const (.bool false)), 4, none, []⟩])
  (.cond (.tmp 31)
    (.seq (.reg [⟨(some 32), .buildSlice 53 0 #[], 53, none, []⟩,
      ⟨(some 33), .move (.tmp 0), 53, none, []⟩,
      ⟨(some 34), .call ⟨.builtin .append, #[(.tmp 32), (.tmp 33)], #[53, 53]⟩, 53, none, []⟩,
      ⟨(some 4), .assign (.tmp 34), 53, none, []⟩])
    .ret)
    .skip))
  (.seq (.drw [(⟨(some 35), .buildSlice 53 0 #[], 53, none, []⟩, []),
    (⟨(some 36), .move (.tmp 0), 53, none, []⟩, [0]),
    (⟨(some 37), .move (.tmp 5), 3, none, []⟩, [0]),
    (⟨(some 38), .slice 53 (.tmp 36) none (some (.tmp 37)) none, 53, none, []⟩, [0]),
    (⟨(some 39), .call ⟨.builtin .append, #[(.tmp 35), (.tmp 38)], #[53, 53]⟩, 53, none, []⟩, []),
    (⟨(some 40), .move (.tmp 1), 48, none, []⟩, [0, 3, 4]),
    (⟨(some 41), .buildSlice 53 1 #[(0, (.tmp 40))], 53, none, []⟩, [0, 1, 2, 3, 4]),
    (⟨(some 42), .call ⟨.builtin .append, #[(.tmp 39), (.tmp 41)], #[53, 53]⟩, 53, none, []⟩, []),
    (⟨(some 43), .move (.tmp 0), 53, none, []⟩, [0, 3, 4, 6, 7]),
    (⟨(some 44), .move (.tmp 5), 3, none, []⟩, [0, 3, 4, 6, 7]),
    (⟨(some 45), .slice 53 (.tmp 43) (some (.tmp 44)) none none, 53, none, []⟩, [0, 1, 2, 3, 4, 5, 6, 7]),
    (⟨(some 46), .call ⟨.builtin .append, #[(.tmp 42), (.tmp 45)], #[53, 53]⟩, 53, none, []⟩, []),
    (⟨(some 4), .assign (.tmp 46), 53, none, []⟩, [])])
  .ret)))))
theorem l53 : slimF Hs 53 Try.f53 = some (47, s53, [.tmp 4]) := by kernel_rfl

/-! 55 slices.Index[[]int,int] -/
def s55_0 : SC :=
  (.seq (.reg [⟨(some 9), .binOp .lss 3 (.tmp 8) (.tmp 7) 3, 0, none, []⟩])
  (.seq (.cond (.tmp 9)
    .skip
    (.exit 0))
  (.seq (.block 1 (.seq (.reg [⟨(some 10), .move (.tmp 8), 3, none, []⟩,
    ⟨(some 5), .assign (.tmp 10), 3, none, []⟩])
  (.seq (.reg [⟨(some 11), .move (.tmp 1), 3, none, []⟩,
    ⟨(some 12), .move (.tmp 0), 24, none, []⟩,
    ⟨(some 13), .move (.tmp 5), 3, none, []⟩,
    ⟨(some 14), .indexAddr 24 (.tmp 12) (.tmp 13), 0, none, []⟩,
    ⟨(some 15), .load 3 (.tmp 14), 3, none, []⟩,
    ⟨(some 16), .binOp .eql 3 (.tmp 11) (.tmp 15) 3, 4, none, []⟩])
  (.cond (.tmp 16)
    (.seq (.reg [⟨(some 17), .move (.tmp 5), 3, none, []⟩,
      ⟨(some 4), .assign (.tmp 17), 3, none, []⟩])
    .ret)
    .skip))))
  (.reg [⟨(some 18), .binOp .add 3 (.tmp 8) (.const (.int .i64 1)) 3, 3, none, []⟩,
    ⟨(some 8), .move (.tmp 18), 3, none, []⟩]))))
def s55 : SC :=
  (.seq (.reg [⟨(some 4), .assign (.const (.int .i64 0)), 3, none, []⟩])
  (.seq (.seq (.reg [⟨(some 6), .move (.tmp 0), 24, none, []⟩,
    ⟨(some 7), .call ⟨.builtin .len, #[(.tmp 6)], #[24]⟩, 3, none, []⟩,
    ⟨(some 8), .move (.const (.int .i64 0)), 3, none, []⟩])
  (.block 0 (.loop (some ([0, 1, 7, 8], 0)) s55_0)))
  (.seq (.reg [⟨(some 4), .assign (.const (.int .i64 (-1))), 3, none, []⟩])
  .ret)))
theorem l55 : slimF Hs 55 Try.f55 = some (19, s55, [.tmp 4]) := by kernel_rfl

/-! 56 kerbsuite/kerbsuiteref3.Has -/
def s56_0 : SC :=
  (.seq (.seq (.reg [⟨(some 6), .move (.tmp 5), 3, none, []⟩,
    ⟨(some 7), .move (.tmp 0), 53, none, []⟩,
    ⟨(some 8), .call ⟨.builtin .len, #[(.tmp 7)], #[53]⟩, 3, none, []⟩,
    ⟨(some 9), .binOp .lss 3 (.tmp 6) (.tmp 8) 3, 4, none, []⟩])
  (.cond (.tmp 9)
    .skip
    (.exit 0)))
  (.seq (.block 1 (.seq (.reg [⟨(some 12), .move (.tmp 0), 53, none, []⟩,
    ⟨(some 13), .move (.tmp 5), 3, none, []⟩,
    ⟨(some 14), .indexAddr 53 (.tmp 12) (.tmp 13), 0, none, []⟩,
    ⟨(some 15), .load 48 (.tmp 14), 48, none, []⟩,
    ⟨(some 16), .move (.tmp 1), 48, none, []⟩,
    ⟨(some 17), .binOp .eql 48 (.tmp 15) (.tmp 16) 48, 4, none, []⟩])
  (.cond (.tmp 17)
    (.seq (.reg [⟨(some 4), .assign (.const (.bool true)), 4, none, []⟩])
    .ret)
    .skip)))
  (.reg [⟨(some 10), .move (.tmp 5), 3, none, []⟩,
    ⟨(some 11), .binOp .add 3 (.tmp 10) (.const (.int .i64 1)) 3, 3, none, []⟩,
    ⟨(some 5), .assign (.tmp 11), 3, none, []⟩])))
def s56 : SC :=
  (.seq (.reg [⟨(some 4), .assign (.const (.bool false)), 4, none, []⟩])
  (.seq (.seq (.reg [⟨(some 5), .assign (.const (.int .i64 0)), 3, none, []⟩])
  (.block 0 (.loop (some ([0, 1, 5], 0)) s56_0)))
  (.seq (.reg [⟨(some 4), .assign (.const (.bool false)), 4, none, []⟩])
  .ret)))
theorem l56 : slimF Hs 56 Try.f56 = some (18, s56, [.tmp 4]) := by kernel_rfl

end Ab
