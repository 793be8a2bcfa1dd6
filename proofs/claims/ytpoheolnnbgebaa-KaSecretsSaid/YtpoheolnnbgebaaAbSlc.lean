/- A part of the proof of a row by an interpreter that is proved sound; no conditions of its own. -/
import Derived.Test.YtpoheolnnbgebaaAbSlcA
namespace Ab
open Go Go.Proofs
set_option maxRecDepth 100000

/-! 20 kerbsuite/kerbsuiteref22.EncodeAnswer -/
def s20 : SC :=
  (.seq (.reg [⟨(some 1), .box 53 (.tmp 0), 0, none, []⟩,
    ⟨(some 2), .assign (.const (.slice none 0 0)), 24, none, []⟩,
    ⟨(some 3), .assign (.const (.int .i64 0)), 34, none, []⟩])
  (.seq (.reg [⟨(some 6), .fieldAddr 53 (.tmp 1) 0, 0, none, []⟩,
    ⟨(some 7), .load 9 (.tmp 6), 9, none, []⟩,
    ⟨(some 8), .binOp .eql 9 (.tmp 7) (.const (.string ⟨#[116, 103, 115, 84]⟩)) 9, 4, none, []⟩,
    ⟨(some 9), .move (.tmp 8), 4, none, []⟩,
    ⟨(some 10), .fieldAddr 53 (.tmp 1) 0, 0, some (9, false), []⟩,
    ⟨(some 11), .load 9 (.tmp 10), 9, some (9, false), []⟩,
    ⟨(some 12), .binOp .eql 9 (.tmp 11) (.const (.string ⟨#[116, 107, 116, 71]⟩)) 9, 4, some (9, false), []⟩,
    ⟨(some 13), .pick (.tmp 9) (.const (.bool true)) (.tmp 12), 4, none, []⟩,
    ⟨(some 4), .assign (.tmp 13), 4, none, []⟩])
  (.seq (.seq (.reg [⟨(some 14), .move (.tmp 4), 4, none, []⟩,
    ⟨(some 15), .unOp .not 4 (.tmp 14), 4, none, []⟩,
    ⟨(some 16), .move (.tmp 15), 4, none, []⟩,
    ⟨(some 17), .fieldAddr 53 (.tmp 1) 0, 0, some (16, true), []⟩,
    ⟨(some 18), .load 9 (.tmp 17), 9, some (16, true), []⟩,
    ⟨(some 19), .binOp .neq 9 (.tmp 18) (.const (.string ⟨#[67, 80, 87, 100]⟩)) 9, 4, some (16, true), []⟩,
    ⟨(some 20), .pick (.tmp 16) (.tmp 19) (.const (.bool false)), 4, none, []⟩])
  (.cond (.tmp 20)
    (.seq (.reg [⟨(some 2), .assign (.const (.slice none 0 0)), 24, none, []⟩,
      ⟨(some 3), .assign (.const (.int .i64 80)), 34, none, []⟩])
    .ret)
    .skip))
  (.seq (.seq (.reg [⟨(some 21), .fieldAddr 53 (.tmp 1) 1, 0, none, []⟩,
    ⟨(some 22), .load 3 (.tmp 21), 3, none, []⟩,
    ⟨(some 23), .call ⟨.value (.func 40), #[(.tmp 22), (.const (.int .i64 4294967295))], #[3, 3]⟩, 4, none, []⟩,
    ⟨(some 24), .unOp .not 4 (.tmp 23), 4, none, []⟩])
  (.cond (.tmp 24)
    (.seq (.reg [⟨(some 2), .assign (.const (.slice none 0 0)), 24, none, []⟩,
      ⟨(some 3), .assign (.const (.int .i64 104)), 34, none, []⟩])
    .ret)
    .skip))
  (.seq (.reg [⟨(some 25), .fieldAddr 53 (.tmp 1) 0, 0, none, []⟩,
    ⟨(some 26), .load 9 (.tmp 25), 9, none, []⟩,
    ⟨(some 27), .convert 9 24 (.tmp 26), 24, none, []⟩,
    ⟨(some 28), .fieldAddr 53 (.tmp 1) 1, 0, none, []⟩,
    ⟨(some 29), .load 3 (.tmp 28), 3, none, []⟩,
    ⟨(some 30), .call ⟨.value (.func 61), #[(.tmp 27), (.tmp 29), (.const (.bool false))], #[24, 3, 4]⟩, 24, none, []⟩,
    ⟨(some 5), .assign (.tmp 30), 24, none, []⟩])
  (.seq (.seq (.reg [⟨(some 31), .move (.tmp 4), 4, none, []⟩,
    ⟨(some 32), .unOp .not 4 (.tmp 31), 4, none, []⟩])
  (.cond (.tmp 32)
    (.seq (.seq (.reg [⟨(some 33), .fieldAddr 53 (.tmp 1) 2, 0, none, []⟩,
      ⟨(some 34), .load 51 (.tmp 33), 51, none, []⟩,
      ⟨(some 35), .binOp .neq 51 (.tmp 34) (.const (.int .u64 0)) 51, 4, none, []⟩,
      ⟨(some 36), .move (.tmp 35), 4, none, []⟩,
      ⟨(some 37), .fieldAddr 53 (.tmp 1) 3, 0, some (36, false), []⟩,
      ⟨(some 38), .load 3 (.tmp 37), 3, some (36, false), []⟩,
      ⟨(some 39), .binOp .neq 3 (.tmp 38) (.const (.int .i64 0)) 3, 4, some (36, false), []⟩,
      ⟨(some 40), .pick (.tmp 36) (.const (.bool true)) (.tmp 39), 4, none, []⟩,
      ⟨(some 41), .move (.tmp 40), 4, none, []⟩,
      ⟨(some 42), .fieldAddr 53 (.tmp 1) 4, 0, some (41, false), []⟩,
      ⟨(some 43), .load 3 (.tmp 42), 3, some (41, false), []⟩,
      ⟨(some 44), .binOp .neq 3 (.tmp 43) (.const (.int .i64 0)) 3, 4, some (41, false), []⟩,
      ⟨(some 45), .pick (.tmp 41) (.const (.bool true)) (.tmp 44), 4, none, []⟩,
      ⟨(some 46), .move (.tmp 45), 4, none, []⟩,
      ⟨(some 47), .fieldAddr 53 (.tmp 1) 5, 0, some (46, false), []⟩,
      ⟨(some 48), .load 3 (.tmp 47), 3, some (46, false), []⟩,
      ⟨(some 49), .binOp .neq 3 (.tmp 48) (.const (.int .i64 0)) 3, 4, some (46, false), []⟩,
      ⟨(some 50), .pick (.tmp 46) (.const (.bool true)) (.tmp 49), 4, none, []⟩,
      ⟨(some 51), .move (.tmp 50), 4, none, []⟩,
      ⟨(some 52), .fieldAddr 53 (.tmp 1) 6, 0, some (51, false), []⟩,
      ⟨(some 53), .load 23 (.tmp 52), 23, some (51, false), []⟩,
      ⟨(some 54), .build 23 #[], 23, some (51, false), []⟩,
      ⟨(some 55), .binOp .neq 23 (.tmp 53) (.tmp 54) 23, 4, some (51, false), []⟩,
      ⟨(some 56), .pick (.tmp 51) (.const (.bool true)) (.tmp 55), 4, none, []⟩,
      ⟨(some 57), .move (.tmp 56), 4, none, []⟩,
      ⟨(some 58), .fieldAddr 53 (.tmp 1) 7, 0, some (57, false), []⟩,
      ⟨(some 59), .load 24 (.tmp 58), 24, some (57, false), []⟩,
      ⟨(some 60), .call ⟨.builtin .len, #[(.tmp 59)], #[24]⟩, 3, some (57, false), []⟩,
      ⟨(some 61), .binOp .gtr 3 (.tmp 60) (.const (.int .i64 0)) 3, 4, some (57, false), []⟩,
      ⟨(some 62), .pick (.tmp 57) (.const (.bool true)) (.tmp 61), 4, none, []⟩])
    (.cond (.tmp 62)
      (.seq (.reg [⟨(some 2), .assign (.const (.slice none 0 0)), 24, none, []⟩,
        ⟨(some 3), .assign (.const (.int .i64 108)), 34, none, []⟩])
      .ret)
      .skip))
    (.seq (.reg [⟨(some 63), .move (.tmp 5), 24, none, []⟩,
      ⟨(some 64), .call ⟨.value (.func 62), #[(.tmp 63)], #[24]⟩, 24, none, []⟩,
      ⟨(some 2), .assign (.tmp 64), 24, none, []⟩,
      ⟨(some 3), .assign (.const (.int .i64 0)), 34, none, []⟩])
    .ret))
    .skip))
  (.seq (.seq (.reg [⟨(some 65), .fieldAddr 53 (.tmp 1) 2, 0, none, []⟩,
    ⟨(some 66), .load 51 (.tmp 65), 51, none, []⟩,
    ⟨(some 67), .call ⟨.value (.func 63), #[(.tmp 66)], #[51]⟩, 4, none, []⟩,
    ⟨(some 68), .unOp .not 4 (.tmp 67), 4, none, []⟩])
  (.cond (.tmp 68)
    (.seq (.reg [⟨(some 2), .assign (.const (.slice none 0 0)), 24, none, []⟩,
      ⟨(some 3), .assign (.const (.int .i64 10)), 34, none, []⟩])
    .ret)
    .skip))
  (.seq (.seq (.reg [⟨(some 69), .fieldAddr 53 (.tmp 1) 3, 0, none, []⟩,
    ⟨(some 70), .load 3 (.tmp 69), 3, none, []⟩,
    ⟨(some 71), .call ⟨.value (.func 40), #[(.tmp 70), (.const (.int .i64 4294967295))], #[3, 3]⟩, 4, none, []⟩,
    ⟨(some 72), .unOp .not 4 (.tmp 71), 4, none, []⟩,
    ⟨(some 73), .move (.tmp 72), 4, none, []⟩,
    ⟨(some 74), .fieldAddr 53 (.tmp 1) 4, 0, some (73, false), []⟩,
    ⟨(some 75), .load 3 (.tmp 74), 3, some (73, false), []⟩,
    ⟨(some 76), .call ⟨.value (.func 40), #[(.tmp 75), (.const (.int .i64 4294967295))], #[3, 3]⟩, 4, some (73, false), []⟩,
    ⟨(some 77), .unOp .not 4 (.tmp 76), 4, some (73, false), []⟩,
    ⟨(some 78), .pick (.tmp 73) (.const (.bool true)) (.tmp 77), 4, none, []⟩,
    ⟨(some 79), .move (.tmp 78), 4, none, []⟩,
    ⟨(some 80), .fieldAddr 53 (.tmp 1) 5, 0, some (79, false), []⟩,
    ⟨(some 81), .load 3 (.tmp 80), 3, some (79, false), []⟩,
    ⟨(some 82), .call ⟨.value (.func 40), #[(.tmp 81), (.const (.int .i64 255))], #[3, 3]⟩, 4, some (79, false), []⟩,
    ⟨(some 83), .unOp .not 4 (.tmp 82), 4, some (79, false), []⟩,
    ⟨(some 84), .pick (.tmp 79) (.const (.bool true)) (.tmp 83), 4, none, []⟩])
  (.cond (.tmp 84)
    (.seq (.reg [⟨(some 2), .assign (.const (.slice none 0 0)), 24, none, []⟩,
      ⟨(some 3), .assign (.const (.int .i64 104)), 34, none, []⟩])
    .ret)
    .skip))
  (.seq (.seq (.reg [⟨(some 85), .fieldAddr 53 (.tmp 1) 6, 0, none, []⟩,
    ⟨(some 86), .load 23 (.tmp 85), 23, none, []⟩,
    ⟨(some 87), .call ⟨.value (.func 36), #[(.tmp 86)], #[23]⟩, 4, none, []⟩,
    ⟨(some 88), .unOp .not 4 (.tmp 87), 4, none, []⟩])
  (.cond (.tmp 88)
    (.seq (.reg [⟨(some 2), .assign (.const (.slice none 0 0)), 24, none, []⟩,
      ⟨(some 3), .assign (.const (.int .i64 103)), 34, none, []⟩])
    .ret)
    .skip))
  (.seq (.seq (.reg [⟨(some 89), .fieldAddr 53 (.tmp 1) 7, 0, none, []⟩,
    ⟨(some 90), .load 24 (.tmp 89), 24, none, []⟩,
    ⟨(some 91), .call ⟨.builtin .len, #[(.tmp 90)], #[24]⟩, 3, none, []⟩,
    ⟨(some 92), .binOp .gtr 3 (.tmp 91) (.const (.int .i64 255)) 3, 4, none, []⟩])
  (.cond (.tmp 92)
    (.seq (.reg [⟨(some 2), .assign (.const (.slice none 0 0)), 24, none, []⟩,
      ⟨(some 3), .assign (.const (.int .i64 105)), 34, none, []⟩])
    .ret)
    .skip))
  (.seq (.reg [⟨(some 93), .move (.tmp 5), 24, none, []⟩,
    ⟨(some 94), .fieldAddr 53 (.tmp 1) 2, 0, none, []⟩,
    ⟨(some 95), .load 51 (.tmp 94), 51, none, []⟩,
    ⟨(some 96), .call ⟨.value (.func 64), #[(.tmp 95)], #[51]⟩, 24, none, []⟩,
    ⟨(some 97), .call ⟨.builtin .append, #[(.tmp 93), (.tmp 96)], #[24, 24]⟩, 24, none, []⟩,
    ⟨(some 5), .assign (.tmp 97), 24, none, []⟩])
  (.seq (.drw [(⟨(some 98), .move (.tmp 5), 24, none, []⟩, []),
    (⟨(some 99), .fieldAddr 53 (.tmp 1) 3, 0, none, []⟩, []),
    (⟨(some 100), .load 3 (.tmp 99), 3, none, []⟩, [0]),
    (⟨(some 101), .call ⟨.value (.func 61), #[(.tmp 98), (.tmp 100), (.const (.bool false))], #[24, 3, 4]⟩, 24, none, []⟩, []),
    (⟨(some 102), .fieldAddr 53 (.tmp 1) 4, 0, none, []⟩, [2, 3]),
    (⟨(some 103), .load 3 (.tmp 102), 3, none, []⟩, [0, 1, 2, 3]),
    (⟨(some 104), .call ⟨.value (.func 61), #[(.tmp 101), (.tmp 103), (.const (.bool false))], #[24, 3, 4]⟩, 24, none, []⟩, []),
    (⟨(some 5), .assign (.tmp 104), 24, none, []⟩, [])])
  (.seq (.drw [(⟨(some 105), .move (.tmp 5), 24, none, []⟩, []),
    (⟨(some 106), .fieldAddr 53 (.tmp 1) 5, 0, none, []⟩, []),
    (⟨(some 107), .load 3 (.tmp 106), 3, none, []⟩, [0]),
    (⟨(some 108), .call ⟨.value (.func 41), #[(.tmp 105), (.tmp 107)], #[24, 3]⟩, 24, none, []⟩, []),
    (⟨(some 109), .fieldAddr 53 (.tmp 1) 6, 0, none, []⟩, [2, 3]),
    (⟨(some 110), .load 23 (.tmp 109), 23, none, []⟩, [0, 1, 2, 3]),
    (⟨(some 111), .call ⟨.value (.func 43), #[(.tmp 108), (.tmp 110)], #[24, 23]⟩, 24, none, []⟩, []),
    (⟨(some 5), .assign (.tmp 111), 24, none, []⟩, [])])
  (.seq (.drw [(⟨(some 112), .move (.tmp 5), 24, none, []⟩, []),
    (⟨(some 113), .fieldAddr 53 (.tmp 1) 7, 0, none, []⟩, []),
    (⟨(some 114), .load 24 (.tmp 113), 24, none, []⟩, [0]),
    (⟨(some 115), .call ⟨.builtin .len, #[(.tmp 114)], #[24]⟩, 3, none, []⟩, [0]),
    (⟨(some 116), .call ⟨.value (.func 41), #[(.tmp 112), (.tmp 115)], #[24, 3]⟩, 24, none, []⟩, []),
    (⟨(some 117), .fieldAddr 53 (.tmp 1) 7, 0, none, []⟩, [2, 3, 4]),
    (⟨(some 118), .load 24 (.tmp 117), 24, none, []⟩, [0, 1, 2, 3, 4]),
    (⟨(some 119), .call ⟨.builtin .append, #[(.tmp 116), (.tmp 118)], #[24, 24]⟩, 24, none, []⟩, []),
    (⟨(some 120), .call ⟨.value (.func 62), #[(.tmp 119)], #[24]⟩, 24, none, []⟩, []),
    (⟨(some 2), .assign (.tmp 120), 24, none, []⟩, []),
    (⟨(some 3), .assign (.const (.int .i64 0)), 34, none, []⟩, [])])
  .ret))))))))))))))
theorem l20 : slimF Hs 20 Try.f20 = some (121, s20, [.tmp 2, .tmp 3]) := by kernel_rfl

/-! 21 kerbsuite/kamessage.DecodeAnswer -/
def s21 : SC :=
  (.seq (.reg [⟨(some 2), .alloc 53, 0, none, []⟩,
    ⟨(some 3), .assign (.const (.int .i64 0)), 34, none, []⟩])
  (.seq (.reg [⟨(some 8), .move (.tmp 0), 24, none, []⟩,
    ⟨(some 9), .call ⟨.value (.func 65), #[(.tmp 8), (.const (.int .i64 0)), (.const (.bool false))], #[24, 3, 4]⟩, 79, none, []⟩,
    ⟨(some 4), .assign (.tmp 9), 79, none, []⟩])
  (.seq (.reg [⟨(some 10), .move (.tmp 4), 79, none, []⟩,
    ⟨(some 11), .call ⟨.value (.func 49), #[(.tmp 10), (.const (.int .i64 4))], #[79, 3]⟩, 24, none, []⟩,
    ⟨(some 12), .convert 24 9 (.tmp 11), 9, none, []⟩,
    ⟨(some 13), .build 53 #[(0, (.tmp 12))], 53, none, []⟩,
    ⟨(some 5), .alloc 53, 0, none, []⟩,
    ⟨none, .store 53 (.tmp 5) (.tmp 13), 0, none, []⟩])
  (.seq (.reg [⟨(some 14), .move (.tmp 4), 79, none, []⟩,
    ⟨(some 15), .call ⟨.value (.func 66), #[(.tmp 14)], #[79]⟩, 3, none, []⟩,
    ⟨(some 16), .fieldAddr 53 (.tmp 5) 1, 0, none, []⟩,
    ⟨none, .store 3 (.tmp 16) (.tmp 15), 0, none, []⟩])
  (.seq (.seq (.reg [⟨(some 17), .fieldAddr 53 (.tmp 5) 0, 0, none, []⟩,
    ⟨(some 18), .load 9 (.tmp 17), 9, none, []⟩,
    ⟨(some 19), .binOp .neq 9 (.tmp 18) (.const (.string ⟨#[67, 80, 87, 100]⟩)) 9, 4, none, []⟩])
  (.cond (.tmp 19)
    (.seq (.reg [⟨(some 20), .move (.tmp 4), 79, none, []⟩,
      ⟨(some 21), .call ⟨.value (.func 67), #[(.tmp 20)], #[79]⟩, 51, none, []⟩,
      ⟨(some 22), .fieldAddr 53 (.tmp 5) 2, 0, none, []⟩,
      ⟨none, .store 51 (.tmp 22) (.tmp 21), 0, none, []⟩])
    (.seq (.reg [⟨(some 23), .move (.tmp 4), 79, none, []⟩,
      ⟨(some 24), .call ⟨.value (.func 66), #[(.tmp 23)], #[79]⟩, 3, none, []⟩,
      ⟨(some 25), .fieldAddr 53 (.tmp 5) 3, 0, none, []⟩,
      ⟨none, .store 3 (.tmp 25) (.tmp 24), 0, none, []⟩])
    (.seq (.reg [⟨(some 26), .move (.tmp 4), 79, none, []⟩,
      ⟨(some 27), .call ⟨.value (.func 66), #[(.tmp 26)], #[79]⟩, 3, none, []⟩,
      ⟨(some 28), .fieldAddr 53 (.tmp 5) 4, 0, none, []⟩,
      ⟨none, .store 3 (.tmp 28) (.tmp 27), 0, none, []⟩])
    (.seq (.reg [⟨(some 29), .move (.tmp 4), 79, none, []⟩,
      ⟨(some 30), .call ⟨.value (.func 47), #[(.tmp 29)], #[79]⟩, 3, none, []⟩,
      ⟨(some 31), .fieldAddr 53 (.tmp 5) 5, 0, none, []⟩,
      ⟨none, .store 3 (.tmp 31) (.tmp 30), 0, none, []⟩])
    (.seq (.reg [⟨(some 32), .move (.tmp 4), 79, none, []⟩,
      ⟨(some 33), .call ⟨.value (.func 50), #[(.tmp 32)], #[79]⟩, 23, none, []⟩,
      ⟨(some 34), .fieldAddr 53 (.tmp 5) 6, 0, none, []⟩,
      ⟨none, .store 23 (.tmp 34) (.tmp 33), 0, none, []⟩])
    (.reg [⟨(some 35), .move (.tmp 4), 79, none, []⟩,
      ⟨(some 36), .move (.tmp 4), 79, none, []⟩,
      ⟨(some 37), .call ⟨.value (.func 47), #[(.tmp 36)], #[79]⟩, 3, none, []⟩,
      ⟨(some 38), .call ⟨.value (.func 49), #[(.tmp 35), (.tmp 37)], #[79, 3]⟩, 24, none, []⟩,
      ⟨(some 39), .fieldAddr 53 (.tmp 5) 7, 0, none, []⟩,
      ⟨none, .store 24 (.tmp 39) (.tmp 38), 0, none, []⟩]))))))
    .skip))
  (.seq (.seq (.reg [⟨(some 41), .load 53 (.tmp 5), 53, none, []⟩,
    ⟨(some 42), .call ⟨.value (.func 19), #[(.tmp 41)], #[53]⟩, 35, none, []⟩,
    ⟨(some 40), .move (.tmp 42), 35, none, []⟩,
    ⟨(some 43), .extract (.tmp 40) 0, 24, none, []⟩,
    ⟨(some 44), .extract (.tmp 40) 1, 34, none, []⟩,
    ⟨(some 6), .assign (.tmp 43), 24, none, []⟩,
    ⟨(some 7), .assign (.tmp 44), 34, none, []⟩])
  (.seq (.reg [⟨(some 45), .move (.tmp 0), 24, none, []⟩,
    ⟨(some 46), .move (.tmp 4), 79, none, []⟩,
    ⟨(some 47), .move (.tmp 6), 24, none, []⟩,
    ⟨(some 48), .move (.tmp 7), 34, none, []⟩,
    ⟨(some 49), .call ⟨.value (.func 52), #[(.tmp 45), (.tmp 46), (.tmp 47), (.tmp 48)], #[24, 79, 24, 34]⟩, 4, none, []⟩,
    ⟨(some 50), .unOp .not 4 (.tmp 49), 4, none, []⟩])
  (.cond (.tmp 50)
    (.seq (.reg [⟨(some 51), .build 53 #[], 53, none, []⟩,
      ⟨none, .store 53 (.tmp 2) (.tmp 51), 0, none, []⟩,
      ⟨(some 3), .assign (.const (.int .i64 100)), 34, none, []⟩])
    .ret)
    .skip)))
  (.seq (.reg [⟨(some 52), .load 53 (.tmp 5), 53, none, []⟩,
    ⟨none, .store 53 (.tmp 2) (.tmp 52), 0, none, []⟩,
    ⟨(some 3), .assign (.const (.int .i64 0)), 34, none, []⟩])
  .ret)))))))
theorem l21 : slimF Hs 21 Try.f21 = some (53, s21, [.cell 2 53, .tmp 3]) := by kernel_rfl

/-! 22 kerbsuite/kerbsuiteref22.SameAnswer -/
def s22 : SC :=
  (.seq (.reg [⟨(some 2), .box 53 (.tmp 0), 0, none, []⟩,
    ⟨(some 3), .box 53 (.tmp 1), 0, none, []⟩,
    ⟨(some 4), .assign (.const (.bool false)), 4, none, []⟩])
  (.seq (.reg [⟨(some 5), .fieldAddr 53 (.tmp 2) 0, 0, none, []⟩,
    ⟨(some 6), .load 9 (.tmp 5), 9, none, []⟩,
    ⟨(some 7), .fieldAddr 53 (.tmp 3) 0, 0, none, []⟩,
    ⟨(some 8), .load 9 (.tmp 7), 9, none, []⟩,
    ⟨(some 9), .binOp .eql 9 (.tmp 6) (.tmp 8) 9, 4, none, []⟩,
    ⟨(some 10), .move (.tmp 9), 4, none, []⟩,
    ⟨(some 11), .fieldAddr 53 (.tmp 2) 1, 0, some (10, true), []⟩,
    ⟨(some 12), .load 3 (.tmp 11), 3, some (10, true), []⟩,
    ⟨(some 13), .fieldAddr 53 (.tmp 3) 1, 0, some (10, true), []⟩,
    ⟨(some 14), .load 3 (.tmp 13), 3, some (10, true), []⟩,
    ⟨(some 15), .binOp .eql 3 (.tmp 12) (.tmp 14) 3, 4, some (10, true), []⟩,
    ⟨(some 16), .pick (.tmp 10) (.tmp 15) (.const (.bool false)), 4, none, []⟩,
    ⟨(some 17), .move (.tmp 16), 4, none, []⟩,
    ⟨(some 18), .fieldAddr 53 (.tmp 2) 2, 0, some (17, true), []⟩,
    ⟨(some 19), .load 51 (.tmp 18), 51, some (17, true), []⟩,
    ⟨(some 20), .fieldAddr 53 (.tmp 3) 2, 0, some (17, true), []⟩,
    ⟨(some 21), .load 51 (.tmp 20), 51, some (17, true), []⟩,
    ⟨(some 22), .binOp .eql 51 (.tmp 19) (.tmp 21) 51, 4, some (17, true), []⟩,
    ⟨(some 23), .pick (.tmp 17) (.tmp 22) (.const (.bool false)), 4, none, []⟩,
    ⟨(some 24), .move (.tmp 23), 4, none, []⟩,
    ⟨(some 25), .fieldAddr 53 (.tmp 2) 3, 0, some (24, true), []⟩,
    ⟨(some 26), .load 3 (.tmp 25), 3, some (24, true), []⟩,
    ⟨(some 27), .fieldAddr 53 (.tmp 3) 3, 0, some (24, true), []⟩,
    ⟨(some 28), .load 3 (.tmp 27), 3, some (24, true), []⟩,
    ⟨(some 29), .binOp .eql 3 (.tmp 26) (.tmp 28) 3, 4, some (24, true), []⟩,
    ⟨(some 30), .pick (.tmp 24) (.tmp 29) (.const (.bool false)), 4, none, []⟩,
    ⟨(some 31), .move (.tmp 30), 4, none, []⟩,
    ⟨(some 32), .fieldAddr 53 (.tmp 2) 4, 0, some (31, true), []⟩,
    ⟨(some 33), .load 3 (.tmp 32), 3, some (31, true), []⟩,
    ⟨(some 34), .fieldAddr 53 (.tmp 3) 4, 0, some (31, true), []⟩,
    ⟨(some 35), .load 3 (.tmp 34), 3, some (31, true), []⟩,
    ⟨(some 36), .binOp .eql 3 (.tmp 33) (.tmp 35) 3, 4, some (31, true), []⟩,
    ⟨(some 37), .pick (.tmp 31) (.tmp 36) (.const (.bool false)), 4, none, []⟩,
    ⟨(some 38), .move (.tmp 37), 4, none, []⟩,
    ⟨(some 39), .fieldAddr 53 (.tmp 2) 5, 0, some (38, true), []⟩,
    ⟨(some 40), .load 3 (.tmp 39), 3, some (38, true), []⟩,
    ⟨(some 41), .fieldAddr 53 (.tmp 3) 5, 0, some (38, true), []⟩,
    ⟨(some 42), .load 3 (.tmp 41), 3, some (38, true), []⟩,
    ⟨(some 43), .binOp .eql 3 (.tmp 40) (.tmp 42) 3, 4, some (38, true), []⟩,
    ⟨(some 44), .pick (.tmp 38) (.tmp 43) (.const (.bool false)), 4, none, []⟩,
    ⟨(some 45), .move (.tmp 44), 4, none, []⟩,
    ⟨(some 46), .fieldAddr 53 (.tmp 2) 6, 0, some (45, true), []⟩,
    ⟨(some 47), .load 23 (.tmp 46), 23, some (45, true), []⟩,
    ⟨(some 48), .fieldAddr 53 (.tmp 3) 6, 0, some (45, true), []⟩,
    ⟨(some 49), .load 23 (.tmp 48), 23, some (45, true), []⟩,
    ⟨(some 50), .binOp .eql 23 (.tmp 47) (.tmp 49) 23, 4, some (45, true), []⟩,
    ⟨(some 51), .pick (.tmp 45) (.tmp 50) (.const (.bool false)), 4, none, []⟩,
    ⟨(some 52), .move (.tmp 51), 4, none, []⟩,
    ⟨(some 53), .fieldAddr 53 (.tmp 2) 7, 0, some (52, true), []⟩,
    ⟨(some 54), .load 24 (.tmp 53), 24, some (52, true), []⟩,
    ⟨(some 55), .convert 24 9 (.tmp 54), 9, some (52, true), []⟩,
    ⟨(some 56), .fieldAddr 53 (.tmp 3) 7, 0, some (52, true), []⟩,
    ⟨(some 57), .load 24 (.tmp 56), 24, some (52, true), []⟩,
    ⟨(some 58), .convert 24 9 (.tmp 57), 9, some (52, true), []⟩,
    ⟨(some 59), .binOp .eql 9 (.tmp 55) (.tmp 58) 9, 4, some (52, true), []⟩,
    ⟨(some 60), .pick (.tmp 52) (.tmp 59) (.const (.bool false)), 4, none, []⟩,
    ⟨(some 4), .assign (.tmp 60), 4, none, []⟩])
  .ret))
theorem l22 : slimF Hs 22 Try.f22 = some (61, s22, [.tmp 4]) := by kernel_rfl

/-! 23 (kerbsuite/kerbsuitelaw22.Ask).secret -/
def s23 : SC :=
  (.seq (.reg [⟨(some 1), .box 29 (.tmp 0), 0, none, []⟩,
    ⟨(some 2), .alloc 62, 0, none, []⟩])
  (.seq (.drw [(⟨(some 4), .buildSlice 88 4 #[(0, (.const (.string ⟨#[103, 84, 71, 83]⟩))), (1, (.const (.string ⟨#[103, 84, 75, 84]⟩))), (2, (.const (.string ⟨#[67, 80, 87, 108]⟩))), (3, (.const (.string ⟨#[67, 80, 87, 100]⟩)))], 88, none, []⟩, []),
    (⟨(some 5), .fieldAddr 29 (.tmp 1) 4, 0, none, []⟩, [0]),
    (⟨(some 6), .load 5 (.tmp 5), 5, none, []⟩, [0]),
    (⟨(some 7), .convert 5 3 (.tmp 6), 3, none, []⟩, [0]),
    (⟨(some 8), .binOp .rem 3 (.tmp 7) (.const (.int .i64 4)) 3, 3, none, []⟩, [0]),
    (⟨(some 9), .indexAddr 88 (.tmp 4) (.tmp 8), 0, none, []⟩, []),
    (⟨(some 10), .load 9 (.tmp 9), 9, none, []⟩, []),
    (⟨(some 11), .fieldAddr 29 (.tmp 1) 5, 0, none, []⟩, [0, 2, 3, 5, 6]),
    (⟨(some 12), .load 27 (.tmp 11), 27, none, []⟩, [0, 1, 2, 3, 4, 5, 6]),
    (⟨(some 13), .convert 27 3 (.tmp 12), 3, none, []⟩, [0, 1, 2, 3, 4, 5, 6]),
    (⟨(some 14), .build 62 #[(0, (.tmp 10)), (1, (.tmp 13))], 62, none, []⟩, []),
    (⟨(some 3), .alloc 62, 0, none, []⟩, [0, 2, 3, 5, 6, 8, 9]),
    (⟨none, .store 62 (.tmp 3) (.tmp 14), 0, none, []⟩, [])])
  (.seq (.seq (.reg [⟨(some 15), .fieldAddr 62 (.tmp 3) 0, 0, none, []⟩,
    ⟨(some 16), .load 9 (.tmp 15), 9, none, []⟩,
    ⟨(some 17), .binOp .eql 9 (.tmp 16) (.const (.string ⟨#[67, 80, 87, 108]⟩)) 9, 4, none, []⟩,
    ⟨(some 18), .move (.tmp 17), 4, none, []⟩,
    ⟨(some 19), .fieldAddr 29 (.tmp 1) 11, 0, some (18, false), []⟩,
    ⟨(some 20), .load 5 (.tmp 19), 5, some (18, false), []⟩,
    ⟨(some 21), .binOp .rem 5 (.tmp 20) (.const (.int .u8 16)) 5, 5, some (18, false), []⟩,
    ⟨(some 22), .binOp .eql 5 (.tmp 21) (.const (.int .u8 10)) 5, 4, some (18, false), []⟩,
    ⟨(some 23), .pick (.tmp 18) (.const (.bool true)) (.tmp 22), 4, none, []⟩])
  (.cond (.tmp 23)
    (.reg [⟨(some 24), .fieldAddr 29 (.tmp 1) 8, 0, none, []⟩,
      ⟨(some 25), .load 5 (.tmp 24), 5, none, []⟩,
      ⟨(some 26), .convert 5 3 (.tmp 25), 3, none, []⟩,
      ⟨(some 27), .call ⟨.value (.func 68), #[(.tmp 26)], #[3]⟩, 51, none, []⟩,
      ⟨(some 28), .fieldAddr 62 (.tmp 3) 4, 0, none, []⟩,
      ⟨none, .store 51 (.tmp 28) (.tmp 27), 0, none, []⟩])
    .skip))
  (.seq (.seq (.reg [⟨(some 29), .fieldAddr 62 (.tmp 3) 0, 0, none, []⟩,
    ⟨(some 30), .load 9 (.tmp 29), 9, none, []⟩,
    ⟨(some 31), .binOp .neq 9 (.tmp 30) (.const (.string ⟨#[67, 80, 87, 108]⟩)) 9, 4, none, []⟩,
    ⟨(some 32), .move (.tmp 31), 4, none, []⟩,
    ⟨(some 33), .fieldAddr 29 (.tmp 1) 11, 0, some (32, false), []⟩,
    ⟨(some 34), .load 5 (.tmp 33), 5, some (32, false), []⟩,
    ⟨(some 35), .binOp .rem 5 (.tmp 34) (.const (.int .u8 16)) 5, 5, some (32, false), []⟩,
    ⟨(some 36), .binOp .eql 5 (.tmp 35) (.const (.int .u8 9)) 5, 4, some (32, false), []⟩,
    ⟨(some 37), .pick (.tmp 32) (.const (.bool true)) (.tmp 36), 4, none, []⟩])
  (.cond (.tmp 37)
    (.drw [(⟨(some 38), .fieldAddr 29 (.tmp 1) 6, 0, none, []⟩, []),
      (⟨(some 39), .load 27 (.tmp 38), 27, none, []⟩, []),
      (⟨(some 40), .convert 27 3 (.tmp 39), 3, none, []⟩, []),
      (⟨(some 41), .fieldAddr 29 (.tmp 1) 7, 0, none, []⟩, [1, 2]),
      (⟨(some 42), .load 27 (.tmp 41), 27, none, []⟩, [0, 1, 2]),
      (⟨(some 43), .convert 27 3 (.tmp 42), 3, none, []⟩, [0, 1, 2]),
      (⟨(some 44), .fieldAddr 62 (.tmp 3) 2, 0, none, []⟩, [4, 5]),
      (⟨none, .store 3 (.tmp 44) (.tmp 40), 0, none, []⟩, [3, 4, 5]),
      (⟨(some 45), .fieldAddr 62 (.tmp 3) 3, 0, none, []⟩, []),
      (⟨none, .store 3 (.tmp 45) (.tmp 43), 0, none, []⟩, [])])
    .skip))
  (.seq (.reg [⟨(some 46), .load 62 (.tmp 3), 62, none, []⟩,
    ⟨none, .store 62 (.tmp 2) (.tmp 46), 0, none, []⟩])
  .ret)))))
theorem l23 : slimF Hs 23 Try.f23 = some (47, s23, [.cell 2 62]) := by kernel_rfl

/-! 24 kerbsuite/kamessage.EncodeSecret -/
def s24 : SC :=
  (.seq (.reg [⟨(some 1), .box 62 (.tmp 0), 0, none, []⟩,
    ⟨(some 2), .assign (.const (.slice none 0 0)), 24, none, []⟩,
    ⟨(some 3), .assign (.const (.int .i64 0)), 34, none, []⟩])
  (.seq (.reg [⟨(some 7), .fieldAddr 62 (.tmp 1) 0, 0, none, []⟩,
    ⟨(some 8), .load 9 (.tmp 7), 9, none, []⟩,
    ⟨(some 9), .binOp .eql 9 (.tmp 8) (.const (.string ⟨#[103, 84, 71, 83]⟩)) 9, 4, none, []⟩,
    ⟨(some 10), .move (.tmp 9), 4, none, []⟩,
    ⟨(some 11), .fieldAddr 62 (.tmp 1) 0, 0, some (10, false), []⟩,
    ⟨(some 12), .load 9 (.tmp 11), 9, some (10, false), []⟩,
    ⟨(some 13), .binOp .eql 9 (.tmp 12) (.const (.string ⟨#[103, 84, 75, 84]⟩)) 9, 4, some (10, false), []⟩,
    ⟨(some 14), .pick (.tmp 10) (.const (.bool true)) (.tmp 13), 4, none, []⟩,
    ⟨(some 4), .assign (.tmp 14), 4, none, []⟩])
  (.seq (.reg [⟨(some 15), .fieldAddr 62 (.tmp 1) 0, 0, none, []⟩,
    ⟨(some 16), .load 9 (.tmp 15), 9, none, []⟩,
    ⟨(some 17), .binOp .eql 9 (.tmp 16) (.const (.string ⟨#[67, 80, 87, 108]⟩)) 9, 4, none, []⟩,
    ⟨(some 5), .assign (.tmp 17), 4, none, []⟩])
  (.seq (.block 0 (.seq (.reg [⟨(some 19), .move (.tmp 4), 4, none, []⟩,
    ⟨(some 20), .unOp .not 4 (.tmp 19), 4, none, []⟩,
    ⟨(some 21), .move (.tmp 20), 4, none, []⟩,
    ⟨(some 22), .move (.tmp 5), 4, some (21, true), []⟩,
    ⟨(some 23), .unOp .not 4 (.tmp 22), 4, some (21, true), []⟩,
    ⟨(some 24), .pick (.tmp 21) (.tmp 23) (.const (.bool false)), 4, none, []⟩,
    ⟨(some 18), .assign (.tmp 24), 4, none, []⟩])
  (.cond (.tmp 18)
    (.seq (.reg [⟨(some 2), .assign (.const (.slice none 0 0)), 24, none, []⟩,
      ⟨(some 3), .assign (.const (.int .i64 80)), 34, none, []⟩])
    .ret)
    (.seq (.seq (.reg [⟨(some 26), .fieldAddr 62 (.tmp 1) 1, 0, none, []⟩,
      ⟨(some 27), .load 3 (.tmp 26), 3, none, []⟩,
      ⟨(some 28), .buildSlice 124 1 #[(0, (.tmp 27))], 124, none, []⟩,
      ⟨(some 29), .call ⟨.value (.func 54), #[(.const (.int .i64 4294967295)), (.tmp 28)], #[3, 124]⟩, 4, none, []⟩,
      ⟨(some 25), .assign (.tmp 29), 4, none, []⟩])
    (.cond (.tmp 25)
      .skip
      (.reg [⟨(some 30), .move (.tmp 4), 4, none, []⟩,
        ⟨(some 31), .move (.tmp 30), 4, none, []⟩,
        ⟨(some 32), .fieldAddr 62 (.tmp 1) 2, 0, some (31, true), []⟩,
        ⟨(some 33), .load 3 (.tmp 32), 3, some (31, true), []⟩,
        ⟨(some 34), .fieldAddr 62 (.tmp 1) 3, 0, some (31, true), []⟩,
        ⟨(some 35), .load 3 (.tmp 34), 3, some (31, true), []⟩,
        ⟨(some 36), .buildSlice 124 2 #[(0, (.tmp 33)), (1, (.tmp 35))], 124, some (31, true), []⟩,
        ⟨(some 37), .call ⟨.value (.func 54), #[(.const (.int .i64 4294967295)), (.tmp 36)], #[3, 124]⟩, 4, some (31, true), []⟩,
        ⟨(some 38), .pick (.tmp 31) (.tmp 37) (.const (.bool false)), 4, none, []⟩,
        ⟨(some 25), .assign (.tmp 38), 4, none, []⟩])))
    (.cond (.tmp 25)
      (.seq (.reg [⟨(some 2), .assign (.const (.slice none 0 0)), 24, none, []⟩,
        ⟨(some 3), .assign (.const (.int .i64 104)), 34, none, []⟩])
      .ret)
      (.seq (.reg [⟨(some 40), .move (.tmp 5), 4, none, []⟩,
        ⟨(some 41), .move (.tmp 40), 4, none, []⟩,
        ⟨(some 42), .fieldAddr 62 (.tmp 1) 4, 0, some (41, true), []⟩,
        ⟨(some 43), .load 51 (.tmp 42), 51, some (41, true), []⟩,
        ⟨(some 44), .call ⟨.value (.func 56), #[(.tmp 43)], #[51]⟩, 4, some (41, true), []⟩,
        ⟨(some 45), .unOp .not 4 (.tmp 44), 4, some (41, true), []⟩,
        ⟨(some 46), .pick (.tmp 41) (.tmp 45) (.const (.bool false)), 4, none, []⟩,
        ⟨(some 39), .assign (.tmp 46), 4, none, []⟩])
      (.cond (.tmp 39)
        (.seq (.reg [⟨(some 2), .assign (.const (.slice none 0 0)), 24, none, []⟩,
          ⟨(some 3), .assign (.const (.int .i64 10)), 34, none, []⟩])
        .ret)
        (.seq (.seq (.reg [⟨(some 48), .move (.tmp 5), 4, none, []⟩,
          ⟨(some 49), .move (.tmp 48), 4, none, []⟩,
          ⟨(some 50), .fieldAddr 62 (.tmp 1) 2, 0, some (49, true), []⟩,
          ⟨(some 51), .load 3 (.tmp 50), 3, some (49, true), []⟩,
          ⟨(some 52), .binOp .neq 3 (.tmp 51) (.const (.int .i64 0)) 3, 4, some (49, true), []⟩,
          ⟨(some 53), .move (.tmp 52), 4, some (49, true), []⟩,
          ⟨(some 54), .fieldAddr 62 (.tmp 1) 3, 0, some (53, false), []⟩,
          ⟨(some 55), .load 3 (.tmp 54), 3, some (53, false), []⟩,
          ⟨(some 56), .binOp .neq 3 (.tmp 55) (.const (.int .i64 0)) 3, 4, some (53, false), []⟩,
          ⟨(some 57), .pick (.tmp 53) (.const (.bool true)) (.tmp 56), 4, some (49, true), []⟩,
          ⟨(some 58), .pick (.tmp 49) (.tmp 57) (.const (.bool false)), 4, none, []⟩,
          ⟨(some 47), .assign (.tmp 58), 4, none, []⟩])
        (.cond (.tmp 47)
          .skip
          (.reg [⟨(some 59), .move (.tmp 4), 4, none, []⟩,
            ⟨(some 60), .move (.tmp 59), 4, none, []⟩,
            ⟨(some 61), .fieldAddr 62 (.tmp 1) 4, 0, some (60, true), []⟩,
            ⟨(some 62), .load 51 (.tmp 61), 51, some (60, true), []⟩,
            ⟨(some 63), .binOp .neq 51 (.tmp 62) (.const (.int .u64 0)) 51, 4, some (60, true), []⟩,
            ⟨(some 64), .pick (.tmp 60) (.tmp 63) (.const (.bool false)), 4, none, []⟩,
            ⟨(some 47), .assign (.tmp 64), 4, none, []⟩])))
        (.cond (.tmp 47)
          (.seq (.reg [⟨(some 2), .assign (.const (.slice none 0 0)), 24, none, []⟩,
            ⟨(some 3), .assign (.const (.int .i64 108)), 34, none, []⟩])
          .ret)
          .skip)))))))))
  (.seq (.reg [⟨(some 65), .fieldAddr 62 (.tmp 1) 0, 0, none, []⟩,
    ⟨(some 66), .load 9 (.tmp 65), 9, none, []⟩,
    ⟨(some 67), .convert 9 24 (.tmp 66), 24, none, []⟩,
    ⟨(some 68), .fieldAddr 62 (.tmp 1) 1, 0, none, []⟩,
    ⟨(some 69), .load 3 (.tmp 68), 3, none, []⟩,
    ⟨(some 70), .call ⟨.value (.func 58), #[(.tmp 67), (.tmp 69), (.const (.bool false))], #[24, 3, 4]⟩, 24, none, []⟩,
    ⟨(some 6), .assign (.tmp 70), 24, none, []⟩])
  (.seq (.seq (.reg [⟨(some 71), .move (.tmp 5), 4, none, []⟩])
  (.cond (.tmp 71)
    (.seq (.reg [⟨(some 72), .move (.tmp 6), 24, none, []⟩,
      ⟨(some 73), .fieldAddr 62 (.tmp 1) 4, 0, none, []⟩,
      ⟨(some 74), .load 51 (.tmp 73), 51, none, []⟩,
      ⟨(some 75), .call ⟨.value (.func 59), #[(.tmp 74)], #[51]⟩, 24, none, []⟩,
      ⟨(some 76), .call ⟨.builtin .append, #[(.tmp 72), (.tmp 75)], #[24, 24]⟩, 24, none, []⟩,
      ⟨(some 77), .call ⟨.value (.func 60), #[(.tmp 76)], #[24]⟩, 24, none, []⟩,
      ⟨(some 2), .assign (.tmp 77), 24, none, []⟩,
      ⟨(some 3), .assign (.const (.int .i64 0)), 34, none, []⟩])
    .ret)
    .skip))
  (.seq (.drw [(⟨(some 78), .move (.tmp 6), 24, none, []⟩, []),
    (⟨(some 79), .fieldAddr 62 (.tmp 1) 2, 0, none, []⟩, []),
    (⟨(some 80), .load 3 (.tmp 79), 3, none, []⟩, [0]),
    (⟨(some 81), .call ⟨.value (.func 58), #[(.tmp 78), (.tmp 80), (.const (.bool false))], #[24, 3, 4]⟩, 24, none, []⟩, []),
    (⟨(some 82), .fieldAddr 62 (.tmp 1) 3, 0, none, []⟩, [2, 3]),
    (⟨(some 83), .load 3 (.tmp 82), 3, none, []⟩, [0, 1, 2, 3]),
    (⟨(some 84), .call ⟨.value (.func 58), #[(.tmp 81), (.tmp 83), (.const (.bool false))], #[24, 3, 4]⟩, 24, none, []⟩, []),
    (⟨(some 85), .call ⟨.value (.func 60), #[(.tmp 84)], #[24]⟩, 24, none, []⟩, []),
    (⟨(some 2), .assign (.tmp 85), 24, none, []⟩, []),
    (⟨(some 3), .assign (.const (.int .i64 0)), 34, none, []⟩, [])])
  .ret)))))))
theorem l24 : slimF Hs 24 Try.f24 = some (86, s24, [.tmp 2, .tmp 3]) := by kernel_rfl

/-! 25 kerbsuite/kerbsuiteref22.EncodeSecret -/
def s25 : SC :=
  (.seq (.reg [⟨(some 1), .box 62 (.tmp 0), 0, none, []⟩,
    ⟨(some 2), .assign (.const (.slice none 0 0)), 24, none, []⟩,
    ⟨(some 3), .assign (.const (.int .i64 0)), 34, none, []⟩])
  (.seq (.reg [⟨(some 6), .fieldAddr 62 (.tmp 1) 0, 0, none, []⟩,
    ⟨(some 7), .load 9 (.tmp 6), 9, none, []⟩,
    ⟨(some 8), .binOp .eql 9 (.tmp 7) (.const (.string ⟨#[103, 84, 71, 83]⟩)) 9, 4, none, []⟩,
    ⟨(some 9), .move (.tmp 8), 4, none, []⟩,
    ⟨(some 10), .fieldAddr 62 (.tmp 1) 0, 0, some (9, false), []⟩,
    ⟨(some 11), .load 9 (.tmp 10), 9, some (9, false), []⟩,
    ⟨(some 12), .binOp .eql 9 (.tmp 11) (.const (.string ⟨#[103, 84, 75, 84]⟩)) 9, 4, some (9, false), []⟩,
    ⟨(some 13), .pick (.tmp 9) (.const (.bool true)) (.tmp 12), 4, none, []⟩,
    ⟨(some 4), .assign (.tmp 13), 4, none, []⟩])
  (.seq (.seq (.reg [⟨(some 14), .move (.tmp 4), 4, none, []⟩,
    ⟨(some 15), .unOp .not 4 (.tmp 14), 4, none, []⟩,
    ⟨(some 16), .move (.tmp 15), 4, none, []⟩,
    ⟨(some 17), .fieldAddr 62 (.tmp 1) 0, 0, some (16, true), []⟩,
    ⟨(some 18), .load 9 (.tmp 17), 9, some (16, true), []⟩,
    ⟨(some 19), .binOp .neq 9 (.tmp 18) (.const (.string ⟨#[67, 80, 87, 108]⟩)) 9, 4, some (16, true), []⟩,
    ⟨(some 20), .pick (.tmp 16) (.tmp 19) (.const (.bool false)), 4, none, []⟩])
  (.cond (.tmp 20)
    (.seq (.reg [⟨(some 2), .assign (.const (.slice none 0 0)), 24, none, []⟩,
      ⟨(some 3), .assign (.const (.int .i64 80)), 34, none, []⟩])
    .ret)
    .skip))
  (.seq (.seq (.reg [⟨(some 21), .fieldAddr 62 (.tmp 1) 1, 0, none, []⟩,
    ⟨(some 22), .load 3 (.tmp 21), 3, none, []⟩,
    ⟨(some 23), .call ⟨.value (.func 40), #[(.tmp 22), (.const (.int .i64 4294967295))], #[3, 3]⟩, 4, none, []⟩,
    ⟨(some 24), .unOp .not 4 (.tmp 23), 4, none, []⟩,
    ⟨(some 25), .move (.tmp 24), 4, none, []⟩,
    ⟨(some 26), .move (.tmp 4), 4, some (25, false), []⟩,
    ⟨(some 27), .move (.tmp 26), 4, some (25, false), []⟩,
    ⟨(some 28), .fieldAddr 62 (.tmp 1) 2, 0, some (27, true), []⟩,
    ⟨(some 29), .load 3 (.tmp 28), 3, some (27, true), []⟩,
    ⟨(some 30), .call ⟨.value (.func 40), #[(.tmp 29), (.const (.int .i64 4294967295))], #[3, 3]⟩, 4, some (27, true), []⟩,
    ⟨(some 31), .unOp .not 4 (.tmp 30), 4, some (27, true), []⟩,
    ⟨(some 32), .move (.tmp 31), 4, some (27, true), []⟩,
    ⟨(some 33), .fieldAddr 62 (.tmp 1) 3, 0, some (32, false), []⟩,
    ⟨(some 34), .load 3 (.tmp 33), 3, some (32, false), []⟩,
    ⟨(some 35), .call ⟨.value (.func 40), #[(.tmp 34), (.const (.int .i64 4294967295))], #[3, 3]⟩, 4, some (32, false), []⟩,
    ⟨(some 36), .unOp .not 4 (.tmp 35), 4, some (32, false), []⟩,
    ⟨(some 37), .pick (.tmp 32) (.const (.bool true)) (.tmp 36), 4, some (27, true), []⟩,
    ⟨(some 38), .pick (.tmp 27) (.tmp 37) (.const (.bool false)), 4, some (25, false), []⟩,
    ⟨(some 39), .pick (.tmp 25) (.const (.bool true)) (.tmp 38), 4, none, []⟩])
  (.cond (.tmp 39)
    (.seq (.reg [⟨(some 2), .assign (.const (.slice none 0 0)), 24, none, []⟩,
      ⟨(some 3), .assign (.const (.int .i64 104)), 34, none, []⟩])
    .ret)
    .skip))
  (.seq (.seq (.reg [⟨(some 40), .move (.tmp 4), 4, none, []⟩,
    ⟨(some 41), .unOp .not 4 (.tmp 40), 4, none, []⟩,
    ⟨(some 42), .move (.tmp 41), 4, none, []⟩,
    ⟨(some 43), .fieldAddr 62 (.tmp 1) 4, 0, some (42, true), []⟩,
    ⟨(some 44), .load 51 (.tmp 43), 51, some (42, true), []⟩,
    ⟨(some 45), .call ⟨.value (.func 63), #[(.tmp 44)], #[51]⟩, 4, some (42, true), []⟩,
    ⟨(some 46), .unOp .not 4 (.tmp 45), 4, some (42, true), []⟩,
    ⟨(some 47), .pick (.tmp 42) (.tmp 46) (.const (.bool false)), 4, none, []⟩])
  (.cond (.tmp 47)
    (.seq (.reg [⟨(some 2), .assign (.const (.slice none 0 0)), 24, none, []⟩,
      ⟨(some 3), .assign (.const (.int .i64 10)), 34, none, []⟩])
    .ret)
    .skip))
  (.seq (.seq (.reg [⟨(some 48), .move (.tmp 4), 4, none, []⟩,
    ⟨(some 49), .move (.tmp 48), 4, none, []⟩,
    ⟨(some 50), .fieldAddr 62 (.tmp 1) 4, 0, some (49, true), []⟩,
    ⟨(some 51), .load 51 (.tmp 50), 51, some (49, true), []⟩,
    ⟨(some 52), .binOp .neq 51 (.tmp 51) (.const (.int .u64 0)) 51, 4, some (49, true), []⟩,
    ⟨(some 53), .pick (.tmp 49) (.tmp 52) (.const (.bool false)), 4, none, []⟩,
    ⟨(some 54), .move (.tmp 53), 4, none, []⟩,
    ⟨(some 55), .move (.tmp 4), 4, some (54, false), []⟩,
    ⟨(some 56), .unOp .not 4 (.tmp 55), 4, some (54, false), []⟩,
    ⟨(some 57), .move (.tmp 56), 4, some (54, false), []⟩,
    ⟨(some 58), .fieldAddr 62 (.tmp 1) 2, 0, some (57, true), []⟩,
    ⟨(some 59), .load 3 (.tmp 58), 3, some (57, true), []⟩,
    ⟨(some 60), .binOp .neq 3 (.tmp 59) (.const (.int .i64 0)) 3, 4, some (57, true), []⟩,
    ⟨(some 61), .move (.tmp 60), 4, some (57, true), []⟩,
    ⟨(some 62), .fieldAddr 62 (.tmp 1) 3, 0, some (61, false), []⟩,
    ⟨(some 63), .load 3 (.tmp 62), 3, some (61, false), []⟩,
    ⟨(some 64), .binOp .neq 3 (.tmp 63) (.const (.int .i64 0)) 3, 4, some (61, false), []⟩,
    ⟨(some 65), .pick (.tmp 61) (.const (.bool true)) (.tmp 64), 4, some (57, true), []⟩,
    ⟨(some 66), .pick (.tmp 57) (.tmp 65) (.const (.bool false)), 4, some (54, false), []⟩,
    ⟨(some 67), .pick (.tmp 54) (.const (.bool true)) (.tmp 66), 4, none, []⟩])
  (.cond (.tmp 67)
    (.seq (.reg [⟨(some 2), .assign (.const (.slice none 0 0)), 24, none, []⟩,
      ⟨(some 3), .assign (.const (.int .i64 108)), 34, none, []⟩])
    .ret)
    .skip))
  (.seq (.reg [⟨(some 68), .fieldAddr 62 (.tmp 1) 0, 0, none, []⟩,
    ⟨(some 69), .load 9 (.tmp 68), 9, none, []⟩,
    ⟨(some 70), .convert 9 24 (.tmp 69), 24, none, []⟩,
    ⟨(some 71), .fieldAddr 62 (.tmp 1) 1, 0, none, []⟩,
    ⟨(some 72), .load 3 (.tmp 71), 3, none, []⟩,
    ⟨(some 73), .call ⟨.value (.func 61), #[(.tmp 70), (.tmp 72), (.const (.bool false))], #[24, 3, 4]⟩, 24, none, []⟩,
    ⟨(some 5), .assign (.tmp 73), 24, none, []⟩])
  (.seq (.seq (.reg [⟨(some 74), .move (.tmp 4), 4, none, []⟩])
  (.cond (.tmp 74)
    (.drw [(⟨(some 75), .move (.tmp 5), 24, none, []⟩, []),
      (⟨(some 76), .fieldAddr 62 (.tmp 1) 2, 0, none, []⟩, []),
      (⟨(some 77), .load 3 (.tmp 76), 3, none, []⟩, [0]),
      (⟨(some 78), .call ⟨.value (.func 61), #[(.tmp 75), (.tmp 77), (.const (.bool false))], #[24, 3, 4]⟩, 24, none, []⟩, []),
      (⟨(some 79), .fieldAddr 62 (.tmp 1) 3, 0, none, []⟩, [2, 3]),
      (⟨(some 80), .load 3 (.tmp 79), 3, none, []⟩, [0, 1, 2, 3]),
      (⟨(some 81), .call ⟨.value (.func 61), #[(.tmp 78), (.tmp 80), (.const (.bool false))], #[24, 3, 4]⟩, 24, none, []⟩, []),
      (⟨(some 5), .assign (.tmp 81), 24, none, []⟩, [])])
    (.reg [⟨(some 82), .move (.tmp 5), 24, none, []⟩,
      ⟨(some 83), .fieldAddr 62 (.tmp 1) 4, 0, none, []⟩,
      ⟨(some 84), .load 51 (.tmp 83), 51, none, []⟩,
      ⟨(some 85), .call ⟨.value (.func 64), #[(.tmp 84)], #[51]⟩, 24, none, []⟩,
      ⟨(some 86), .call ⟨.builtin .append, #[(.tmp 82), (.tmp 85)], #[24, 24]⟩, 24, none, []⟩,
      ⟨(some 5), .assign (.tmp 86), 24, none, []⟩])))
  (.seq (.reg [⟨(some 87), .move (.tmp 5), 24, none, []⟩,
    ⟨(some 88), .call ⟨.value (.func 62), #[(.tmp 87)], #[24]⟩, 24, none, []⟩,
    ⟨(some 2), .assign (.tmp 88), 24, none, []⟩,
    ⟨(some 3), .assign (.const (.int .i64 0)), 34, none, []⟩])
  .ret)))))))))
theorem l25 : slimF Hs 25 Try.f25 = some (89, s25, [.tmp 2, .tmp 3]) := by kernel_rfl

/-! 26 kerbsuite/kamessage.DecodeSecret -/
def s26 : SC :=
  (.seq (.reg [⟨(some 2), .alloc 62, 0, none, []⟩,
    ⟨(some 3), .assign (.const (.int .i64 0)), 34, none, []⟩])
  (.seq (.reg [⟨(some 8), .move (.tmp 0), 24, none, []⟩,
    ⟨(some 9), .call ⟨.value (.func 65), #[(.tmp 8), (.const (.int .i64 0)), (.const (.bool false))], #[24, 3, 4]⟩, 79, none, []⟩,
    ⟨(some 4), .assign (.tmp 9), 79, none, []⟩])
  (.seq (.reg [⟨(some 10), .move (.tmp 4), 79, none, []⟩,
    ⟨(some 11), .call ⟨.value (.func 49), #[(.tmp 10), (.const (.int .i64 4))], #[79, 3]⟩, 24, none, []⟩,
    ⟨(some 12), .convert 24 9 (.tmp 11), 9, none, []⟩,
    ⟨(some 13), .build 62 #[(0, (.tmp 12))], 62, none, []⟩,
    ⟨(some 5), .alloc 62, 0, none, []⟩,
    ⟨none, .store 62 (.tmp 5) (.tmp 13), 0, none, []⟩])
  (.seq (.reg [⟨(some 14), .move (.tmp 4), 79, none, []⟩,
    ⟨(some 15), .call ⟨.value (.func 66), #[(.tmp 14)], #[79]⟩, 3, none, []⟩,
    ⟨(some 16), .fieldAddr 62 (.tmp 5) 1, 0, none, []⟩,
    ⟨none, .store 3 (.tmp 16) (.tmp 15), 0, none, []⟩])
  (.seq (.seq (.reg [⟨(some 17), .fieldAddr 62 (.tmp 5) 0, 0, none, []⟩,
    ⟨(some 18), .load 9 (.tmp 17), 9, none, []⟩,
    ⟨(some 19), .binOp .eql 9 (.tmp 18) (.const (.string ⟨#[67, 80, 87, 108]⟩)) 9, 4, none, []⟩])
  (.cond (.tmp 19)
    (.reg [⟨(some 20), .move (.tmp 4), 79, none, []⟩,
      ⟨(some 21), .call ⟨.value (.func 67), #[(.tmp 20)], #[79]⟩, 51, none, []⟩,
      ⟨(some 22), .fieldAddr 62 (.tmp 5) 4, 0, none, []⟩,
      ⟨none, .store 51 (.tmp 22) (.tmp 21), 0, none, []⟩])
    (.seq (.reg [⟨(some 23), .move (.tmp 4), 79, none, []⟩,
      ⟨(some 24), .call ⟨.value (.func 66), #[(.tmp 23)], #[79]⟩, 3, none, []⟩,
      ⟨(some 25), .fieldAddr 62 (.tmp 5) 2, 0, none, []⟩,
      ⟨none, .store 3 (.tmp 25) (.tmp 24), 0, none, []⟩])
    (.reg [⟨(some 26), .move (.tmp 4), 79, none, []⟩,
      ⟨(some 27), .call ⟨.value (.func 66), #[(.tmp 26)], #[79]⟩, 3, none, []⟩,
      ⟨(some 28), .fieldAddr 62 (.tmp 5) 3, 0, none, []⟩,
      ⟨none, .store 3 (.tmp 28) (.tmp 27), 0, none, []⟩]))))
  (.seq (.seq (.reg [⟨(some 30), .load 62 (.tmp 5), 62, none, []⟩,
    ⟨(some 31), .call ⟨.value (.func 24), #[(.tmp 30)], #[62]⟩, 35, none, []⟩,
    ⟨(some 29), .move (.tmp 31), 35, none, []⟩,
    ⟨(some 32), .extract (.tmp 29) 0, 24, none, []⟩,
    ⟨(some 33), .extract (.tmp 29) 1, 34, none, []⟩,
    ⟨(some 6), .assign (.tmp 32), 24, none, []⟩,
    ⟨(some 7), .assign (.tmp 33), 34, none, []⟩])
  (.seq (.reg [⟨(some 34), .move (.tmp 0), 24, none, []⟩,
    ⟨(some 35), .move (.tmp 4), 79, none, []⟩,
    ⟨(some 36), .move (.tmp 6), 24, none, []⟩,
    ⟨(some 37), .move (.tmp 7), 34, none, []⟩,
    ⟨(some 38), .call ⟨.value (.func 52), #[(.tmp 34), (.tmp 35), (.tmp 36), (.tmp 37)], #[24, 79, 24, 34]⟩, 4, none, []⟩,
    ⟨(some 39), .unOp .not 4 (.tmp 38), 4, none, []⟩])
  (.cond (.tmp 39)
    (.seq (.reg [⟨(some 40), .build 62 #[], 62, none, []⟩,
      ⟨none, .store 62 (.tmp 2) (.tmp 40), 0, none, []⟩,
      ⟨(some 3), .assign (.const (.int .i64 100)), 34, none, []⟩])
    .ret)
    .skip)))
  (.seq (.reg [⟨(some 41), .load 62 (.tmp 5), 62, none, []⟩,
    ⟨none, .store 62 (.tmp 2) (.tmp 41), 0, none, []⟩,
    ⟨(some 3), .assign (.const (.int .i64 0)), 34, none, []⟩])
  .ret)))))))
theorem l26 : slimF Hs 26 Try.f26 = some (42, s26, [.cell 2 62, .tmp 3]) := by kernel_rfl

/-! 27 kerbsuite/kerbsuitedata.User -/
def s27 : SC :=
  (.seq (.reg [⟨(some 2), .alloc 23, 0, none, []⟩])
  (.seq (.drw [(⟨(some 3), .buildSlice 88 3 #[(0, (.const (.string ⟨#[97, 110, 110]⟩))), (1, (.const (.string ⟨#[98, 111, 98]⟩))), (2, (.const (.string ⟨#[99, 97, 116]⟩)))], 88, none, []⟩, []),
    (⟨(some 4), .move (.tmp 0), 3, none, []⟩, [0]),
    (⟨(some 5), .binOp .rem 3 (.tmp 4) (.const (.int .i64 3)) 3, 3, none, []⟩, [0]),
    (⟨(some 6), .indexAddr 88 (.tmp 3) (.tmp 5), 0, none, []⟩, []),
    (⟨(some 7), .load 9 (.tmp 6), 9, none, []⟩, []),
    (⟨(some 8), .move (.tmp 0), 3, none, []⟩, [0, 3, 4]),
    (⟨(some 9), .binOp .quo 3 (.tmp 8) (.const (.int .i64 3)) 3, 3, none, []⟩, [0, 3, 4]),
    (⟨(some 10), .call ⟨.value (.func 69), #[(.tmp 9)], #[3]⟩, 9, none, []⟩, [0, 1, 2, 3, 4]),
    (⟨(some 11), .build 23 #[(0, (.tmp 7)), (2, (.tmp 10))], 23, none, []⟩, []),
    (⟨none, .store 23 (.tmp 2) (.tmp 11), 0, none, []⟩, [])])
  .ret))
theorem l27 : slimF Hs 27 Try.f27 = some (12, s27, [.cell 2 23]) := by kernel_rfl

/-! 28 kerbsuite/kerbsuitedata.Service -/
def s28 : SC :=
  (.seq (.reg [⟨(some 2), .alloc 23, 0, none, []⟩])
  (.seq (.reg [⟨(some 4), .build 23 #[(0, (.const (.string ⟨#[109, 97, 105, 108]⟩)))], 23, none, []⟩,
    ⟨(some 5), .build 23 #[(0, (.const (.string ⟨#[110, 102, 115]⟩))), (1, (.const (.string ⟨#[104, 111, 109, 101]⟩)))], 23, none, []⟩,
    ⟨(some 6), .build 23 #[(0, (.const (.string ⟨#[107, 114, 98, 116, 103, 116]⟩))), (1, (.const (.string ⟨#[65, 84, 72]⟩)))], 23, none, []⟩,
    ⟨(some 7), .buildSlice 96 3 #[(0, (.tmp 4)), (1, (.tmp 5)), (2, (.tmp 6))], 96, none, []⟩,
    ⟨(some 8), .move (.tmp 0), 3, none, []⟩,
    ⟨(some 9), .binOp .rem 3 (.tmp 8) (.const (.int .i64 3)) 3, 3, none, []⟩,
    ⟨(some 10), .indexAddr 96 (.tmp 7) (.tmp 9), 0, none, []⟩,
    ⟨(some 11), .load 23 (.tmp 10), 23, none, []⟩,
    ⟨(some 3), .alloc 23, 0, none, []⟩,
    ⟨none, .store 23 (.tmp 3) (.tmp 11), 0, none, []⟩])
  (.seq (.reg [⟨(some 12), .move (.tmp 0), 3, none, []⟩,
    ⟨(some 13), .binOp .quo 3 (.tmp 12) (.const (.int .i64 3)) 3, 3, none, []⟩,
    ⟨(some 14), .call ⟨.value (.func 69), #[(.tmp 13)], #[3]⟩, 9, none, []⟩,
    ⟨(some 15), .fieldAddr 23 (.tmp 3) 2, 0, none, []⟩,
    ⟨none, .store 9 (.tmp 15) (.tmp 14), 0, none, []⟩])
  (.seq (.reg [⟨(some 16), .load 23 (.tmp 3), 23, none, []⟩,
    ⟨none, .store 23 (.tmp 2) (.tmp 16), 0, none, []⟩])
  .ret))))
theorem l28 : slimF Hs 28 Try.f28 = some (17, s28, [.cell 2 23]) := by kernel_rfl

/-! 29 kerbsuite/kamessage.check -/
def s29 : SC :=
  (.seq (.reg [⟨(some 1), .box 26 (.tmp 0), 0, none, []⟩,
    ⟨(some 2), .assign (.const (.int .i64 0)), 34, none, []⟩])
  (.seq (.reg [⟨(some 4), .fieldAddr 26 (.tmp 1) 0, 0, none, []⟩,
    ⟨(some 5), .load 3 (.tmp 4), 3, none, []⟩,
    ⟨(some 6), .binOp .eql 3 (.tmp 5) (.const (.int .i64 2)) 3, 4, none, []⟩,
    ⟨(some 3), .assign (.tmp 6), 4, none, []⟩])
  (.seq (.block 0 (.seq (.reg [⟨(some 8), .fieldAddr 26 (.tmp 1) 0, 0, none, []⟩,
    ⟨(some 9), .load 3 (.tmp 8), 3, none, []⟩,
    ⟨(some 10), .call ⟨.value (.func 53), #[(.tmp 9)], #[3]⟩, 4, none, []⟩,
    ⟨(some 11), .unOp .not 4 (.tmp 10), 4, none, []⟩,
    ⟨(some 7), .assign (.tmp 11), 4, none, []⟩])
  (.cond (.tmp 7)
    (.seq (.reg [⟨(some 2), .assign (.const (.int .i64 40)), 34, none, []⟩])
    .ret)
    (.seq (.seq (.reg [⟨(some 13), .move (.tmp 3), 4, none, []⟩,
      ⟨(some 14), .unOp .not 4 (.tmp 13), 4, none, []⟩,
      ⟨(some 15), .move (.tmp 14), 4, none, []⟩,
      ⟨(some 16), .fieldAddr 26 (.tmp 1) 1, 0, some (15, true), []⟩,
      ⟨(some 17), .load 23 (.tmp 16), 23, some (15, true), []⟩,
      ⟨(some 18), .call ⟨.value (.func 57), #[(.tmp 17)], #[23]⟩, 4, some (15, true), []⟩,
      ⟨(some 19), .unOp .not 4 (.tmp 18), 4, some (15, true), []⟩,
      ⟨(some 20), .pick (.tmp 15) (.tmp 19) (.const (.bool false)), 4, none, []⟩,
      ⟨(some 12), .assign (.tmp 20), 4, none, []⟩])
    (.cond (.tmp 12)
      .skip
      (.reg [⟨(some 21), .move (.tmp 3), 4, none, []⟩,
        ⟨(some 22), .move (.tmp 21), 4, none, []⟩,
        ⟨(some 23), .fieldAddr 26 (.tmp 1) 3, 0, some (22, true), []⟩,
        ⟨(some 24), .load 9 (.tmp 23), 9, some (22, true), []⟩,
        ⟨(some 25), .call ⟨.value (.func 70), #[(.tmp 24)], #[9]⟩, 4, some (22, true), []⟩,
        ⟨(some 26), .unOp .not 4 (.tmp 25), 4, some (22, true), []⟩,
        ⟨(some 27), .move (.tmp 26), 4, some (22, true), []⟩,
        ⟨(some 28), .fieldAddr 26 (.tmp 1) 5, 0, some (27, false), []⟩,
        ⟨(some 29), .load 9 (.tmp 28), 9, some (27, false), []⟩,
        ⟨(some 30), .call ⟨.value (.func 71), #[(.tmp 29)], #[9]⟩, 4, some (27, false), []⟩,
        ⟨(some 31), .unOp .not 4 (.tmp 30), 4, some (27, false), []⟩,
        ⟨(some 32), .pick (.tmp 27) (.const (.bool true)) (.tmp 31), 4, some (22, true), []⟩,
        ⟨(some 33), .move (.tmp 32), 4, some (22, true), []⟩,
        ⟨(some 34), .fieldAddr 26 (.tmp 1) 6, 0, some (33, false), []⟩,
        ⟨(some 35), .load 9 (.tmp 34), 9, some (33, false), []⟩,
        ⟨(some 36), .call ⟨.value (.func 72), #[(.tmp 35)], #[9]⟩, 4, some (33, false), []⟩,
        ⟨(some 37), .unOp .not 4 (.tmp 36), 4, some (33, false), []⟩,
        ⟨(some 38), .pick (.tmp 33) (.const (.bool true)) (.tmp 37), 4, some (22, true), []⟩,
        ⟨(some 39), .pick (.tmp 22) (.tmp 38) (.const (.bool false)), 4, none, []⟩,
        ⟨(some 12), .assign (.tmp 39), 4, none, []⟩])))
    (.cond (.tmp 12)
      (.seq (.reg [⟨(some 2), .assign (.const (.int .i64 103)), 34, none, []⟩])
      .ret)
      (.seq (.reg [⟨(some 41), .move (.tmp 3), 4, none, []⟩,
        ⟨(some 42), .move (.tmp 41), 4, none, []⟩,
        ⟨(some 43), .fieldAddr 26 (.tmp 1) 2, 0, some (42, true), []⟩,
        ⟨(some 44), .load 3 (.tmp 43), 3, some (42, true), []⟩,
        ⟨(some 45), .buildSlice 124 1 #[(0, (.tmp 44))], 124, some (42, true), []⟩,
        ⟨(some 46), .call ⟨.value (.func 54), #[(.const (.int .i64 255)), (.tmp 45)], #[3, 124]⟩, 4, some (42, true), []⟩,
        ⟨(some 47), .pick (.tmp 42) (.tmp 46) (.const (.bool false)), 4, none, []⟩,
        ⟨(some 40), .assign (.tmp 47), 4, none, []⟩])
      (.cond (.tmp 40)
        (.seq (.reg [⟨(some 2), .assign (.const (.int .i64 104)), 34, none, []⟩])
        .ret)
        (.seq (.reg [⟨(some 49), .move (.tmp 3), 4, none, []⟩,
          ⟨(some 50), .move (.tmp 49), 4, none, []⟩,
          ⟨(some 51), .fieldAddr 26 (.tmp 1) 4, 0, some (50, true), []⟩,
          ⟨(some 52), .load 24 (.tmp 51), 24, some (50, true), []⟩,
          ⟨(some 53), .call ⟨.builtin .len, #[(.tmp 52)], #[24]⟩, 3, some (50, true), []⟩,
          ⟨(some 54), .binOp .gtr 3 (.tmp 53) (.const (.int .i64 255)) 3, 4, some (50, true), []⟩,
          ⟨(some 55), .pick (.tmp 50) (.tmp 54) (.const (.bool false)), 4, none, []⟩,
          ⟨(some 56), .move (.tmp 55), 4, none, []⟩,
          ⟨(some 57), .fieldAddr 26 (.tmp 1) 7, 0, some (56, false), []⟩,
          ⟨(some 58), .load 24 (.tmp 57), 24, some (56, false), []⟩,
          ⟨(some 59), .call ⟨.builtin .len, #[(.tmp 58)], #[24]⟩, 3, some (56, false), []⟩,
          ⟨(some 60), .binOp .gtr 3 (.tmp 59) (.const (.int .i64 1012)) 3, 4, some (56, false), []⟩,
          ⟨(some 61), .pick (.tmp 56) (.const (.bool true)) (.tmp 60), 4, none, []⟩,
          ⟨(some 48), .assign (.tmp 61), 4, none, []⟩])
        (.cond (.tmp 48)
          (.seq (.reg [⟨(some 2), .assign (.const (.int .i64 105)), 34, none, []⟩])
          .ret)
          (.seq (.seq (.reg [⟨(some 63), .move (.tmp 3), 4, none, []⟩,
            ⟨(some 64), .unOp .not 4 (.tmp 63), 4, none, []⟩,
            ⟨(some 65), .move (.tmp 64), 4, none, []⟩,
            ⟨(some 66), .load 26 (.tmp 1), 26, some (65, true), []⟩,
            ⟨(some 67), .call ⟨.value (.func 73), #[(.tmp 66)], #[26]⟩, 4, some (65, true), []⟩,
            ⟨(some 68), .unOp .not 4 (.tmp 67), 4, some (65, true), []⟩,
            ⟨(some 69), .pick (.tmp 65) (.tmp 68) (.const (.bool false)), 4, none, []⟩,
            ⟨(some 62), .assign (.tmp 69), 4, none, []⟩])
          (.cond (.tmp 62)
            .skip
            (.reg [⟨(some 70), .move (.tmp 3), 4, none, []⟩,
              ⟨(some 71), .move (.tmp 70), 4, none, []⟩,
              ⟨(some 72), .fieldAddr 26 (.tmp 1) 1, 0, some (71, true), []⟩,
              ⟨(some 73), .load 23 (.tmp 72), 23, some (71, true), []⟩,
              ⟨(some 74), .build 23 #[], 23, some (71, true), []⟩,
              ⟨(some 75), .binOp .neq 23 (.tmp 73) (.tmp 74) 23, 4, some (71, true), []⟩,
              ⟨(some 76), .pick (.tmp 71) (.tmp 75) (.const (.bool false)), 4, none, []⟩,
              ⟨(some 62), .assign (.tmp 76), 4, none, []⟩])))
          (.cond (.tmp 62)
            (.seq (.reg [⟨(some 2), .assign (.const (.int .i64 108)), 34, none, []⟩])
            .ret)
            .skip)))))))))))
  (.seq (.reg [⟨(some 2), .assign (.const (.int .i64 0)), 34, none, []⟩])
  .ret))))
theorem l29 : slimF Hs 29 Try.f29 = some (77, s29, [.tmp 2]) := by kernel_rfl

/-! 30 kerbsuite/field.PutOctet -/
def s30 : SC :=
  (.seq (.reg [⟨(some 4), .assign (.const (.slice none 0 0)), 24, none, []⟩])
  (.seq (.reg [⟨(some 5), .move (.tmp 0), 24, none, []⟩,
    ⟨(some 6), .move (.tmp 1), 3, none, []⟩,
    ⟨(some 7), .convert 3 5 (.tmp 6), 5, none, []⟩,
    ⟨(some 8), .buildSlice 24 1 #[(0, (.tmp 7))], 24, none, []⟩,
    ⟨(some 9), .call ⟨.value (.func 74), #[(.tmp 5), (.tmp 8)], #[24, 24]⟩, 24, none, []⟩,
    ⟨(some 4), .assign (.tmp 9), 24, none, []⟩])
  .ret))
theorem l30 : slimF Hs 30 Try.f30 = some (10, s30, [.tmp 4]) := by kernel_rfl

/-! 31 kerbsuite/header.Put -/
def s31 : SC :=
  (.seq (.reg [⟨(some 4), .assign (.const (.slice none 0 0)), 24, none, []⟩])
  (.seq (.seq (.reg [⟨(some 6), .move (.tmp 0), 3, none, []⟩,
    ⟨(some 7), .call ⟨.value (.func 75), #[(.tmp 6)], #[3]⟩, 4, none, []⟩,
    ⟨(some 8), .unOp .not 4 (.tmp 7), 4, none, []⟩])
  (.cond (.tmp 8)
    (.seq (.reg [⟨(some 4), .assign (.const (.slice none 0 0)), 24, none, []⟩])
    .ret)
    .skip))
  (.seq (.reg [⟨(some 9), .move (.tmp 0), 3, none, []⟩,
    ⟨(some 10), .binOp .mul 3 (.const (.int .i64 2)) (.tmp 9) 3, 3, none, []⟩,
    ⟨(some 11), .convert 3 5 (.tmp 10), 5, none, []⟩,
    ⟨(some 5), .assign (.tmp 11), 5, none, []⟩])
  (.seq (.seq (.reg [⟨(some 12), .move (.tmp 1), 4, none, []⟩])
  (.cond (.tmp 12)
    (.reg [⟨(some 13), .move (.tmp 5), 5, none, []⟩,
      ⟨(some 14), .binOp .add 5 (.tmp 13) (.const (.int .u8 1)) 5, 5, none, []⟩,
      ⟨(some 5), .assign (.tmp 14), 5, none, []⟩])
    .skip))
  (.seq (.reg [⟨(some 15), .move (.tmp 5), 5, none, []⟩,
    ⟨(some 16), .buildSlice 24 2 #[(0, (.const (.int .u8 4))), (1, (.tmp 15))], 24, none, []⟩,
    ⟨(some 4), .assign (.tmp 16), 24, none, []⟩])
  .ret)))))
theorem l31 : slimF Hs 31 Try.f31 = some (17, s31, [.tmp 4]) := by kernel_rfl

/-! 32 kerbsuite/field.PutText -/
def s32 : SC :=
  (.seq (.reg [⟨(some 4), .assign (.const (.slice none 0 0)), 24, none, []⟩])
  (.seq (.reg [⟨(some 5), .move (.tmp 0), 24, none, []⟩,
    ⟨(some 6), .move (.tmp 1), 9, none, []⟩,
    ⟨(some 7), .convert 9 24 (.tmp 6), 24, none, []⟩,
    ⟨(some 8), .call ⟨.value (.func 74), #[(.tmp 5), (.tmp 7)], #[24, 24]⟩, 24, none, []⟩,
    ⟨(some 9), .buildSlice 24 1 #[(0, (.const (.int .u8 0)))], 24, none, []⟩,
    ⟨(some 10), .call ⟨.builtin .append, #[(.tmp 8), (.tmp 9)], #[24, 24]⟩, 24, none, []⟩,
    ⟨(some 4), .assign (.tmp 10), 24, none, []⟩])
  .ret))
theorem l32 : slimF Hs 32 Try.f32 = some (11, s32, [.tmp 4]) := by kernel_rfl

/-! 33 kerbsuite/field.PutPrincipal -/
def s33 : SC :=
  (.seq (.reg [⟨(some 3), .box 23 (.tmp 1), 0, none, []⟩,
    ⟨(some 4), .assign (.const (.slice none 0 0)), 24, none, []⟩])
  (.seq (.drw [(⟨(some 5), .move (.tmp 0), 24, none, []⟩, []),
    (⟨(some 6), .fieldAddr 23 (.tmp 3) 0, 0, none, []⟩, []),
    (⟨(some 7), .load 9 (.tmp 6), 9, none, []⟩, [0]),
    (⟨(some 8), .call ⟨.value (.func 32), #[(.tmp 5), (.tmp 7)], #[24, 9]⟩, 24, none, []⟩, []),
    (⟨(some 9), .fieldAddr 23 (.tmp 3) 1, 0, none, []⟩, [2, 3]),
    (⟨(some 10), .load 9 (.tmp 9), 9, none, []⟩, [0, 1, 2, 3]),
    (⟨(some 11), .call ⟨.value (.func 32), #[(.tmp 8), (.tmp 10)], #[24, 9]⟩, 24, none, []⟩, []),
    (⟨(some 12), .fieldAddr 23 (.tmp 3) 2, 0, none, []⟩, [2, 3, 5, 6]),
    (⟨(some 13), .load 9 (.tmp 12), 9, none, []⟩, [0, 1, 2, 3, 4, 5, 6]),
    (⟨(some 14), .call ⟨.value (.func 32), #[(.tmp 11), (.tmp 13)], #[24, 9]⟩, 24, none, []⟩, []),
    (⟨(some 4), .assign (.tmp 14), 24, none, []⟩, [])])
  .ret))
theorem l33 : slimF Hs 33 Try.f33 = some (15, s33, [.tmp 4]) := by kernel_rfl

/-! 34 kerbsuite/field.PutShort -/
def s34 : SC :=
  (.seq (.reg [⟨(some 6), .assign (.const (.slice none 0 0)), 24, none, []⟩])
  (.seq (.reg [⟨(some 7), .move (.tmp 0), 24, none, []⟩,
    ⟨(some 8), .move (.tmp 1), 3, none, []⟩,
    ⟨(some 9), .move (.tmp 2), 4, none, []⟩,
    ⟨(some 10), .call ⟨.value (.func 76), #[(.tmp 8), (.const (.int .i64 2)), (.tmp 9)], #[3, 3, 4]⟩, 24, none, []⟩,
    ⟨(some 11), .call ⟨.value (.func 74), #[(.tmp 7), (.tmp 10)], #[24, 24]⟩, 24, none, []⟩,
    ⟨(some 6), .assign (.tmp 11), 24, none, []⟩])
  .ret))
theorem l34 : slimF Hs 34 Try.f34 = some (12, s34, [.tmp 6]) := by kernel_rfl

/-! 35 kerbsuite/kerbsuiteref22.user -/
def s35 : SC :=
  (.seq (.reg [⟨(some 2), .assign (.const (.bool false)), 4, none, []⟩])
  (.seq (.reg [⟨(some 3), .move (.tmp 0), 3, none, []⟩,
    ⟨(some 4), .binOp .eql 3 (.tmp 3) (.const (.int .i64 1)) 3, 4, none, []⟩,
    ⟨(some 5), .move (.tmp 4), 4, none, []⟩,
    ⟨(some 6), .move (.tmp 0), 3, some (5, false), []⟩,
    ⟨(some 7), .binOp .eql 3 (.tmp 6) (.const (.int .i64 3)) 3, 4, some (5, false), []⟩,
    ⟨(some 8), .pick (.tmp 5) (.const (.bool true)) (.tmp 7), 4, none, []⟩,
    ⟨(some 2), .assign (.tmp 8), 4, none, []⟩])
  .ret))
theorem l35 : slimF Hs 35 Try.f35 = some (9, s35, [.tmp 2]) := by kernel_rfl

/-! 36 kerbsuite/kerbsuiteref1.Valid -/
def s36 : SC :=
  (.seq (.reg [⟨(some 1), .box 23 (.tmp 0), 0, none, []⟩,
    ⟨(some 2), .assign (.const (.bool false)), 4, none, []⟩])
  (.seq (.reg [⟨(some 3), .fieldAddr 23 (.tmp 1) 0, 0, none, []⟩,
    ⟨(some 4), .load 9 (.tmp 3), 9, none, []⟩,
    ⟨(some 5), .call ⟨.value (.func 38), #[(.tmp 4)], #[9]⟩, 4, none, []⟩,
    ⟨(some 6), .move (.tmp 5), 4, none, []⟩,
    ⟨(some 7), .fieldAddr 23 (.tmp 1) 1, 0, some (6, true), []⟩,
    ⟨(some 8), .load 9 (.tmp 7), 9, some (6, true), []⟩,
    ⟨(some 9), .call ⟨.value (.func 39), #[(.tmp 8)], #[9]⟩, 4, some (6, true), []⟩,
    ⟨(some 10), .pick (.tmp 6) (.tmp 9) (.const (.bool false)), 4, none, []⟩,
    ⟨(some 11), .move (.tmp 10), 4, none, []⟩,
    ⟨(some 12), .fieldAddr 23 (.tmp 1) 2, 0, some (11, true), []⟩,
    ⟨(some 13), .load 9 (.tmp 12), 9, some (11, true), []⟩,
    ⟨(some 14), .call ⟨.value (.func 37), #[(.tmp 13)], #[9]⟩, 4, some (11, true), []⟩,
    ⟨(some 15), .pick (.tmp 11) (.tmp 14) (.const (.bool false)), 4, none, []⟩,
    ⟨(some 2), .assign (.tmp 15), 4, none, []⟩])
  .ret))
theorem l36 : slimF Hs 36 Try.f36 = some (16, s36, [.tmp 2]) := by kernel_rfl

/-! 37 kerbsuite/kerbsuiteref1.ValidRealm -/
def s37 : SC :=
  (.seq (.reg [⟨(some 2), .assign (.const (.bool false)), 4, none, []⟩])
  (.seq (.reg [⟨(some 3), .move (.tmp 0), 9, none, []⟩,
    ⟨(some 4), .call ⟨.builtin .len, #[(.tmp 3)], #[9]⟩, 3, none, []⟩,
    ⟨(some 5), .binOp .gtr 3 (.tmp 4) (.const (.int .i64 0)) 3, 4, none, []⟩,
    ⟨(some 6), .move (.tmp 5), 4, none, []⟩,
    ⟨(some 7), .move (.tmp 0), 9, some (6, true), []⟩,
    ⟨(some 8), .call ⟨.value (.func 77), #[(.tmp 7), (.const (.string ⟨#[64]⟩))], #[9, 9]⟩, 4, some (6, true), []⟩,
    ⟨(some 9), .pick (.tmp 6) (.tmp 8) (.const (.bool false)), 4, none, []⟩,
    ⟨(some 2), .assign (.tmp 9), 4, none, []⟩])
  .ret))
theorem l37 : slimF Hs 37 Try.f37 = some (10, s37, [.tmp 2]) := by kernel_rfl

/-! 38 kerbsuite/kerbsuiteref1.ValidName -/
def s38 : SC :=
  (.seq (.reg [⟨(some 2), .assign (.const (.bool false)), 4, none, []⟩])
  (.seq (.reg [⟨(some 3), .move (.tmp 0), 9, none, []⟩,
    ⟨(some 4), .call ⟨.builtin .len, #[(.tmp 3)], #[9]⟩, 3, none, []⟩,
    ⟨(some 5), .binOp .gtr 3 (.tmp 4) (.const (.int .i64 0)) 3, 4, none, []⟩,
    ⟨(some 6), .move (.tmp 5), 4, none, []⟩,
    ⟨(some 7), .move (.tmp 0), 9, some (6, true), []⟩,
    ⟨(some 8), .call ⟨.value (.func 77), #[(.tmp 7), (.const (.string ⟨#[46, 64]⟩))], #[9, 9]⟩, 4, some (6, true), []⟩,
    ⟨(some 9), .pick (.tmp 6) (.tmp 8) (.const (.bool false)), 4, none, []⟩,
    ⟨(some 2), .assign (.tmp 9), 4, none, []⟩])
  .ret))
theorem l38 : slimF Hs 38 Try.f38 = some (10, s38, [.tmp 2]) := by kernel_rfl

/-! 39 kerbsuite/kerbsuiteref1.ValidInstance -/
def s39 : SC :=
  (.seq (.reg [⟨(some 2), .assign (.const (.bool false)), 4, none, []⟩])
  (.seq (.reg [⟨(some 3), .move (.tmp 0), 9, none, []⟩,
    ⟨(some 4), .call ⟨.value (.func 77), #[(.tmp 3), (.const (.string ⟨#[64]⟩))], #[9, 9]⟩, 4, none, []⟩,
    ⟨(some 2), .assign (.tmp 4), 4, none, []⟩])
  .ret))
theorem l39 : slimF Hs 39 Try.f39 = some (5, s39, [.tmp 2]) := by kernel_rfl

/-! 40 kerbsuite/kerbsuiteref22.within -/
def s40 : SC :=
  (.seq (.reg [⟨(some 4), .assign (.const (.bool false)), 4, none, []⟩])
  (.seq (.reg [⟨(some 5), .move (.tmp 0), 3, none, []⟩,
    ⟨(some 6), .binOp .geq 3 (.tmp 5) (.const (.int .i64 0)) 3, 4, none, []⟩,
    ⟨(some 7), .move (.tmp 6), 4, none, []⟩,
    ⟨(some 8), .move (.tmp 0), 3, some (7, true), []⟩,
    ⟨(some 9), .move (.tmp 1), 3, some (7, true), []⟩,
    ⟨(some 10), .binOp .leq 3 (.tmp 8) (.tmp 9) 3, 4, some (7, true), []⟩,
    ⟨(some 11), .pick (.tmp 7) (.tmp 10) (.const (.bool false)), 4, none, []⟩,
    ⟨(some 4), .assign (.tmp 11), 4, none, []⟩])
  .ret))
theorem l40 : slimF Hs 40 Try.f40 = some (12, s40, [.tmp 4]) := by kernel_rfl

/-! 41 kerbsuite/kerbsuiteref5.PutOctet -/
def s41 : SC :=
  (.seq (.reg [⟨(some 4), .assign (.const (.slice none 0 0)), 24, none, []⟩])
  (.seq (.reg [⟨(some 5), .move (.tmp 0), 24, none, []⟩,
    ⟨(some 6), .move (.tmp 1), 3, none, []⟩,
    ⟨(some 7), .call ⟨.value (.func 78), #[(.tmp 5), (.tmp 6), (.const (.int .i64 1)), (.const (.bool false))], #[24, 3, 3, 4]⟩, 24, none, []⟩,
    ⟨(some 4), .assign (.tmp 7), 24, none, []⟩])
  .ret))
theorem l41 : slimF Hs 41 Try.f41 = some (8, s41, [.tmp 4]) := by kernel_rfl

/-! 42 kerbsuite/kerbsuiteref8.Put -/
def s42 : SC :=
  (.seq (.reg [⟨(some 4), .assign (.const (.slice none 0 0)), 24, none, []⟩])
  (.seq (.seq (.reg [⟨(some 6), .move (.tmp 0), 3, none, []⟩,
    ⟨(some 7), .binOp .lss 3 (.tmp 6) (.const (.int .i64 1)) 3, 4, none, []⟩,
    ⟨(some 8), .move (.tmp 7), 4, none, []⟩,
    ⟨(some 9), .move (.tmp 0), 3, some (8, false), []⟩,
    ⟨(some 10), .binOp .gtr 3 (.tmp 9) (.const (.int .i64 10)) 3, 4, some (8, false), []⟩,
    ⟨(some 11), .pick (.tmp 8) (.const (.bool true)) (.tmp 10), 4, none, []⟩])
  (.cond (.tmp 11)
    (.seq (.reg [⟨(some 4), .assign (.const (.slice none 0 0)), 24, none, []⟩])
    .ret)
    .skip))
  (.seq (.reg [⟨(some 12), .move (.tmp 0), 3, none, []⟩,
    ⟨(some 13), .binOp .mul 3 (.const (.int .i64 2)) (.tmp 12) 3, 3, none, []⟩,
    ⟨(some 5), .assign (.tmp 13), 3, none, []⟩])
  (.seq (.seq (.reg [⟨(some 14), .move (.tmp 1), 4, none, []⟩])
  (.cond (.tmp 14)
    (.reg [⟨(some 15), .move (.tmp 5), 3, none, []⟩,
      ⟨(some 16), .binOp .add 3 (.tmp 15) (.const (.int .i64 1)) 3, 3, none, []⟩,
      ⟨(some 5), .assign (.tmp 16), 3, none, []⟩])
    .skip))
  (.seq (.reg [⟨(some 17), .move (.tmp 5), 3, none, []⟩,
    ⟨(some 18), .convert 3 5 (.tmp 17), 5, none, []⟩,
    ⟨(some 19), .buildSlice 24 2 #[(0, (.const (.int .u8 4))), (1, (.tmp 18))], 24, none, []⟩,
    ⟨(some 4), .assign (.tmp 19), 24, none, []⟩])
  .ret)))))
theorem l42 : slimF Hs 42 Try.f42 = some (20, s42, [.tmp 4]) := by kernel_rfl

/-! 43 kerbsuite/kerbsuiteref5.PutPrincipal -/
def s43 : SC :=
  (.seq (.reg [⟨(some 3), .box 23 (.tmp 1), 0, none, []⟩,
    ⟨(some 4), .assign (.const (.slice none 0 0)), 24, none, []⟩])
  (.seq (.drw [(⟨(some 5), .move (.tmp 0), 24, none, []⟩, []),
    (⟨(some 6), .fieldAddr 23 (.tmp 3) 0, 0, none, []⟩, []),
    (⟨(some 7), .load 9 (.tmp 6), 9, none, []⟩, [0]),
    (⟨(some 8), .call ⟨.value (.func 44), #[(.tmp 5), (.tmp 7)], #[24, 9]⟩, 24, none, []⟩, []),
    (⟨(some 9), .fieldAddr 23 (.tmp 3) 1, 0, none, []⟩, [2, 3]),
    (⟨(some 10), .load 9 (.tmp 9), 9, none, []⟩, [0, 1, 2, 3]),
    (⟨(some 11), .call ⟨.value (.func 44), #[(.tmp 8), (.tmp 10)], #[24, 9]⟩, 24, none, []⟩, []),
    (⟨(some 12), .fieldAddr 23 (.tmp 3) 2, 0, none, []⟩, [2, 3, 5, 6]),
    (⟨(some 13), .load 9 (.tmp 12), 9, none, []⟩, [0, 1, 2, 3, 4, 5, 6]),
    (⟨(some 14), .call ⟨.value (.func 44), #[(.tmp 11), (.tmp 13)], #[24, 9]⟩, 24, none, []⟩, []),
    (⟨(some 4), .assign (.tmp 14), 24, none, []⟩, [])])
  .ret))
theorem l43 : slimF Hs 43 Try.f43 = some (15, s43, [.tmp 4]) := by kernel_rfl

/-! 44 kerbsuite/kerbsuiteref5.PutText -/
def s44 : SC :=
  (.seq (.reg [⟨(some 4), .assign (.const (.slice none 0 0)), 24, none, []⟩])
  (.seq (.reg [⟨(some 5), .buildSlice 24 0 #[], 24, none, []⟩,
    ⟨(some 6), .move (.tmp 0), 24, none, []⟩,
    ⟨(some 7), .call ⟨.builtin .append, #[(.tmp 5), (.tmp 6)], #[24, 24]⟩, 24, none, []⟩,
    ⟨(some 8), .move (.tmp 1), 9, none, []⟩,
    ⟨(some 9), .call ⟨.builtin .append, #[(.tmp 7), (.tmp 8)], #[24, 9]⟩, 24, none, []⟩,
    ⟨(some 10), .buildSlice 24 1 #[(0, (.const (.int .u8 0)))], 24, none, []⟩,
    ⟨(some 11), .call ⟨.builtin .append, #[(.tmp 9), (.tmp 10)], #[24, 24]⟩, 24, none, []⟩,
    ⟨(some 4), .assign (.tmp 11), 24, none, []⟩])
  .ret))
theorem l44 : slimF Hs 44 Try.f44 = some (12, s44, [.tmp 4]) := by kernel_rfl

/-! 45 kerbsuite/kerbsuiteref5.PutShort -/
def s45 : SC :=
  (.seq (.reg [⟨(some 6), .assign (.const (.slice none 0 0)), 24, none, []⟩])
  (.seq (.reg [⟨(some 7), .move (.tmp 0), 24, none, []⟩,
    ⟨(some 8), .move (.tmp 1), 3, none, []⟩,
    ⟨(some 9), .move (.tmp 2), 4, none, []⟩,
    ⟨(some 10), .call ⟨.value (.func 78), #[(.tmp 7), (.tmp 8), (.const (.int .i64 2)), (.tmp 9)], #[24, 3, 3, 4]⟩, 24, none, []⟩,
    ⟨(some 6), .assign (.tmp 10), 24, none, []⟩])
  .ret))
theorem l45 : slimF Hs 45 Try.f45 = some (11, s45, [.tmp 6]) := by kernel_rfl

/-! 46 kerbsuite/kamessage.open -/
def s46 : SC :=
  (.seq (.reg [⟨(some 2), .assign (.const (.pointer none)), 79, none, []⟩,
    ⟨(some 3), .assign (.const (.int .i64 0)), 34, none, []⟩])
  (.seq (.seq (.reg [⟨(some 7), .move (.tmp 0), 24, none, []⟩,
    ⟨(some 8), .buildSlice 124 1 #[(0, (.const (.int .i64 9)))], 124, none, []⟩,
    ⟨(some 9), .call ⟨.value (.func 79), #[(.tmp 7), (.tmp 8)], #[24, 124]⟩, 102, none, []⟩,
    ⟨(some 6), .move (.tmp 9), 102, none, []⟩,
    ⟨(some 10), .extract (.tmp 6) 0, 4, none, []⟩,
    ⟨(some 11), .extract (.tmp 6) 1, 34, none, []⟩,
    ⟨(some 4), .assign (.tmp 10), 4, none, []⟩,
    ⟨(some 5), .assign (.tmp 11), 34, none, []⟩])
  (.seq (.reg [⟨(some 12), .move (.tmp 5), 34, none, []⟩,
    ⟨(some 13), .binOp .neq 34 (.tmp 12) (.const (.int .i64 0)) 34, 4, none, []⟩])
  (.cond (.tmp 13)
    (.seq (.reg [⟨(some 14), .move (.tmp 5), 34, none, []⟩,
      ⟨(some 2), .assign (.const (.pointer none)), 79, none, []⟩,
      ⟨(some 3), .assign (.tmp 14), 34, none, []⟩])
    .ret)
    .skip)))
  (.seq (.reg [⟨(some 15), .move (.tmp 0), 24, none, []⟩,
    ⟨(some 16), .call ⟨.value (.func 65), #[(.tmp 15), (.const (.int .i64 2)), (.const (.bool false))], #[24, 3, 4]⟩, 79, none, []⟩,
    ⟨(some 2), .assign (.tmp 16), 79, none, []⟩,
    ⟨(some 3), .assign (.const (.int .i64 0)), 34, none, []⟩])
  .ret)))
theorem l46 : slimF Hs 46 Try.f46 = some (17, s46, [.tmp 2, .tmp 3]) := by kernel_rfl

/-! 47 (*kerbsuite/cursor.Cursor).Octet -/
def s47 : SC :=
  (.seq (.reg [⟨(some 1), .box 79 (.tmp 0), 0, none, []⟩,
    ⟨(some 2), .assign (.const (.int .i64 0)), 3, none, []⟩])
  (.seq (.reg [⟨(some 3), .load 79 (.tmp 1), 79, none, []⟩,
    ⟨(some 4), .makeFunc (.func 81) #[] #[(.tmp 1)], 109, none, []⟩,
    ⟨(some 5), .call ⟨.value (.func 80), #[(.tmp 3), (.tmp 4)], #[79, 109]⟩, 3, none, []⟩,
    ⟨(some 2), .assign (.tmp 5), 3, none, []⟩])
  .ret))
theorem l47 : slimF Hs 47 Try.f47 = some (6, s47, [.tmp 2]) := by kernel_rfl

/-! 48 (*kerbsuite/cursor.Cursor).Text -/
def s48 : SC :=
  (.seq (.reg [⟨(some 1), .box 79 (.tmp 0), 0, none, []⟩,
    ⟨(some 2), .assign (.const (.string ⟨#[]⟩)), 9, none, []⟩])
  (.seq (.reg [⟨(some 3), .load 79 (.tmp 1), 79, none, []⟩,
    ⟨(some 4), .makeFunc (.func 84) #[] #[(.tmp 1)], 113, none, []⟩,
    ⟨(some 5), .call ⟨.value (.func 83), #[(.tmp 3), (.tmp 4)], #[79, 113]⟩, 9, none, []⟩,
    ⟨(some 2), .assign (.tmp 5), 9, none, []⟩])
  .ret))
theorem l48 : slimF Hs 48 Try.f48 = some (6, s48, [.tmp 2]) := by kernel_rfl

/-! 49 (*kerbsuite/cursor.Cursor).Bytes -/
def s49 : SC :=
  (.seq (.reg [⟨(some 2), .box 79 (.tmp 0), 0, none, []⟩,
    ⟨(some 3), .box 3 (.tmp 1), 0, none, []⟩,
    ⟨(some 4), .assign (.const (.slice none 0 0)), 24, none, []⟩])
  (.seq (.reg [⟨(some 5), .load 79 (.tmp 2), 79, none, []⟩,
    ⟨(some 6), .makeFunc (.func 87) #[] #[(.tmp 2), (.tmp 3)], 117, none, []⟩,
    ⟨(some 7), .call ⟨.value (.func 86), #[(.tmp 5), (.tmp 6)], #[79, 117]⟩, 24, none, []⟩,
    ⟨(some 4), .assign (.tmp 7), 24, none, []⟩])
  .ret))
theorem l49 : slimF Hs 49 Try.f49 = some (8, s49, [.tmp 4]) := by kernel_rfl

/-! 50 (*kerbsuite/cursor.Cursor).Principal -/
def s50 : SC :=
  (.seq (.reg [⟨(some 1), .box 79 (.tmp 0), 0, none, []⟩,
    ⟨(some 2), .alloc 23, 0, none, []⟩])
  (.seq (.reg [⟨(some 3), .load 79 (.tmp 1), 79, none, []⟩,
    ⟨(some 4), .makeFunc (.func 90) #[] #[(.tmp 1)], 121, none, []⟩,
    ⟨(some 5), .call ⟨.value (.func 89), #[(.tmp 3), (.tmp 4)], #[79, 121]⟩, 23, none, []⟩,
    ⟨none, .store 23 (.tmp 2) (.tmp 5), 0, none, []⟩])
  .ret))
theorem l50 : slimF Hs 50 Try.f50 = some (6, s50, [.cell 2 23]) := by kernel_rfl

/-! 51 (*kerbsuite/cursor.Cursor).Short -/
def s51 : SC :=
  (.seq (.reg [⟨(some 1), .box 79 (.tmp 0), 0, none, []⟩,
    ⟨(some 2), .assign (.const (.int .i64 0)), 3, none, []⟩])
  (.seq (.reg [⟨(some 3), .load 79 (.tmp 1), 79, none, []⟩,
    ⟨(some 4), .makeFunc (.func 92) #[] #[(.tmp 1)], 109, none, []⟩,
    ⟨(some 5), .call ⟨.value (.func 80), #[(.tmp 3), (.tmp 4)], #[79, 109]⟩, 3, none, []⟩,
    ⟨(some 2), .assign (.tmp 5), 3, none, []⟩])
  .ret))
theorem l51 : slimF Hs 51 Try.f51 = some (6, s51, [.tmp 2]) := by kernel_rfl

/-! 52 kerbsuite/kamessage.is -/
def s52 : SC :=
  (.seq (.reg [⟨(some 8), .assign (.const (.bool false)), 4, none, []⟩])
  (.seq (.reg [⟨(some 9), .move (.tmp 1), 79, none, []⟩,
    ⟨(some 10), .call ⟨.value (.func 94), #[(.tmp 9)], #[79]⟩, 4, none, []⟩,
    ⟨(some 11), .unOp .not 4 (.tmp 10), 4, none, []⟩,
    ⟨(some 12), .move (.tmp 11), 4, none, []⟩,
    ⟨(some 13), .move (.tmp 3), 34, some (12, true), []⟩,
    ⟨(some 14), .binOp .eql 34 (.tmp 13) (.const (.int .i64 0)) 34, 4, some (12, true), []⟩,
    ⟨(some 15), .pick (.tmp 12) (.tmp 14) (.const (.bool false)), 4, none, []⟩,
    ⟨(some 16), .move (.tmp 15), 4, none, []⟩,
    ⟨(some 17), .move (.tmp 2), 24, some (16, true), []⟩,
    ⟨(some 18), .move (.tmp 0), 24, some (16, true), []⟩,
    ⟨(some 19), .call ⟨.value (.func 95), #[(.tmp 17), (.tmp 18)], #[24, 24]⟩, 4, some (16, true), []⟩,
    ⟨(some 20), .pick (.tmp 16) (.tmp 19) (.const (.bool false)), 4, none, []⟩,
    ⟨(some 8), .assign (.tmp 20), 4, none, []⟩])
  .ret))
theorem l52 : slimF Hs 52 Try.f52 = some (21, s52, [.tmp 8]) := by kernel_rfl

/-! 53 kerbsuite/kamessage.isOp -/
def s53 : SC :=
  (.seq (.reg [⟨(some 2), .assign (.const (.bool false)), 4, none, []⟩])
  (.seq (.reg [⟨(some 3), .move (.tmp 0), 3, none, []⟩,
    ⟨(some 4), .binOp .geq 3 (.tmp 3) (.const (.int .i64 1)) 3, 4, none, []⟩,
    ⟨(some 5), .move (.tmp 4), 4, none, []⟩,
    ⟨(some 6), .move (.tmp 0), 3, some (5, true), []⟩,
    ⟨(some 7), .binOp .leq 3 (.tmp 6) (.const (.int .i64 3)) 3, 4, some (5, true), []⟩,
    ⟨(some 8), .pick (.tmp 5) (.tmp 7) (.const (.bool false)), 4, none, []⟩,
    ⟨(some 2), .assign (.tmp 8), 4, none, []⟩])
  .ret))
theorem l53 : slimF Hs 53 Try.f53 = some (9, s53, [.tmp 2]) := by kernel_rfl

/-! 54 kerbsuite/kamessage.outside -/
def s54 : SC :=
  (.seq (.reg [⟨(some 2), .box 3 (.tmp 0), 0, none, []⟩,
    ⟨(some 4), .assign (.const (.bool false)), 4, none, []⟩])
  (.seq (.reg [⟨(some 5), .move (.tmp 1), 124, none, []⟩,
    ⟨(some 6), .makeFunc (.func 97) #[] #[(.tmp 2)], 76, none, []⟩,
    ⟨(some 7), .call ⟨.value (.func 96), #[(.tmp 5), (.tmp 6)], #[124, 76]⟩, 4, none, []⟩,
    ⟨(some 4), .assign (.tmp 7), 4, none, []⟩])
  .ret))
theorem l54 : slimF Hs 54 Try.f54 = some (8, s54, [.tmp 4]) := by kernel_rfl

/-! 55 kerbsuite/kerbsuitedata.Session -/
def s55 : SC :=
  (.seq (.reg [⟨(some 2), .assign (.const (.int .u64 0)), 51, none, []⟩])
  (.seq (.reg [⟨(some 3), .move (.tmp 0), 3, none, []⟩,
    ⟨(some 4), .binOp .add 3 (.const (.int .i64 1)) (.tmp 3) 3, 3, none, []⟩,
    ⟨(some 5), .convert 3 51 (.tmp 4), 51, none, []⟩,
    ⟨(some 6), .binOp .or 51 (.const (.int .u64 144115188075855872)) (.tmp 5) 51, 51, none, []⟩,
    ⟨(some 2), .assign (.tmp 6), 51, none, []⟩])
  .ret))
theorem l55 : slimF Hs 55 Try.f55 = some (7, s55, [.tmp 2]) := by kernel_rfl

/-! 56 kerbsuite/key.Valid -/
def s56 : SC :=
  (.seq (.reg [⟨(some 2), .assign (.const (.bool false)), 4, none, []⟩])
  (.seq (.reg [⟨(some 3), .move (.tmp 0), 51, none, []⟩,
    ⟨(some 4), .call ⟨.value (.func 98), #[(.tmp 3)], #[51]⟩, 3, none, []⟩,
    ⟨(some 5), .binOp .neq 3 (.tmp 4) (.const (.int .i64 0)) 3, 4, none, []⟩,
    ⟨(some 2), .assign (.tmp 5), 4, none, []⟩])
  .ret))
theorem l56 : slimF Hs 56 Try.f56 = some (6, s56, [.tmp 2]) := by kernel_rfl

/-! 57 kerbsuite/principal.Valid -/
def s57 : SC :=
  (.seq (.reg [⟨(some 1), .box 23 (.tmp 0), 0, none, []⟩,
    ⟨(some 2), .assign (.const (.bool false)), 4, none, []⟩])
  (.seq (.reg [⟨(some 3), .fieldAddr 23 (.tmp 1) 0, 0, none, []⟩,
    ⟨(some 4), .load 9 (.tmp 3), 9, none, []⟩,
    ⟨(some 5), .call ⟨.value (.func 71), #[(.tmp 4)], #[9]⟩, 4, none, []⟩,
    ⟨(some 6), .move (.tmp 5), 4, none, []⟩,
    ⟨(some 7), .fieldAddr 23 (.tmp 1) 1, 0, some (6, true), []⟩,
    ⟨(some 8), .load 9 (.tmp 7), 9, some (6, true), []⟩,
    ⟨(some 9), .call ⟨.value (.func 72), #[(.tmp 8)], #[9]⟩, 4, some (6, true), []⟩,
    ⟨(some 10), .pick (.tmp 6) (.tmp 9) (.const (.bool false)), 4, none, []⟩,
    ⟨(some 11), .move (.tmp 10), 4, none, []⟩,
    ⟨(some 12), .fieldAddr 23 (.tmp 1) 2, 0, some (11, true), []⟩,
    ⟨(some 13), .load 9 (.tmp 12), 9, some (11, true), []⟩,
    ⟨(some 14), .call ⟨.value (.func 70), #[(.tmp 13)], #[9]⟩, 4, some (11, true), []⟩,
    ⟨(some 15), .pick (.tmp 11) (.tmp 14) (.const (.bool false)), 4, none, []⟩,
    ⟨(some 2), .assign (.tmp 15), 4, none, []⟩])
  .ret))
theorem l57 : slimF Hs 57 Try.f57 = some (16, s57, [.tmp 2]) := by kernel_rfl

/-! 58 kerbsuite/field.PutNumber -/
def s58 : SC :=
  (.seq (.reg [⟨(some 6), .assign (.const (.slice none 0 0)), 24, none, []⟩])
  (.seq (.reg [⟨(some 7), .move (.tmp 0), 24, none, []⟩,
    ⟨(some 8), .move (.tmp 1), 3, none, []⟩,
    ⟨(some 9), .move (.tmp 2), 4, none, []⟩,
    ⟨(some 10), .call ⟨.value (.func 76), #[(.tmp 8), (.const (.int .i64 4)), (.tmp 9)], #[3, 3, 4]⟩, 24, none, []⟩,
    ⟨(some 11), .call ⟨.value (.func 74), #[(.tmp 7), (.tmp 10)], #[24, 24]⟩, 24, none, []⟩,
    ⟨(some 6), .assign (.tmp 11), 24, none, []⟩])
  .ret))
theorem l58 : slimF Hs 58 Try.f58 = some (12, s58, [.tmp 6]) := by kernel_rfl

/-! 59 kerbsuite/key.Bytes -/
def s59_0 : SC :=
  (.seq (.reg [⟨(some 9), .binOp .lss 3 (.tmp 8) (.tmp 7) 3, 0, none, []⟩])
  (.seq (.cond (.tmp 9)
    .skip
    (.exit 0))
  (.seq (.block 1 (.seq (.reg [⟨(some 10), .move (.tmp 8), 3, none, []⟩,
    ⟨(some 4), .assign (.tmp 10), 3, none, []⟩])
  (.reg [⟨(some 11), .move (.tmp 3), 24, none, []⟩,
    ⟨(some 12), .move (.tmp 4), 3, none, []⟩,
    ⟨(some 13), .move (.tmp 0), 51, none, []⟩,
    ⟨(some 14), .move (.tmp 4), 3, none, []⟩,
    ⟨(some 15), .binOp .mul 3 (.const (.int .i64 8)) (.tmp 14) 3, 3, none, []⟩,
    ⟨(some 16), .binOp .sub 3 (.const (.int .i64 56)) (.tmp 15) 3, 3, none, []⟩,
    ⟨(some 17), .binOp .shr 51 (.tmp 13) (.tmp 16) 3, 51, none, []⟩,
    ⟨(some 18), .convert 51 5 (.tmp 17), 5, none, []⟩,
    ⟨(some 19), .indexAddr 24 (.tmp 11) (.tmp 12), 0, none, []⟩,
    ⟨none, .store 5 (.tmp 19) (.tmp 18), 0, none, []⟩])))
  (.reg [⟨(some 20), .binOp .add 3 (.tmp 8) (.const (.int .i64 1)) 3, 3, none, []⟩,
    ⟨(some 8), .move (.tmp 20), 3, none, []⟩]))))
def s59 : SC :=
  (.seq (.reg [⟨(some 2), .assign (.const (.slice none 0 0)), 24, none, []⟩])
  (.seq (.reg [⟨(some 5), .makeSlice 24 (.const (.int .i64 8)) (.const (.int .i64 8)), 24, none, []⟩,
    ⟨(some 3), .assign (.tmp 5), 24, none, []⟩])
  (.seq (.seq (.reg [⟨(some 6), .move (.tmp 3), 24, none, []⟩,
    ⟨(some 7), .call ⟨.builtin .len, #[(.tmp 6)], #[24]⟩, 3, none, []⟩,
    ⟨(some 8), .move (.const (.int .i64 0)), 3, none, []⟩])
  (.block 0 (.loop (some ([0, 3, 7, 8], 0)) s59_0)))
  (.seq (.reg [⟨(some 21), .move (.tmp 3), 24, none, []⟩,
    ⟨(some 2), .assign (.tmp 21), 24, none, []⟩])
  .ret))))
theorem l59 : slimF Hs 59 Try.f59 = some (22, s59, [.tmp 2]) := by kernel_rfl

/-! 60 kerbsuite/field.Pad -/
def s60 : SC :=
  (.seq (.reg [⟨(some 2), .assign (.const (.slice none 0 0)), 24, none, []⟩])
  (.seq (.reg [⟨(some 3), .move (.tmp 0), 24, none, []⟩,
    ⟨(some 4), .move (.tmp 0), 24, none, []⟩,
    ⟨(some 5), .call ⟨.builtin .len, #[(.tmp 4)], #[24]⟩, 3, none, []⟩,
    ⟨(some 6), .binOp .rem 3 (.tmp 5) (.const (.int .i64 8)) 3, 3, none, []⟩,
    ⟨(some 7), .binOp .sub 3 (.const (.int .i64 8)) (.tmp 6) 3, 3, none, []⟩,
    ⟨(some 8), .binOp .rem 3 (.tmp 7) (.const (.int .i64 8)) 3, 3, none, []⟩,
    ⟨(some 9), .makeSlice 24 (.tmp 8) (.tmp 8), 24, none, []⟩,
    ⟨(some 10), .call ⟨.value (.func 74), #[(.tmp 3), (.tmp 9)], #[24, 24]⟩, 24, none, []⟩,
    ⟨(some 2), .assign (.tmp 10), 24, none, []⟩])
  .ret))
theorem l60 : slimF Hs 60 Try.f60 = some (11, s60, [.tmp 2]) := by kernel_rfl

/-! 61 kerbsuite/kerbsuiteref5.PutNumber -/
def s61 : SC :=
  (.seq (.reg [⟨(some 6), .assign (.const (.slice none 0 0)), 24, none, []⟩])
  (.seq (.reg [⟨(some 7), .move (.tmp 0), 24, none, []⟩,
    ⟨(some 8), .move (.tmp 1), 3, none, []⟩,
    ⟨(some 9), .move (.tmp 2), 4, none, []⟩,
    ⟨(some 10), .call ⟨.value (.func 78), #[(.tmp 7), (.tmp 8), (.const (.int .i64 4)), (.tmp 9)], #[24, 3, 3, 4]⟩, 24, none, []⟩,
    ⟨(some 6), .assign (.tmp 10), 24, none, []⟩])
  .ret))
theorem l61 : slimF Hs 61 Try.f61 = some (11, s61, [.tmp 6]) := by kernel_rfl

/-! 62 kerbsuite/kerbsuiteref5.Pad -/
def s62_0 : SC :=
  (.seq (.seq (.reg [⟨(some 7), .move (.tmp 3), 24, none, []⟩,
    ⟨(some 8), .call ⟨.builtin .len, #[(.tmp 7)], #[24]⟩, 3, none, []⟩,
    ⟨(some 9), .binOp .rem 3 (.tmp 8) (.const (.int .i64 8)) 3, 3, none, []⟩,
    ⟨(some 10), .binOp .neq 3 (.tmp 9) (.const (.int .i64 0)) 3, 4, none, []⟩])
  (.cond (.tmp 10)
    .skip
    (.exit 0)))
  (.block 1 (.reg [⟨(some 11), .move (.tmp 3), 24, none, []⟩,
    ⟨(some 12), .buildSlice 24 1 #[(0, (.const (.int .u8 0)))], 24, none, []⟩,
    ⟨(some 13), .call ⟨.builtin .append, #[(.tmp 11), (.tmp 12)], #[24, 24]⟩, 24, none, []⟩,
    ⟨(some 3), .assign (.tmp 13), 24, none, []⟩])))
def s62 : SC :=
  (.seq (.reg [⟨(some 2), .assign (.const (.slice none 0 0)), 24, none, []⟩])
  (.seq (.reg [⟨(some 4), .buildSlice 24 0 #[], 24, none, []⟩,
    ⟨(some 5), .move (.tmp 0), 24, none, []⟩,
    ⟨(some 6), .call ⟨.builtin .append, #[(.tmp 4), (.tmp 5)], #[24, 24]⟩, 24, none, []⟩,
    ⟨(some 3), .assign (.tmp 6), 24, none, []⟩])
  (.seq (.block 0 (.loop (some ([3], 0)) s62_0))
  (.seq (.reg [⟨(some 14), .move (.tmp 3), 24, none, []⟩,
    ⟨(some 2), .assign (.tmp 14), 24, none, []⟩])
  .ret))))
theorem l62 : slimF Hs 62 Try.f62 = some (15, s62, [.tmp 2]) := by kernel_rfl

/-! 63 kerbsuite/kerbsuiteref3.Valid -/
def s63 : SC :=
  (.seq (.reg [⟨(some 2), .assign (.const (.bool false)), 4, none, []⟩])
  (.seq (.reg [⟨(some 3), .move (.tmp 0), 51, none, []⟩,
    ⟨(some 4), .binOp .neq 51 (.tmp 3) (.const (.int .u64 0)) 51, 4, none, []⟩,
    ⟨(some 5), .move (.tmp 4), 4, none, []⟩,
    ⟨(some 6), .move (.tmp 0), 51, some (5, true), []⟩,
    ⟨(some 7), .binOp .shr 51 (.tmp 6) (.const (.int .u64 56)) 128, 51, some (5, true), []⟩,
    ⟨(some 8), .convert 51 3 (.tmp 7), 3, some (5, true), []⟩,
    ⟨(some 9), .move (.tmp 0), 51, some (5, true), []⟩,
    ⟨(some 10), .binOp .and 51 (.tmp 9) (.const (.int .u64 72057594037927935)) 51, 51, some (5, true), []⟩,
    ⟨(some 11), .convert 51 3 (.tmp 10), 3, some (5, true), []⟩,
    ⟨(some 12), .call ⟨.value (.func 99), #[(.tmp 8), (.tmp 11)], #[3, 3]⟩, 51, some (5, true), []⟩,
    ⟨(some 13), .move (.tmp 0), 51, some (5, true), []⟩,
    ⟨(some 14), .binOp .eql 51 (.tmp 12) (.tmp 13) 51, 4, some (5, true), []⟩,
    ⟨(some 15), .pick (.tmp 5) (.tmp 14) (.const (.bool false)), 4, none, []⟩,
    ⟨(some 2), .assign (.tmp 15), 4, none, []⟩])
  .ret))
theorem l63 : slimF Hs 63 Try.f63 = some (16, s63, [.tmp 2]) := by kernel_rfl

/-! 64 kerbsuite/kerbsuiteref3.Bytes -/
def s64_0 : SC :=
  (.seq (.seq (.reg [⟨(some 5), .move (.tmp 4), 3, none, []⟩,
    ⟨(some 6), .binOp .geq 3 (.tmp 5) (.const (.int .i64 0)) 3, 4, none, []⟩])
  (.cond (.tmp 6)
    .skip
    (.exit 0)))
  (.seq (.block 1 (.reg [⟨(some 9), .move (.tmp 3), 24, none, []⟩,
    ⟨(some 10), .move (.tmp 0), 51, none, []⟩,
    ⟨(some 11), .move (.tmp 4), 3, none, []⟩,
    ⟨(some 12), .binOp .mul 3 (.const (.int .i64 8)) (.tmp 11) 3, 3, none, []⟩,
    ⟨(some 13), .convert 3 128 (.tmp 12), 128, none, []⟩,
    ⟨(some 14), .binOp .shr 51 (.tmp 10) (.tmp 13) 128, 51, none, []⟩,
    ⟨(some 15), .convert 51 5 (.tmp 14), 5, none, []⟩,
    ⟨(some 16), .buildSlice 24 1 #[(0, (.tmp 15))], 24, none, []⟩,
    ⟨(some 17), .call ⟨.builtin .append, #[(.tmp 9), (.tmp 16)], #[24, 24]⟩, 24, none, []⟩,
    ⟨(some 3), .assign (.tmp 17), 24, none, []⟩]))
  (.reg [⟨(some 7), .move (.tmp 4), 3, none, []⟩,
    ⟨(some 8), .binOp .sub 3 (.tmp 7) (.const (.int .i64 1)) 3, 3, none, []⟩,
    ⟨(some 4), .assign (.tmp 8), 3, none, []⟩])))
def s64 : SC :=
  (.seq (.reg [⟨(some 2), .assign (.const (.slice none 0 0)), 24, none, []⟩])
  (.seq (.reg [⟨(some 3), .assign (.const (.slice none 0 0)), 24, none, [0]⟩])
  (.seq (.seq (.reg [⟨(some 4), .assign (.const (.int .i64 7)), 3, none, []⟩])
  (.block 0 (.loop (some ([0, 3, 4], 0)) s64_0)))
  (.seq (.reg [⟨(some 18), .move (.tmp 3), 24, none, []⟩,
    ⟨(some 2), .assign (.tmp 18), 24, none, []⟩])
  .ret))))
theorem l64 : slimF Hs 64 Try.f64 = some (19, s64, [.tmp 2]) := by kernel_rfl

/-! 65 kerbsuite/cursor.New -/
def s65 : SC :=
  (.seq (.reg [⟨(some 6), .assign (.const (.pointer none)), 79, none, []⟩])
  (.seq (.reg [⟨(some 7), .move (.tmp 0), 24, none, []⟩,
    ⟨(some 8), .move (.tmp 1), 3, none, []⟩,
    ⟨(some 9), .move (.tmp 2), 4, none, []⟩,
    ⟨(some 10), .build 108 #[(0, (.tmp 7)), (1, (.tmp 8)), (2, (.tmp 9))], 108, none, []⟩,
    ⟨(some 11), .box 108 (.tmp 10), 79, none, []⟩,
    ⟨(some 6), .assign (.tmp 11), 79, none, []⟩])
  .ret))
theorem l65 : slimF Hs 65 Try.f65 = some (12, s65, [.tmp 6]) := by kernel_rfl

/-! 66 (*kerbsuite/cursor.Cursor).Number -/
def s66 : SC :=
  (.seq (.reg [⟨(some 1), .box 79 (.tmp 0), 0, none, []⟩,
    ⟨(some 2), .assign (.const (.int .i64 0)), 3, none, []⟩])
  (.seq (.reg [⟨(some 3), .load 79 (.tmp 1), 79, none, []⟩,
    ⟨(some 4), .makeFunc (.func 100) #[] #[(.tmp 1)], 109, none, []⟩,
    ⟨(some 5), .call ⟨.value (.func 80), #[(.tmp 3), (.tmp 4)], #[79, 109]⟩, 3, none, []⟩,
    ⟨(some 2), .assign (.tmp 5), 3, none, []⟩])
  .ret))
theorem l66 : slimF Hs 66 Try.f66 = some (6, s66, [.tmp 2]) := by kernel_rfl

/-! 67 (*kerbsuite/cursor.Cursor).Key -/
def s67 : SC :=
  (.seq (.reg [⟨(some 2), .assign (.const (.int .u64 0)), 51, none, []⟩])
  (.seq (.reg [⟨(some 6), .move (.tmp 0), 79, none, []⟩,
    ⟨(some 7), .call ⟨.value (.func 49), #[(.tmp 6), (.const (.int .i64 8))], #[79, 3]⟩, 24, none, []⟩,
    ⟨(some 8), .call ⟨.value (.func 102), #[(.tmp 7)], #[24]⟩, 129, none, []⟩,
    ⟨(some 5), .move (.tmp 8), 129, none, []⟩,
    ⟨(some 9), .extract (.tmp 5) 0, 51, none, []⟩,
    ⟨(some 10), .extract (.tmp 5) 1, 4, none, []⟩,
    ⟨(some 3), .assign (.tmp 9), 51, none, []⟩,
    ⟨(some 4), .assign (.tmp 10), 4, none, []⟩])
  (.seq (.reg [⟨(some 11), .move (.tmp 3), 51, none, []⟩,
    ⟨(some 2), .assign (.tmp 11), 51, none, []⟩])
  .ret)))
theorem l67 : slimF Hs 67 Try.f67 = some (12, s67, [.tmp 2]) := by kernel_rfl

/-! 68 kerbsuite/kerbsuitedata.Long -/
def s68 : SC :=
  (.seq (.reg [⟨(some 2), .assign (.const (.int .u64 0)), 51, none, []⟩])
  (.seq (.reg [⟨(some 3), .move (.tmp 0), 3, none, []⟩,
    ⟨(some 4), .binOp .add 3 (.const (.int .i64 1)) (.tmp 3) 3, 3, none, []⟩,
    ⟨(some 5), .convert 3 51 (.tmp 4), 51, none, []⟩,
    ⟨(some 6), .binOp .or 51 (.const (.int .u64 72057594037927936)) (.tmp 5) 51, 51, none, []⟩,
    ⟨(some 2), .assign (.tmp 6), 51, none, []⟩])
  .ret))
theorem l68 : slimF Hs 68 Try.f68 = some (7, s68, [.tmp 2]) := by kernel_rfl

/-! 69 kerbsuite/kerbsuitedata.Realm -/
def s69 : SC :=
  (.seq (.reg [⟨(some 2), .assign (.const (.string ⟨#[]⟩)), 9, none, []⟩])
  (.seq (.reg [⟨(some 3), .call ⟨.value (.func 103), #[], #[]⟩, 88, none, []⟩,
    ⟨(some 4), .move (.tmp 0), 3, none, []⟩,
    ⟨(some 5), .binOp .rem 3 (.tmp 4) (.const (.int .i64 3)) 3, 3, none, []⟩,
    ⟨(some 6), .indexAddr 88 (.tmp 3) (.tmp 5), 0, none, []⟩,
    ⟨(some 7), .load 9 (.tmp 6), 9, none, []⟩,
    ⟨(some 2), .assign (.tmp 7), 9, none, []⟩])
  .ret))
theorem l69 : slimF Hs 69 Try.f69 = some (8, s69, [.tmp 2]) := by kernel_rfl

/-! 70 kerbsuite/principal.ValidRealm -/
def s70 : SC :=
  (.seq (.reg [⟨(some 2), .assign (.const (.bool false)), 4, none, []⟩])
  (.seq (.reg [⟨(some 3), .move (.tmp 0), 9, none, []⟩,
    ⟨(some 4), .binOp .neq 9 (.tmp 3) (.const (.string ⟨#[]⟩)) 9, 4, none, []⟩,
    ⟨(some 5), .move (.tmp 4), 4, none, []⟩,
    ⟨(some 6), .move (.tmp 0), 9, some (5, true), []⟩,
    ⟨(some 7), .call ⟨.value (.func 104), #[(.tmp 6), (.const (.string ⟨#[64]⟩))], #[9, 9]⟩, 4, some (5, true), []⟩,
    ⟨(some 8), .pick (.tmp 5) (.tmp 7) (.const (.bool false)), 4, none, []⟩,
    ⟨(some 2), .assign (.tmp 8), 4, none, []⟩])
  .ret))
theorem l70 : slimF Hs 70 Try.f70 = some (9, s70, [.tmp 2]) := by kernel_rfl

/-! 71 kerbsuite/principal.ValidName -/
def s71 : SC :=
  (.seq (.reg [⟨(some 2), .assign (.const (.bool false)), 4, none, []⟩])
  (.seq (.reg [⟨(some 3), .move (.tmp 0), 9, none, []⟩,
    ⟨(some 4), .binOp .neq 9 (.tmp 3) (.const (.string ⟨#[]⟩)) 9, 4, none, []⟩,
    ⟨(some 5), .move (.tmp 4), 4, none, []⟩,
    ⟨(some 6), .move (.tmp 0), 9, some (5, true), []⟩,
    ⟨(some 7), .call ⟨.value (.func 104), #[(.tmp 6), (.const (.string ⟨#[46, 64]⟩))], #[9, 9]⟩, 4, some (5, true), []⟩,
    ⟨(some 8), .pick (.tmp 5) (.tmp 7) (.const (.bool false)), 4, none, []⟩,
    ⟨(some 2), .assign (.tmp 8), 4, none, []⟩])
  .ret))
theorem l71 : slimF Hs 71 Try.f71 = some (9, s71, [.tmp 2]) := by kernel_rfl

/-! 72 kerbsuite/principal.ValidInstance -/
def s72 : SC :=
  (.seq (.reg [⟨(some 2), .assign (.const (.bool false)), 4, none, []⟩])
  (.seq (.reg [⟨(some 3), .move (.tmp 0), 9, none, []⟩,
    ⟨(some 4), .call ⟨.value (.func 104), #[(.tmp 3), (.const (.string ⟨#[64]⟩))], #[9, 9]⟩, 4, none, []⟩,
    ⟨(some 2), .assign (.tmp 4), 4, none, []⟩])
  .ret))
theorem l72 : slimF Hs 72 Try.f72 = some (5, s72, [.tmp 2]) := by kernel_rfl

/-! 73 kerbsuite/kamessage.empty -/
def s73 : SC :=
  (.seq (.reg [⟨(some 1), .box 26 (.tmp 0), 0, none, []⟩,
    ⟨(some 2), .assign (.const (.bool false)), 4, none, []⟩])
  (.seq (.reg [⟨(some 3), .fieldAddr 26 (.tmp 1) 2, 0, none, []⟩,
    ⟨(some 4), .load 3 (.tmp 3), 3, none, []⟩,
    ⟨(some 5), .binOp .eql 3 (.tmp 4) (.const (.int .i64 0)) 3, 4, none, []⟩,
    ⟨(some 6), .move (.tmp 5), 4, none, []⟩,
    ⟨(some 7), .fieldAddr 26 (.tmp 1) 3, 0, some (6, true), []⟩,
    ⟨(some 8), .load 9 (.tmp 7), 9, some (6, true), []⟩,
    ⟨(some 9), .binOp .eql 9 (.tmp 8) (.const (.string ⟨#[]⟩)) 9, 4, some (6, true), []⟩,
    ⟨(some 10), .pick (.tmp 6) (.tmp 9) (.const (.bool false)), 4, none, []⟩,
    ⟨(some 11), .move (.tmp 10), 4, none, []⟩,
    ⟨(some 12), .fieldAddr 26 (.tmp 1) 4, 0, some (11, true), []⟩,
    ⟨(some 13), .load 24 (.tmp 12), 24, some (11, true), []⟩,
    ⟨(some 14), .call ⟨.builtin .len, #[(.tmp 13)], #[24]⟩, 3, some (11, true), []⟩,
    ⟨(some 15), .binOp .eql 3 (.tmp 14) (.const (.int .i64 0)) 3, 4, some (11, true), []⟩,
    ⟨(some 16), .pick (.tmp 11) (.tmp 15) (.const (.bool false)), 4, none, []⟩,
    ⟨(some 17), .move (.tmp 16), 4, none, []⟩,
    ⟨(some 18), .fieldAddr 26 (.tmp 1) 5, 0, some (17, true), []⟩,
    ⟨(some 19), .load 9 (.tmp 18), 9, some (17, true), []⟩,
    ⟨(some 20), .binOp .eql 9 (.tmp 19) (.const (.string ⟨#[]⟩)) 9, 4, some (17, true), []⟩,
    ⟨(some 21), .pick (.tmp 17) (.tmp 20) (.const (.bool false)), 4, none, []⟩,
    ⟨(some 22), .move (.tmp 21), 4, none, []⟩,
    ⟨(some 23), .fieldAddr 26 (.tmp 1) 6, 0, some (22, true), []⟩,
    ⟨(some 24), .load 9 (.tmp 23), 9, some (22, true), []⟩,
    ⟨(some 25), .binOp .eql 9 (.tmp 24) (.const (.string ⟨#[]⟩)) 9, 4, some (22, true), []⟩,
    ⟨(some 26), .pick (.tmp 22) (.tmp 25) (.const (.bool false)), 4, none, []⟩,
    ⟨(some 2), .assign (.tmp 26), 4, none, []⟩])
  .ret))
theorem l73 : slimF Hs 73 Try.f73 = some (27, s73, [.tmp 2]) := by kernel_rfl

/-! 74 kerbsuite/field.put -/
def s74 : SC :=
  (.seq (.reg [⟨(some 4), .assign (.const (.slice none 0 0)), 24, none, []⟩])
  (.seq (.reg [⟨(some 5), .move (.tmp 0), 24, none, []⟩,
    ⟨(some 6), .call ⟨.value (.func 105), #[(.tmp 5)], #[24]⟩, 24, none, []⟩,
    ⟨(some 7), .move (.tmp 1), 24, none, []⟩,
    ⟨(some 8), .call ⟨.builtin .append, #[(.tmp 6), (.tmp 7)], #[24, 24]⟩, 24, none, []⟩,
    ⟨(some 4), .assign (.tmp 8), 24, none, []⟩])
  .ret))
theorem l74 : slimF Hs 74 Try.f74 = some (9, s74, [.tmp 4]) := by kernel_rfl

/-! 75 kerbsuite/header.isType -/
def s75 : SC :=
  (.seq (.reg [⟨(some 2), .assign (.const (.bool false)), 4, none, []⟩])
  (.seq (.reg [⟨(some 3), .move (.tmp 0), 3, none, []⟩,
    ⟨(some 4), .binOp .geq 3 (.tmp 3) (.const (.int .i64 1)) 3, 4, none, []⟩,
    ⟨(some 5), .move (.tmp 4), 4, none, []⟩,
    ⟨(some 6), .move (.tmp 0), 3, some (5, true), []⟩,
    ⟨(some 7), .binOp .leq 3 (.tmp 6) (.const (.int .i64 10)) 3, 4, some (5, true), []⟩,
    ⟨(some 8), .pick (.tmp 5) (.tmp 7) (.const (.bool false)), 4, none, []⟩,
    ⟨(some 2), .assign (.tmp 8), 4, none, []⟩])
  .ret))
theorem l75 : slimF Hs 75 Try.f75 = some (9, s75, [.tmp 2]) := by kernel_rfl

/-! 76 kerbsuite/field.number -/
def s76_0 : SC :=
  (.seq (.reg [⟨(some 14), .binOp .lss 3 (.tmp 13) (.tmp 12) 3, 0, none, []⟩])
  (.seq (.cond (.tmp 14)
    .skip
    (.exit 0))
  (.seq (.block 1 (.seq (.reg [⟨(some 15), .move (.tmp 13), 3, none, []⟩,
    ⟨(some 8), .assign (.tmp 15), 3, none, []⟩])
  (.reg [⟨(some 16), .move (.tmp 7), 24, none, []⟩,
    ⟨(some 17), .move (.tmp 8), 3, none, []⟩,
    ⟨(some 18), .move (.tmp 0), 3, none, []⟩,
    ⟨(some 19), .move (.tmp 8), 3, none, []⟩,
    ⟨(some 20), .binOp .mul 3 (.const (.int .i64 8)) (.tmp 19) 3, 3, none, []⟩,
    ⟨(some 21), .binOp .shr 3 (.tmp 18) (.tmp 20) 3, 3, none, []⟩,
    ⟨(some 22), .convert 3 5 (.tmp 21), 5, none, []⟩,
    ⟨(some 23), .indexAddr 24 (.tmp 16) (.tmp 17), 0, none, []⟩,
    ⟨none, .store 5 (.tmp 23) (.tmp 22), 0, none, []⟩])))
  (.reg [⟨(some 24), .binOp .add 3 (.tmp 13) (.const (.int .i64 1)) 3, 3, none, []⟩,
    ⟨(some 13), .move (.tmp 24), 3, none, []⟩]))))
def s76 : SC :=
  (.seq (.reg [⟨(some 6), .assign (.const (.slice none 0 0)), 24, none, []⟩])
  (.seq (.reg [⟨(some 9), .move (.tmp 1), 3, none, []⟩,
    ⟨(some 10), .makeSlice 24 (.tmp 9) (.tmp 9), 24, none, []⟩,
    ⟨(some 7), .assign (.tmp 10), 24, none, []⟩])
  (.seq (.seq (.reg [⟨(some 11), .move (.tmp 7), 24, none, []⟩,
    ⟨(some 12), .call ⟨.builtin .len, #[(.tmp 11)], #[24]⟩, 3, none, []⟩,
    ⟨(some 13), .move (.const (.int .i64 0)), 3, none, []⟩])
  (.block 0 (.loop (some ([0, 2, 7, 12, 13], 0)) s76_0)))
  (.seq (.seq (.reg [⟨(some 25), .move (.tmp 2), 4, none, []⟩,
    ⟨(some 26), .unOp .not 4 (.tmp 25), 4, none, []⟩])
  (.cond (.tmp 26)
    (.reg [⟨(some 27), .move (.tmp 7), 24, none, []⟩,
      ⟨(some 28), .call ⟨.value (.func 106), #[(.tmp 27)], #[24]⟩, 0, none, []⟩])
    .skip))
  (.seq (.reg [⟨(some 29), .move (.tmp 7), 24, none, []⟩,
    ⟨(some 6), .assign (.tmp 29), 24, none, []⟩])
  .ret)))))
theorem l76 : slimF Hs 76 Try.f76 = some (30, s76, [.tmp 6]) := by kernel_rfl

/-! 77 kerbsuite/kerbsuiteref1.text -/
def s77_0 : SC :=
  (.seq (.seq (.reg [⟨(some 23), .move (.tmp 6), 3, none, []⟩,
    ⟨(some 24), .move (.tmp 1), 9, none, []⟩,
    ⟨(some 25), .call ⟨.builtin .len, #[(.tmp 24)], #[9]⟩, 3, none, []⟩,
    ⟨(some 26), .binOp .lss 3 (.tmp 23) (.tmp 25) 3, 4, none, []⟩])
  (.cond (.tmp 26)
    .skip
    (.exit 2)))
  (.seq (.block 3 (.seq (.drw [(⟨(some 29), .move (.tmp 0), 9, none, []⟩, []),
    (⟨(some 30), .move (.tmp 5), 3, none, []⟩, []),
    (⟨(some 31), .index 9 (.tmp 29) (.tmp 30), 5, none, []⟩, []),
    (⟨(some 32), .move (.tmp 1), 9, none, []⟩, []),
    (⟨(some 33), .move (.tmp 6), 3, none, []⟩, []),
    (⟨(some 34), .index 9 (.tmp 32) (.tmp 33), 5, none, []⟩, []),
    (⟨(some 35), .binOp .eql 5 (.tmp 31) (.tmp 34) 5, 4, none, []⟩, [])])
  (.cond (.tmp 35)
    (.seq (.reg [⟨(some 4), .assign (.const (.bool false)), 4, none, []⟩])
    .ret)
    .skip)))
  (.reg [⟨(some 27), .move (.tmp 6), 3, none, []⟩,
    ⟨(some 28), .binOp .add 3 (.tmp 27) (.const (.int .i64 1)) 3, 3, none, []⟩,
    ⟨(some 6), .assign (.tmp 28), 3, none, []⟩])))
def s77_1 : SC :=
  (.seq (.seq (.reg [⟨(some 7), .move (.tmp 5), 3, none, []⟩,
    ⟨(some 8), .move (.tmp 0), 9, none, []⟩,
    ⟨(some 9), .call ⟨.builtin .len, #[(.tmp 8)], #[9]⟩, 3, none, []⟩,
    ⟨(some 10), .binOp .lss 3 (.tmp 7) (.tmp 9) 3, 4, none, []⟩])
  (.cond (.tmp 10)
    .skip
    (.exit 0)))
  (.seq (.block 1 (.seq (.seq (.reg [⟨(some 13), .move (.tmp 0), 9, none, []⟩,
    ⟨(some 14), .move (.tmp 5), 3, none, []⟩,
    ⟨(some 15), .index 9 (.tmp 13) (.tmp 14), 5, none, []⟩,
    ⟨(some 16), .binOp .lss 5 (.tmp 15) (.const (.int .u8 33)) 5, 4, none, []⟩,
    ⟨(some 17), .move (.tmp 16), 4, none, []⟩,
    ⟨(some 18), .move (.tmp 0), 9, some (17, false), []⟩,
    ⟨(some 19), .move (.tmp 5), 3, some (17, false), []⟩,
    ⟨(some 20), .index 9 (.tmp 18) (.tmp 19), 5, some (17, false), []⟩,
    ⟨(some 21), .binOp .gtr 5 (.tmp 20) (.const (.int .u8 126)) 5, 4, some (17, false), []⟩,
    ⟨(some 22), .pick (.tmp 17) (.const (.bool true)) (.tmp 21), 4, none, []⟩])
  (.cond (.tmp 22)
    (.seq (.reg [⟨(some 4), .assign (.const (.bool false)), 4, none, []⟩])
    .ret)
    .skip))
  (.seq (.reg [⟨(some 6), .assign (.const (.int .i64 0)), 3, none, []⟩])
  (.block 2 (.loop (some ([0, 1, 5, 6], 0)) s77_0)))))
  (.reg [⟨(some 11), .move (.tmp 5), 3, none, []⟩,
    ⟨(some 12), .binOp .add 3 (.tmp 11) (.const (.int .i64 1)) 3, 3, none, []⟩,
    ⟨(some 5), .assign (.tmp 12), 3, none, []⟩])))
def s77 : SC :=
  (.seq (.reg [⟨(some 4), .assign (.const (.bool false)), 4, none, []⟩])
  (.seq (.seq (.reg [⟨(some 5), .assign (.const (.int .i64 0)), 3, none, []⟩])
  (.block 0 (.loop (some ([0, 1, 5], 0)) s77_1)))
  (.seq (.reg [⟨(some 36), .move (.tmp 0), 9, none, []⟩,
    ⟨(some 37), .call ⟨.builtin .len, #[(.tmp 36)], #[9]⟩, 3, none, []⟩,
    ⟨(some 38), .binOp .leq 3 (.tmp 37) (.const (.int .i64 39)) 3, 4, none, []⟩,
    ⟨(some 4), .assign (.tmp 38), 4, none, []⟩])
  .ret)))
theorem l77 : slimF Hs 77 Try.f77 = some (39, s77, [.tmp 4]) := by kernel_rfl

/-! 78 kerbsuite/kerbsuiteref5.put -/
def s78_0 : SC :=
  (.seq (.seq (.reg [⟨(some 15), .move (.tmp 10), 3, none, []⟩,
    ⟨(some 16), .move (.tmp 2), 3, none, []⟩,
    ⟨(some 17), .binOp .lss 3 (.tmp 15) (.tmp 16) 3, 4, none, []⟩])
  (.cond (.tmp 17)
    .skip
    (.exit 0)))
  (.seq (.block 1 (.seq (.reg [⟨(some 20), .move (.tmp 2), 3, none, []⟩,
    ⟨(some 21), .binOp .sub 3 (.tmp 20) (.const (.int .i64 1)) 3, 3, none, []⟩,
    ⟨(some 22), .move (.tmp 10), 3, none, []⟩,
    ⟨(some 23), .binOp .sub 3 (.tmp 21) (.tmp 22) 3, 3, none, []⟩,
    ⟨(some 11), .assign (.tmp 23), 3, none, []⟩])
  (.seq (.seq (.reg [⟨(some 24), .move (.tmp 3), 4, none, []⟩])
  (.cond (.tmp 24)
    (.reg [⟨(some 25), .move (.tmp 10), 3, none, []⟩,
      ⟨(some 11), .assign (.tmp 25), 3, none, []⟩])
    .skip))
  (.reg [⟨(some 26), .move (.tmp 9), 24, none, []⟩,
    ⟨(some 27), .move (.tmp 1), 3, none, []⟩,
    ⟨(some 28), .convert 3 50 (.tmp 27), 50, none, []⟩,
    ⟨(some 29), .move (.tmp 11), 3, none, []⟩,
    ⟨(some 30), .binOp .mul 3 (.const (.int .i64 8)) (.tmp 29) 3, 3, none, []⟩,
    ⟨(some 31), .convert 3 128 (.tmp 30), 128, none, []⟩,
    ⟨(some 32), .binOp .shr 50 (.tmp 28) (.tmp 31) 128, 50, none, []⟩,
    ⟨(some 33), .convert 50 5 (.tmp 32), 5, none, []⟩,
    ⟨(some 34), .buildSlice 24 1 #[(0, (.tmp 33))], 24, none, []⟩,
    ⟨(some 35), .call ⟨.builtin .append, #[(.tmp 26), (.tmp 34)], #[24, 24]⟩, 24, none, []⟩,
    ⟨(some 9), .assign (.tmp 35), 24, none, []⟩]))))
  (.reg [⟨(some 18), .move (.tmp 10), 3, none, []⟩,
    ⟨(some 19), .binOp .add 3 (.tmp 18) (.const (.int .i64 1)) 3, 3, none, []⟩,
    ⟨(some 10), .assign (.tmp 19), 3, none, []⟩])))
def s78 : SC :=
  (.seq (.reg [⟨(some 8), .assign (.const (.slice none 0 0)), 24, none, []⟩])
  (.seq (.reg [⟨(some 12), .buildSlice 24 0 #[], 24, none, []⟩,
    ⟨(some 13), .move (.tmp 0), 24, none, []⟩,
    ⟨(some 14), .call ⟨.builtin .append, #[(.tmp 12), (.tmp 13)], #[24, 24]⟩, 24, none, []⟩,
    ⟨(some 9), .assign (.tmp 14), 24, none, []⟩])
  (.seq (.seq (.reg [⟨(some 10), .assign (.const (.int .i64 0)), 3, none, []⟩])
  (.block 0 (.loop (some ([1, 2, 3, 9, 10], 0)) s78_0)))
  (.seq (.reg [⟨(some 36), .move (.tmp 9), 24, none, []⟩,
    ⟨(some 8), .assign (.tmp 36), 24, none, []⟩])
  .ret))))
theorem l78 : slimF Hs 78 Try.f78 = some (37, s78, [.tmp 8]) := by kernel_rfl

/-! 79 kerbsuite/header.Is -/
def s79 : SC :=
  (.seq (.reg [⟨(some 4), .assign (.const (.bool false)), 4, none, []⟩,
    ⟨(some 5), .assign (.const (.int .i64 0)), 34, none, []⟩])
  (.seq (.reg [⟨(some 10), .move (.tmp 0), 24, none, []⟩,
    ⟨(some 11), .call ⟨.value (.func 107), #[(.tmp 10)], #[24]⟩, 133, none, []⟩,
    ⟨(some 9), .move (.tmp 11), 133, none, []⟩,
    ⟨(some 12), .extract (.tmp 9) 0, 3, none, []⟩,
    ⟨(some 13), .extract (.tmp 9) 1, 4, none, []⟩,
    ⟨(some 14), .extract (.tmp 9) 2, 34, none, []⟩,
    ⟨(some 6), .assign (.tmp 12), 3, none, []⟩,
    ⟨(some 7), .assign (.tmp 13), 4, none, []⟩,
    ⟨(some 8), .assign (.tmp 14), 34, none, []⟩])
  (.seq (.seq (.reg [⟨(some 15), .move (.tmp 8), 34, none, []⟩,
    ⟨(some 16), .binOp .neq 34 (.tmp 15) (.const (.int .i64 0)) 34, 4, none, []⟩])
  (.cond (.tmp 16)
    (.seq (.reg [⟨(some 17), .move (.tmp 8), 34, none, []⟩,
      ⟨(some 4), .assign (.const (.bool false)), 4, none, []⟩,
      ⟨(some 5), .assign (.tmp 17), 34, none, []⟩])
    .ret)
    .skip))
  (.seq (.seq (.reg [⟨(some 18), .move (.tmp 1), 124, none, []⟩,
    ⟨(some 19), .move (.tmp 6), 3, none, []⟩,
    ⟨(some 20), .call ⟨.value (.func 108), #[(.tmp 18), (.tmp 19)], #[124, 3]⟩, 4, none, []⟩,
    ⟨(some 21), .unOp .not 4 (.tmp 20), 4, none, []⟩])
  (.cond (.tmp 21)
    (.seq (.reg [⟨(some 4), .assign (.const (.bool false)), 4, none, []⟩,
      ⟨(some 5), .assign (.const (.int .i64 40)), 34, none, []⟩])
    .ret)
    .skip))
  (.seq (.reg [⟨(some 22), .move (.tmp 7), 4, none, []⟩,
    ⟨(some 4), .assign (.tmp 22), 4, none, []⟩,
    ⟨(some 5), .assign (.const (.int .i64 0)), 34, none, []⟩])
  .ret)))))
theorem l79 : slimF Hs 79 Try.f79 = some (23, s79, [.tmp 4, .tmp 5]) := by kernel_rfl

/-! 80 kerbsuite/cursor.next[int] -/
def s80 : SC :=
  (.seq (.reg [⟨(some 4), .assign (.const (.int .i64 0)), 3, none, []⟩])
  (.seq (.reg [⟨(some 5), .assign (.const (.int .i64 0)), 3, none, []⟩])
  (.seq (.seq (.reg [⟨(some 9), .move (.tmp 0), 79, none, []⟩,
    ⟨(some 10), .nilCheck (.tmp 9), 0, none, []⟩,
    ⟨(some 11), .fieldAddr 108 (.tmp 10) 3, 0, none, []⟩,
    ⟨(some 12), .load 4 (.tmp 11), 4, none, []⟩])
  (.cond (.tmp 12)
    (.seq (.reg [⟨(some 13), .move (.tmp 5), 3, none, []⟩,
      ⟨(some 4), .assign (.tmp 13), 3, none, []⟩])
    .ret)
    .skip))
  (.seq (.reg [⟨(some 15), .move (.tmp 1), 109, none, []⟩,
    ⟨(some 16), .move (.tmp 0), 79, none, []⟩,
    ⟨(some 17), .nilCheck (.tmp 16), 0, none, []⟩,
    ⟨(some 18), .fieldAddr 108 (.tmp 17) 1, 0, none, []⟩,
    ⟨(some 19), .load 3 (.tmp 18), 3, none, []⟩,
    ⟨(some 20), .call ⟨.value (.tmp 15), #[(.tmp 19)], #[3]⟩, 105, none, []⟩,
    ⟨(some 14), .move (.tmp 20), 105, none, []⟩,
    ⟨(some 21), .extract (.tmp 14) 0, 3, none, []⟩,
    ⟨(some 22), .extract (.tmp 14) 1, 3, none, []⟩,
    ⟨(some 23), .extract (.tmp 14) 2, 34, none, []⟩,
    ⟨(some 6), .assign (.tmp 21), 3, none, []⟩,
    ⟨(some 7), .assign (.tmp 22), 3, none, []⟩,
    ⟨(some 8), .assign (.tmp 23), 34, none, []⟩])
  (.seq (.seq (.reg [⟨(some 24), .move (.tmp 8), 34, none, []⟩,
    ⟨(some 25), .binOp .neq 34 (.tmp 24) (.const (.int .i64 0)) 34, 4, none, []⟩])
  (.cond (.tmp 25)
    (.seq (.reg [⟨(some 26), .move (.tmp 0), 79, none, []⟩,
      ⟨(some 27), .nilCheck (.tmp 26), 0, none, []⟩,
      ⟨(some 28), .fieldAddr 108 (.tmp 27) 3, 0, none, []⟩,
      ⟨none, .store 4 (.tmp 28) (.const (.bool true)), 0, none, []⟩])
    (.seq (.reg [⟨(some 29), .move (.tmp 5), 3, none, []⟩,
      ⟨(some 4), .assign (.tmp 29), 3, none, []⟩])
    .ret))
    .skip))
  (.seq (.reg [⟨(some 30), .move (.tmp 0), 79, none, []⟩,
    ⟨(some 31), .move (.tmp 7), 3, none, []⟩,
    ⟨(some 32), .nilCheck (.tmp 30), 0, none, []⟩,
    ⟨(some 33), .fieldAddr 108 (.tmp 32) 1, 0, none, []⟩,
    ⟨none, .store 3 (.tmp 33) (.tmp 31), 0, none, []⟩])
  (.seq (.reg [⟨(some 34), .move (.tmp 6), 3, none, []⟩,
    ⟨(some 4), .assign (.tmp 34), 3, none, []⟩])
  .ret)))))))
theorem l80 : slimF Hs 80 Try.f80 = some (35, s80, [.tmp 4]) := by kernel_rfl

/-! 81 (*kerbsuite/cursor.Cursor).Octet$1 -/
def s81 : SC :=
  (.seq (.reg [⟨(some 3), .assign (.const (.int .i64 0)), 3, none, []⟩,
    ⟨(some 4), .assign (.const (.int .i64 0)), 3, none, []⟩,
    ⟨(some 5), .assign (.const (.int .i64 0)), 34, none, []⟩])
  (.seq (.reg [⟨(some 6), .load 79 (.tmp 1), 79, none, []⟩,
    ⟨(some 7), .nilCheck (.tmp 6), 0, none, []⟩,
    ⟨(some 8), .fieldAddr 108 (.tmp 7) 0, 0, none, []⟩,
    ⟨(some 9), .load 24 (.tmp 8), 24, none, []⟩,
    ⟨(some 10), .move (.tmp 0), 3, none, []⟩,
    ⟨(some 11), .call ⟨.value (.func 82), #[(.tmp 9), (.tmp 10)], #[24, 3]⟩, 105, none, []⟩,
    ⟨(some 12), .extract (.tmp 11) 0, 3, none, []⟩,
    ⟨(some 13), .extract (.tmp 11) 1, 3, none, []⟩,
    ⟨(some 14), .extract (.tmp 11) 2, 34, none, []⟩,
    ⟨(some 3), .assign (.tmp 12), 3, none, []⟩,
    ⟨(some 4), .assign (.tmp 13), 3, none, []⟩,
    ⟨(some 5), .assign (.tmp 14), 34, none, []⟩])
  .ret))
theorem l81 : slimF Hs 81 Try.f81 = some (15, s81, [.tmp 3, .tmp 4, .tmp 5]) := by kernel_rfl

/-! 82 kerbsuite/field.Octet -/
def s82 : SC :=
  (.seq (.reg [⟨(some 4), .assign (.const (.int .i64 0)), 3, none, []⟩,
    ⟨(some 5), .assign (.const (.int .i64 0)), 3, none, []⟩,
    ⟨(some 6), .assign (.const (.int .i64 0)), 34, none, []⟩])
  (.seq (.reg [⟨(some 7), .move (.tmp 0), 24, none, []⟩,
    ⟨(some 8), .move (.tmp 1), 3, none, []⟩,
    ⟨(some 9), .call ⟨.value (.func 109), #[(.tmp 7), (.tmp 8), (.const (.int .i64 1)), (.const (.bool false))], #[24, 3, 3, 4]⟩, 105, none, []⟩,
    ⟨(some 10), .extract (.tmp 9) 0, 3, none, []⟩,
    ⟨(some 11), .extract (.tmp 9) 1, 3, none, []⟩,
    ⟨(some 12), .extract (.tmp 9) 2, 34, none, []⟩,
    ⟨(some 4), .assign (.tmp 10), 3, none, []⟩,
    ⟨(some 5), .assign (.tmp 11), 3, none, []⟩,
    ⟨(some 6), .assign (.tmp 12), 34, none, []⟩])
  .ret))
theorem l82 : slimF Hs 82 Try.f82 = some (13, s82, [.tmp 4, .tmp 5, .tmp 6]) := by kernel_rfl

/-! 83 kerbsuite/cursor.next[string] -/
def s83 : SC :=
  (.seq (.reg [⟨(some 4), .assign (.const (.string ⟨#[]⟩)), 9, none, []⟩])
  (.seq (.reg [⟨(some 5), .assign (.const (.string ⟨#[]⟩)), 9, none, []⟩])
  (.seq (.seq (.reg [⟨(some 9), .move (.tmp 0), 79, none, []⟩,
    ⟨(some 10), .nilCheck (.tmp 9), 0, none, []⟩,
    ⟨(some 11), .fieldAddr 108 (.tmp 10) 3, 0, none, []⟩,
    ⟨(some 12), .load 4 (.tmp 11), 4, none, []⟩])
  (.cond (.tmp 12)
    (.seq (.reg [⟨(some 13), .move (.tmp 5), 9, none, []⟩,
      ⟨(some 4), .assign (.tmp 13), 9, none, []⟩])
    .ret)
    .skip))
  (.seq (.reg [⟨(some 15), .move (.tmp 1), 113, none, []⟩,
    ⟨(some 16), .move (.tmp 0), 79, none, []⟩,
    ⟨(some 17), .nilCheck (.tmp 16), 0, none, []⟩,
    ⟨(some 18), .fieldAddr 108 (.tmp 17) 1, 0, none, []⟩,
    ⟨(some 19), .load 3 (.tmp 18), 3, none, []⟩,
    ⟨(some 20), .call ⟨.value (.tmp 15), #[(.tmp 19)], #[3]⟩, 111, none, []⟩,
    ⟨(some 14), .move (.tmp 20), 111, none, []⟩,
    ⟨(some 21), .extract (.tmp 14) 0, 9, none, []⟩,
    ⟨(some 22), .extract (.tmp 14) 1, 3, none, []⟩,
    ⟨(some 23), .extract (.tmp 14) 2, 34, none, []⟩,
    ⟨(some 6), .assign (.tmp 21), 9, none, []⟩,
    ⟨(some 7), .assign (.tmp 22), 3, none, []⟩,
    ⟨(some 8), .assign (.tmp 23), 34, none, []⟩])
  (.seq (.seq (.reg [⟨(some 24), .move (.tmp 8), 34, none, []⟩,
    ⟨(some 25), .binOp .neq 34 (.tmp 24) (.const (.int .i64 0)) 34, 4, none, []⟩])
  (.cond (.tmp 25)
    (.seq (.reg [⟨(some 26), .move (.tmp 0), 79, none, []⟩,
      ⟨(some 27), .nilCheck (.tmp 26), 0, none, []⟩,
      ⟨(some 28), .fieldAddr 108 (.tmp 27) 3, 0, none, []⟩,
      ⟨none, .store 4 (.tmp 28) (.const (.bool true)), 0, none, []⟩])
    (.seq (.reg [⟨(some 29), .move (.tmp 5), 9, none, []⟩,
      ⟨(some 4), .assign (.tmp 29), 9, none, []⟩])
    .ret))
    .skip))
  (.seq (.reg [⟨(some 30), .move (.tmp 0), 79, none, []⟩,
    ⟨(some 31), .move (.tmp 7), 3, none, []⟩,
    ⟨(some 32), .nilCheck (.tmp 30), 0, none, []⟩,
    ⟨(some 33), .fieldAddr 108 (.tmp 32) 1, 0, none, []⟩,
    ⟨none, .store 3 (.tmp 33) (.tmp 31), 0, none, []⟩])
  (.seq (.reg [⟨(some 34), .move (.tmp 6), 9, none, []⟩,
    ⟨(some 4), .assign (.tmp 34), 9, none, []⟩])
  .ret)))))))
theorem l83 : slimF Hs 83 Try.f83 = some (35, s83, [.tmp 4]) := by kernel_rfl

/-! 84 (*kerbsuite/cursor.Cursor).Text$1 -/
def s84 : SC :=
  (.seq (.reg [⟨(some 3), .assign (.const (.string ⟨#[]⟩)), 9, none, []⟩,
    ⟨(some 4), .assign (.const (.int .i64 0)), 3, none, []⟩,
    ⟨(some 5), .assign (.const (.int .i64 0)), 34, none, []⟩])
  (.seq (.reg [⟨(some 6), .load 79 (.tmp 1), 79, none, []⟩,
    ⟨(some 7), .nilCheck (.tmp 6), 0, none, []⟩,
    ⟨(some 8), .fieldAddr 108 (.tmp 7) 0, 0, none, []⟩,
    ⟨(some 9), .load 24 (.tmp 8), 24, none, []⟩,
    ⟨(some 10), .move (.tmp 0), 3, none, []⟩,
    ⟨(some 11), .call ⟨.value (.func 85), #[(.tmp 9), (.tmp 10)], #[24, 3]⟩, 111, none, []⟩,
    ⟨(some 12), .extract (.tmp 11) 0, 9, none, []⟩,
    ⟨(some 13), .extract (.tmp 11) 1, 3, none, []⟩,
    ⟨(some 14), .extract (.tmp 11) 2, 34, none, []⟩,
    ⟨(some 3), .assign (.tmp 12), 9, none, []⟩,
    ⟨(some 4), .assign (.tmp 13), 3, none, []⟩,
    ⟨(some 5), .assign (.tmp 14), 34, none, []⟩])
  .ret))
theorem l84 : slimF Hs 84 Try.f84 = some (15, s84, [.tmp 3, .tmp 4, .tmp 5]) := by kernel_rfl

/-! 85 kerbsuite/field.Text -/
def s85 : SC :=
  (.seq (.reg [⟨(some 4), .assign (.const (.string ⟨#[]⟩)), 9, none, []⟩,
    ⟨(some 5), .assign (.const (.int .i64 0)), 3, none, []⟩,
    ⟨(some 6), .assign (.const (.int .i64 0)), 34, none, []⟩])
  (.seq (.seq (.reg [⟨(some 9), .move (.tmp 1), 3, none, []⟩,
    ⟨(some 10), .binOp .lss 3 (.tmp 9) (.const (.int .i64 0)) 3, 4, none, []⟩,
    ⟨(some 11), .move (.tmp 10), 4, none, []⟩,
    ⟨(some 12), .move (.tmp 1), 3, some (11, false), []⟩,
    ⟨(some 13), .move (.tmp 0), 24, some (11, false), []⟩,
    ⟨(some 14), .call ⟨.builtin .len, #[(.tmp 13)], #[24]⟩, 3, some (11, false), []⟩,
    ⟨(some 15), .binOp .gtr 3 (.tmp 12) (.tmp 14) 3, 4, some (11, false), []⟩,
    ⟨(some 16), .pick (.tmp 11) (.const (.bool true)) (.tmp 15), 4, none, []⟩])
  (.cond (.tmp 16)
    (.seq (.reg [⟨(some 4), .assign (.const (.string ⟨#[]⟩)), 9, none, []⟩,
      ⟨(some 5), .assign (.const (.int .i64 0)), 3, none, []⟩,
      ⟨(some 6), .assign (.const (.int .i64 104)), 34, none, []⟩])
    .ret)
    .skip))
  (.seq (.reg [⟨(some 17), .move (.tmp 0), 24, none, []⟩,
    ⟨(some 18), .move (.tmp 1), 3, none, []⟩,
    ⟨(some 19), .slice 24 (.tmp 17) (some (.tmp 18)) none none, 24, none, []⟩,
    ⟨(some 7), .assign (.tmp 19), 24, none, []⟩])
  (.seq (.reg [⟨(some 20), .move (.tmp 7), 24, none, []⟩,
    ⟨(some 21), .move (.tmp 7), 24, none, []⟩,
    ⟨(some 22), .call ⟨.builtin .len, #[(.tmp 21)], #[24]⟩, 3, none, []⟩,
    ⟨(some 23), .call ⟨.builtin .min, #[(.tmp 22), (.const (.int .i64 40))], #[3, 3]⟩, 3, none, []⟩,
    ⟨(some 24), .slice 24 (.tmp 20) none (some (.tmp 23)) none, 24, none, []⟩,
    ⟨(some 25), .call ⟨.value (.func 110), #[(.tmp 24), (.const (.int .u8 0))], #[24, 5]⟩, 3, none, []⟩,
    ⟨(some 8), .assign (.tmp 25), 3, none, []⟩])
  (.seq (.block 0 (.seq (.reg [⟨(some 27), .move (.tmp 8), 3, none, []⟩,
    ⟨(some 28), .binOp .geq 3 (.tmp 27) (.const (.int .i64 0)) 3, 4, none, []⟩,
    ⟨(some 26), .assign (.tmp 28), 4, none, []⟩])
  (.cond (.tmp 26)
    (.seq (.reg [⟨(some 29), .move (.tmp 7), 24, none, []⟩,
      ⟨(some 30), .move (.tmp 8), 3, none, []⟩,
      ⟨(some 31), .slice 24 (.tmp 29) none (some (.tmp 30)) none, 24, none, []⟩,
      ⟨(some 32), .convert 24 9 (.tmp 31), 9, none, []⟩,
      ⟨(some 33), .move (.tmp 1), 3, none, []⟩,
      ⟨(some 34), .move (.tmp 8), 3, none, []⟩,
      ⟨(some 35), .binOp .add 3 (.tmp 33) (.tmp 34) 3, 3, none, []⟩,
      ⟨(some 36), .binOp .add 3 (.tmp 35) (.const (.int .i64 1)) 3, 3, none, []⟩,
      ⟨(some 4), .assign (.tmp 32), 9, none, []⟩,
      ⟨(some 5), .assign (.tmp 36), 3, none, []⟩,
      ⟨(some 6), .assign (.const (.int .i64 0)), 34, none, []⟩])
    .ret)
    (.seq (.reg [⟨(some 38), .move (.tmp 7), 24, none, []⟩,
      ⟨(some 39), .call ⟨.builtin .len, #[(.tmp 38)], #[24]⟩, 3, none, []⟩,
      ⟨(some 40), .binOp .gtr 3 (.tmp 39) (.const (.int .i64 39)) 3, 4, none, []⟩,
      ⟨(some 37), .assign (.tmp 40), 4, none, []⟩])
    (.cond (.tmp 37)
      (.seq (.reg [⟨(some 4), .assign (.const (.string ⟨#[]⟩)), 9, none, []⟩,
        ⟨(some 5), .assign (.const (.int .i64 0)), 3, none, []⟩,
        ⟨(some 6), .assign (.const (.int .i64 105)), 34, none, []⟩])
      .ret)
      .skip)))))
  (.seq (.reg [⟨(some 4), .assign (.const (.string ⟨#[]⟩)), 9, none, []⟩,
    ⟨(some 5), .assign (.const (.int .i64 0)), 3, none, []⟩,
    ⟨(some 6), .assign (.const (.int .i64 101)), 34, none, []⟩])
  .ret))))))
theorem l85 : slimF Hs 85 Try.f85 = some (41, s85, [.tmp 4, .tmp 5, .tmp 6]) := by kernel_rfl

/-! 86 kerbsuite/cursor.next[[]byte] -/
def s86 : SC :=
  (.seq (.reg [⟨(some 4), .assign (.const (.slice none 0 0)), 24, none, []⟩])
  (.seq (.reg [⟨(some 5), .assign (.const (.slice none 0 0)), 24, none, []⟩])
  (.seq (.seq (.reg [⟨(some 9), .move (.tmp 0), 79, none, []⟩,
    ⟨(some 10), .nilCheck (.tmp 9), 0, none, []⟩,
    ⟨(some 11), .fieldAddr 108 (.tmp 10) 3, 0, none, []⟩,
    ⟨(some 12), .load 4 (.tmp 11), 4, none, []⟩])
  (.cond (.tmp 12)
    (.seq (.reg [⟨(some 13), .move (.tmp 5), 24, none, []⟩,
      ⟨(some 4), .assign (.tmp 13), 24, none, []⟩])
    .ret)
    .skip))
  (.seq (.reg [⟨(some 15), .move (.tmp 1), 117, none, []⟩,
    ⟨(some 16), .move (.tmp 0), 79, none, []⟩,
    ⟨(some 17), .nilCheck (.tmp 16), 0, none, []⟩,
    ⟨(some 18), .fieldAddr 108 (.tmp 17) 1, 0, none, []⟩,
    ⟨(some 19), .load 3 (.tmp 18), 3, none, []⟩,
    ⟨(some 20), .call ⟨.value (.tmp 15), #[(.tmp 19)], #[3]⟩, 115, none, []⟩,
    ⟨(some 14), .move (.tmp 20), 115, none, []⟩,
    ⟨(some 21), .extract (.tmp 14) 0, 24, none, []⟩,
    ⟨(some 22), .extract (.tmp 14) 1, 3, none, []⟩,
    ⟨(some 23), .extract (.tmp 14) 2, 34, none, []⟩,
    ⟨(some 6), .assign (.tmp 21), 24, none, []⟩,
    ⟨(some 7), .assign (.tmp 22), 3, none, []⟩,
    ⟨(some 8), .assign (.tmp 23), 34, none, []⟩])
  (.seq (.seq (.reg [⟨(some 24), .move (.tmp 8), 34, none, []⟩,
    ⟨(some 25), .binOp .neq 34 (.tmp 24) (.const (.int .i64 0)) 34, 4, none, []⟩])
  (.cond (.tmp 25)
    (.seq (.reg [⟨(some 26), .move (.tmp 0), 79, none, []⟩,
      ⟨(some 27), .nilCheck (.tmp 26), 0, none, []⟩,
      ⟨(some 28), .fieldAddr 108 (.tmp 27) 3, 0, none, []⟩,
      ⟨none, .store 4 (.tmp 28) (.const (.bool true)), 0, none, []⟩])
    (.seq (.reg [⟨(some 29), .move (.tmp 5), 24, none, []⟩,
      ⟨(some 4), .assign (.tmp 29), 24, none, []⟩])
    .ret))
    .skip))
  (.seq (.reg [⟨(some 30), .move (.tmp 0), 79, none, []⟩,
    ⟨(some 31), .move (.tmp 7), 3, none, []⟩,
    ⟨(some 32), .nilCheck (.tmp 30), 0, none, []⟩,
    ⟨(some 33), .fieldAddr 108 (.tmp 32) 1, 0, none, []⟩,
    ⟨none, .store 3 (.tmp 33) (.tmp 31), 0, none, []⟩])
  (.seq (.reg [⟨(some 34), .move (.tmp 6), 24, none, []⟩,
    ⟨(some 4), .assign (.tmp 34), 24, none, []⟩])
  .ret)))))))
theorem l86 : slimF Hs 86 Try.f86 = some (35, s86, [.tmp 4]) := by kernel_rfl

/-! 87 (*kerbsuite/cursor.Cursor).Bytes$1 -/
def s87 : SC :=
  (.seq (.reg [⟨(some 4), .assign (.const (.slice none 0 0)), 24, none, []⟩,
    ⟨(some 5), .assign (.const (.int .i64 0)), 3, none, []⟩,
    ⟨(some 6), .assign (.const (.int .i64 0)), 34, none, []⟩])
  (.seq (.drw [(⟨(some 7), .load 79 (.tmp 1), 79, none, []⟩, []),
    (⟨(some 8), .nilCheck (.tmp 7), 0, none, []⟩, []),
    (⟨(some 9), .fieldAddr 108 (.tmp 8) 0, 0, none, []⟩, []),
    (⟨(some 10), .load 24 (.tmp 9), 24, none, []⟩, []),
    (⟨(some 11), .move (.tmp 0), 3, none, []⟩, [0, 3]),
    (⟨(some 12), .load 3 (.tmp 2), 3, none, []⟩, [0, 1, 2, 3, 4]),
    (⟨(some 13), .call ⟨.value (.func 88), #[(.tmp 10), (.tmp 11), (.tmp 12)], #[24, 3, 3]⟩, 115, none, []⟩, []),
    (⟨(some 14), .extract (.tmp 13) 0, 24, none, []⟩, []),
    (⟨(some 15), .extract (.tmp 13) 1, 3, none, []⟩, []),
    (⟨(some 16), .extract (.tmp 13) 2, 34, none, []⟩, []),
    (⟨(some 4), .assign (.tmp 14), 24, none, []⟩, []),
    (⟨(some 5), .assign (.tmp 15), 3, none, []⟩, []),
    (⟨(some 6), .assign (.tmp 16), 34, none, []⟩, [])])
  .ret))
theorem l87 : slimF Hs 87 Try.f87 = some (17, s87, [.tmp 4, .tmp 5, .tmp 6]) := by kernel_rfl

/-! 88 kerbsuite/field.Bytes -/
def s88 : SC :=
  (.seq (.reg [⟨(some 6), .assign (.const (.slice none 0 0)), 24, none, []⟩,
    ⟨(some 7), .assign (.const (.int .i64 0)), 3, none, []⟩,
    ⟨(some 8), .assign (.const (.int .i64 0)), 34, none, []⟩])
  (.seq (.reg [⟨(some 13), .move (.tmp 0), 24, none, []⟩,
    ⟨(some 14), .move (.tmp 1), 3, none, []⟩,
    ⟨(some 15), .move (.tmp 2), 3, none, []⟩,
    ⟨(some 16), .call ⟨.value (.func 111), #[(.tmp 13), (.tmp 14), (.tmp 15)], #[24, 3, 3]⟩, 115, none, []⟩,
    ⟨(some 12), .move (.tmp 16), 115, none, []⟩,
    ⟨(some 17), .extract (.tmp 12) 0, 24, none, []⟩,
    ⟨(some 18), .extract (.tmp 12) 1, 3, none, []⟩,
    ⟨(some 19), .extract (.tmp 12) 2, 34, none, []⟩,
    ⟨(some 9), .assign (.tmp 17), 24, none, []⟩,
    ⟨(some 10), .assign (.tmp 18), 3, none, []⟩,
    ⟨(some 11), .assign (.tmp 19), 34, none, []⟩])
  (.seq (.reg [⟨(some 20), .move (.tmp 9), 24, none, []⟩,
    ⟨(some 21), .call ⟨.value (.func 105), #[(.tmp 20)], #[24]⟩, 24, none, []⟩,
    ⟨(some 22), .move (.tmp 10), 3, none, []⟩,
    ⟨(some 23), .move (.tmp 11), 34, none, []⟩,
    ⟨(some 6), .assign (.tmp 21), 24, none, []⟩,
    ⟨(some 7), .assign (.tmp 22), 3, none, []⟩,
    ⟨(some 8), .assign (.tmp 23), 34, none, []⟩])
  .ret)))
theorem l88 : slimF Hs 88 Try.f88 = some (24, s88, [.tmp 6, .tmp 7, .tmp 8]) := by kernel_rfl

/-! 89 kerbsuite/cursor.next[kerbsuite/api.Principal] -/
def s89 : SC :=
  (.seq (.reg [⟨(some 4), .alloc 23, 0, none, []⟩])
  (.seq (.reg [⟨(some 5), .alloc 23, 0, none, []⟩])
  (.seq (.seq (.reg [⟨(some 9), .move (.tmp 0), 79, none, []⟩,
    ⟨(some 10), .nilCheck (.tmp 9), 0, none, []⟩,
    ⟨(some 11), .fieldAddr 108 (.tmp 10) 3, 0, none, []⟩,
    ⟨(some 12), .load 4 (.tmp 11), 4, none, []⟩])
  (.cond (.tmp 12)
    (.seq (.reg [⟨(some 13), .load 23 (.tmp 5), 23, none, []⟩,
      ⟨none, .store 23 (.tmp 4) (.tmp 13), 0, none, []⟩])
    .ret)
    .skip))
  (.seq (.reg [⟨(some 15), .move (.tmp 1), 121, none, []⟩,
    ⟨(some 16), .move (.tmp 0), 79, none, []⟩,
    ⟨(some 17), .nilCheck (.tmp 16), 0, none, []⟩,
    ⟨(some 18), .fieldAddr 108 (.tmp 17) 1, 0, none, []⟩,
    ⟨(some 19), .load 3 (.tmp 18), 3, none, []⟩,
    ⟨(some 20), .call ⟨.value (.tmp 15), #[(.tmp 19)], #[3]⟩, 119, none, []⟩,
    ⟨(some 14), .move (.tmp 20), 119, none, []⟩,
    ⟨(some 21), .extract (.tmp 14) 0, 23, none, []⟩,
    ⟨(some 22), .extract (.tmp 14) 1, 3, none, []⟩,
    ⟨(some 23), .extract (.tmp 14) 2, 34, none, []⟩,
    ⟨(some 6), .alloc 23, 0, none, []⟩,
    ⟨none, .store 23 (.tmp 6) (.tmp 21), 0, none, []⟩,
    ⟨(some 7), .assign (.tmp 22), 3, none, []⟩,
    ⟨(some 8), .assign (.tmp 23), 34, none, []⟩])
  (.seq (.seq (.reg [⟨(some 24), .move (.tmp 8), 34, none, []⟩,
    ⟨(some 25), .binOp .neq 34 (.tmp 24) (.const (.int .i64 0)) 34, 4, none, []⟩])
  (.cond (.tmp 25)
    (.seq (.reg [⟨(some 26), .move (.tmp 0), 79, none, []⟩,
      ⟨(some 27), .nilCheck (.tmp 26), 0, none, []⟩,
      ⟨(some 28), .fieldAddr 108 (.tmp 27) 3, 0, none, []⟩,
      ⟨none, .store 4 (.tmp 28) (.const (.bool true)), 0, none, []⟩])
    (.seq (.reg [⟨(some 29), .load 23 (.tmp 5), 23, none, []⟩,
      ⟨none, .store 23 (.tmp 4) (.tmp 29), 0, none, []⟩])
    .ret))
    .skip))
  (.seq (.reg [⟨(some 30), .move (.tmp 0), 79, none, []⟩,
    ⟨(some 31), .move (.tmp 7), 3, none, []⟩,
    ⟨(some 32), .nilCheck (.tmp 30), 0, none, []⟩,
    ⟨(some 33), .fieldAddr 108 (.tmp 32) 1, 0, none, []⟩,
    ⟨none, .store 3 (.tmp 33) (.tmp 31), 0, none, []⟩])
  (.seq (.reg [⟨(some 34), .load 23 (.tmp 6), 23, none, []⟩,
    ⟨none, .store 23 (.tmp 4) (.tmp 34), 0, none, []⟩])
  .ret)))))))
theorem l89 : slimF Hs 89 Try.f89 = some (35, s89, [.cell 4 23]) := by kernel_rfl

/-! 90 (*kerbsuite/cursor.Cursor).Principal$1 -/
def s90 : SC :=
  (.seq (.reg [⟨(some 3), .alloc 23, 0, none, []⟩,
    ⟨(some 4), .assign (.const (.int .i64 0)), 3, none, []⟩,
    ⟨(some 5), .assign (.const (.int .i64 0)), 34, none, []⟩])
  (.seq (.reg [⟨(some 6), .load 79 (.tmp 1), 79, none, []⟩,
    ⟨(some 7), .nilCheck (.tmp 6), 0, none, []⟩,
    ⟨(some 8), .fieldAddr 108 (.tmp 7) 0, 0, none, []⟩,
    ⟨(some 9), .load 24 (.tmp 8), 24, none, []⟩,
    ⟨(some 10), .move (.tmp 0), 3, none, []⟩,
    ⟨(some 11), .call ⟨.value (.func 91), #[(.tmp 9), (.tmp 10)], #[24, 3]⟩, 119, none, []⟩,
    ⟨(some 12), .extract (.tmp 11) 0, 23, none, []⟩,
    ⟨(some 13), .extract (.tmp 11) 1, 3, none, []⟩,
    ⟨(some 14), .extract (.tmp 11) 2, 34, none, []⟩,
    ⟨none, .store 23 (.tmp 3) (.tmp 12), 0, none, []⟩,
    ⟨(some 4), .assign (.tmp 13), 3, none, []⟩,
    ⟨(some 5), .assign (.tmp 14), 34, none, []⟩])
  .ret))
theorem l90 : slimF Hs 90 Try.f90 = some (15, s90, [.cell 3 23, .tmp 4, .tmp 5]) := by kernel_rfl

/-! 91 kerbsuite/field.Principal -/
def s91_0 : SC :=
  (.seq (.reg [⟨(some 14), .binOp .lss 3 (.tmp 13) (.const (.int .i64 3)) 3, 0, none, []⟩])
  (.seq (.cond (.tmp 14)
    .skip
    (.exit 0))
  (.seq (.block 1 (.seq (.reg [⟨(some 15), .move (.tmp 13), 3, none, []⟩,
    ⟨(some 8), .assign (.tmp 15), 3, none, []⟩])
  (.seq (.reg [⟨(some 17), .move (.tmp 0), 24, none, []⟩,
    ⟨(some 18), .move (.tmp 1), 3, none, []⟩,
    ⟨(some 19), .call ⟨.value (.func 85), #[(.tmp 17), (.tmp 18)], #[24, 3]⟩, 111, none, []⟩,
    ⟨(some 16), .move (.tmp 19), 111, none, []⟩,
    ⟨(some 20), .extract (.tmp 16) 0, 9, none, []⟩,
    ⟨(some 21), .extract (.tmp 16) 1, 3, none, []⟩,
    ⟨(some 22), .extract (.tmp 16) 2, 34, none, []⟩,
    ⟨(some 9), .assign (.tmp 20), 9, none, []⟩,
    ⟨(some 10), .assign (.tmp 21), 3, none, []⟩,
    ⟨(some 11), .assign (.tmp 22), 34, none, []⟩])
  (.seq (.seq (.reg [⟨(some 23), .move (.tmp 11), 34, none, []⟩,
    ⟨(some 24), .binOp .neq 34 (.tmp 23) (.const (.int .i64 0)) 34, 4, none, []⟩])
  (.cond (.tmp 24)
    (.seq (.reg [⟨(some 25), .build 23 #[], 23, none, []⟩,
      ⟨(some 26), .move (.tmp 11), 34, none, []⟩,
      ⟨none, .store 23 (.tmp 4) (.tmp 25), 0, none, []⟩,
      ⟨(some 5), .assign (.const (.int .i64 0)), 3, none, []⟩,
      ⟨(some 6), .assign (.tmp 26), 34, none, []⟩])
    .ret)
    .skip))
  (.reg [⟨(some 27), .move (.tmp 8), 3, none, []⟩,
    ⟨(some 28), .move (.tmp 9), 9, none, []⟩,
    ⟨(some 29), .move (.tmp 10), 3, none, []⟩,
    ⟨(some 30), .indexAddr 138 (.tmp 7) (.tmp 27), 0, none, []⟩,
    ⟨none, .store 9 (.tmp 30) (.tmp 28), 0, none, []⟩,
    ⟨(some 1), .assign (.tmp 29), 3, none, []⟩])))))
  (.reg [⟨(some 31), .binOp .add 3 (.tmp 13) (.const (.int .i64 1)) 3, 3, none, []⟩,
    ⟨(some 13), .move (.tmp 31), 3, none, []⟩]))))
def s91 : SC :=
  (.seq (.reg [⟨(some 4), .alloc 23, 0, none, []⟩,
    ⟨(some 5), .assign (.const (.int .i64 0)), 3, none, []⟩,
    ⟨(some 6), .assign (.const (.int .i64 0)), 34, none, []⟩])
  (.seq (.reg [⟨(some 7), .alloc 138, 0, none, []⟩])
  (.seq (.seq (.reg [⟨(some 13), .move (.const (.int .i64 0)), 3, none, []⟩])
  (.block 0 (.loop (some ([0, 1, 4, 7, 13], 0)) s91_0)))
  (.seq (.reg [⟨(some 32), .indexAddr 138 (.tmp 7) (.const (.int .i64 0)), 0, none, []⟩,
    ⟨(some 33), .load 9 (.tmp 32), 9, none, []⟩,
    ⟨(some 34), .indexAddr 138 (.tmp 7) (.const (.int .i64 1)), 0, none, []⟩,
    ⟨(some 35), .load 9 (.tmp 34), 9, none, []⟩,
    ⟨(some 36), .indexAddr 138 (.tmp 7) (.const (.int .i64 2)), 0, none, []⟩,
    ⟨(some 37), .load 9 (.tmp 36), 9, none, []⟩,
    ⟨(some 38), .build 23 #[(0, (.tmp 33)), (1, (.tmp 35)), (2, (.tmp 37))], 23, none, []⟩,
    ⟨(some 12), .alloc 23, 0, none, []⟩,
    ⟨none, .store 23 (.tmp 12) (.tmp 38), 0, none, []⟩])
  (.seq (.seq (.reg [⟨(some 39), .load 23 (.tmp 12), 23, none, []⟩,
    ⟨(some 40), .call ⟨.value (.func 57), #[(.tmp 39)], #[23]⟩, 4, none, []⟩,
    ⟨(some 41), .unOp .not 4 (.tmp 40), 4, none, []⟩])
  (.cond (.tmp 41)
    (.seq (.reg [⟨(some 42), .build 23 #[], 23, none, []⟩,
      ⟨none, .store 23 (.tmp 4) (.tmp 42), 0, none, []⟩,
      ⟨(some 5), .assign (.const (.int .i64 0)), 3, none, []⟩,
      ⟨(some 6), .assign (.const (.int .i64 103)), 34, none, []⟩])
    .ret)
    .skip))
  (.seq (.reg [⟨(some 43), .load 23 (.tmp 12), 23, none, []⟩,
    ⟨(some 44), .move (.tmp 1), 3, none, []⟩,
    ⟨none, .store 23 (.tmp 4) (.tmp 43), 0, none, []⟩,
    ⟨(some 5), .assign (.tmp 44), 3, none, []⟩,
    ⟨(some 6), .assign (.const (.int .i64 0)), 34, none, []⟩])
  .ret))))))
theorem l91 : slimF Hs 91 Try.f91 = some (45, s91, [.cell 4 23, .tmp 5, .tmp 6]) := by kernel_rfl

/-! 92 (*kerbsuite/cursor.Cursor).Short$1 -/
def s92 : SC :=
  (.seq (.reg [⟨(some 3), .assign (.const (.int .i64 0)), 3, none, []⟩,
    ⟨(some 4), .assign (.const (.int .i64 0)), 3, none, []⟩,
    ⟨(some 5), .assign (.const (.int .i64 0)), 34, none, []⟩])
  (.seq (.drw [(⟨(some 6), .load 79 (.tmp 1), 79, none, []⟩, []),
    (⟨(some 7), .nilCheck (.tmp 6), 0, none, []⟩, []),
    (⟨(some 8), .fieldAddr 108 (.tmp 7) 0, 0, none, []⟩, []),
    (⟨(some 9), .load 24 (.tmp 8), 24, none, []⟩, []),
    (⟨(some 10), .move (.tmp 0), 3, none, []⟩, [0, 3]),
    (⟨(some 11), .load 79 (.tmp 1), 79, none, []⟩, [0, 1, 2, 3, 4]),
    (⟨(some 12), .nilCheck (.tmp 11), 0, none, []⟩, [0, 3]),
    (⟨(some 13), .fieldAddr 108 (.tmp 12) 2, 0, none, []⟩, [0, 3]),
    (⟨(some 14), .load 4 (.tmp 13), 4, none, []⟩, [0, 1, 2, 3, 4]),
    (⟨(some 15), .call ⟨.value (.func 93), #[(.tmp 9), (.tmp 10), (.tmp 14)], #[24, 3, 4]⟩, 105, none, []⟩, []),
    (⟨(some 16), .extract (.tmp 15) 0, 3, none, []⟩, []),
    (⟨(some 17), .extract (.tmp 15) 1, 3, none, []⟩, []),
    (⟨(some 18), .extract (.tmp 15) 2, 34, none, []⟩, []),
    (⟨(some 3), .assign (.tmp 16), 3, none, []⟩, []),
    (⟨(some 4), .assign (.tmp 17), 3, none, []⟩, []),
    (⟨(some 5), .assign (.tmp 18), 34, none, []⟩, [])])
  .ret))
theorem l92 : slimF Hs 92 Try.f92 = some (19, s92, [.tmp 3, .tmp 4, .tmp 5]) := by kernel_rfl

/-! 93 kerbsuite/field.Short -/
def s93 : SC :=
  (.seq (.reg [⟨(some 6), .assign (.const (.int .i64 0)), 3, none, []⟩,
    ⟨(some 7), .assign (.const (.int .i64 0)), 3, none, []⟩,
    ⟨(some 8), .assign (.const (.int .i64 0)), 34, none, []⟩])
  (.seq (.reg [⟨(some 9), .move (.tmp 0), 24, none, []⟩,
    ⟨(some 10), .move (.tmp 1), 3, none, []⟩,
    ⟨(some 11), .move (.tmp 2), 4, none, []⟩,
    ⟨(some 12), .call ⟨.value (.func 109), #[(.tmp 9), (.tmp 10), (.const (.int .i64 2)), (.tmp 11)], #[24, 3, 3, 4]⟩, 105, none, []⟩,
    ⟨(some 13), .extract (.tmp 12) 0, 3, none, []⟩,
    ⟨(some 14), .extract (.tmp 12) 1, 3, none, []⟩,
    ⟨(some 15), .extract (.tmp 12) 2, 34, none, []⟩,
    ⟨(some 6), .assign (.tmp 13), 3, none, []⟩,
    ⟨(some 7), .assign (.tmp 14), 3, none, []⟩,
    ⟨(some 8), .assign (.tmp 15), 34, none, []⟩])
  .ret))
theorem l93 : slimF Hs 93 Try.f93 = some (16, s93, [.tmp 6, .tmp 7, .tmp 8]) := by kernel_rfl

/-! 94 (*kerbsuite/cursor.Cursor).Bad -/
def s94 : SC :=
  (.seq (.reg [⟨(some 2), .assign (.const (.bool false)), 4, none, []⟩])
  (.seq (.reg [⟨(some 3), .move (.tmp 0), 79, none, []⟩,
    ⟨(some 4), .nilCheck (.tmp 3), 0, none, []⟩,
    ⟨(some 5), .fieldAddr 108 (.tmp 4) 3, 0, none, []⟩,
    ⟨(some 6), .load 4 (.tmp 5), 4, none, []⟩,
    ⟨(some 2), .assign (.tmp 6), 4, none, []⟩])
  .ret))
theorem l94 : slimF Hs 94 Try.f94 = some (7, s94, [.tmp 2]) := by kernel_rfl

/-! 95 bytes.Equal -/
def s95 : SC :=
  (.seq (.reg [⟨(some 4), .assign (.const (.bool false)), 4, none, []⟩])
  (.seq (.reg [⟨(some 5), .move (.tmp 0), 24, none, []⟩,
    ⟨(some 6), .convert 24 9 (.tmp 5), 9, none, []⟩,
    ⟨(some 7), .move (.tmp 1), 24, none, []⟩,
    ⟨(some 8), .convert 24 9 (.tmp 7), 9, none, []⟩,
    ⟨(some 9), .binOp .eql 9 (.tmp 6) (.tmp 8) 9, 4, none, []⟩,
    ⟨(some 4), .assign (.tmp 9), 4, none, []⟩])
  .ret))
theorem l95 : slimF Hs 95 Try.f95 = some (10, s95, [.tmp 4]) := by kernel_rfl

/-! 96 slices.ContainsFunc[[]int,int] -/
def s96 : SC :=
  (.seq (.reg [⟨(some 4), .assign (.const (.bool false)), 4, none, []⟩])
  (.seq (.reg [⟨(some 5), .move (.tmp 0), 124, none, []⟩,
    ⟨(some 6), .move (.tmp 1), 76, none, []⟩,
    ⟨(some 7), .call ⟨.value (.func 112), #[(.tmp 5), (.tmp 6)], #[124, 76]⟩, 3, none, []⟩,
    ⟨(some 8), .binOp .geq 3 (.tmp 7) (.const (.int .i64 0)) 3, 4, none, []⟩,
    ⟨(some 4), .assign (.tmp 8), 4, none, []⟩])
  .ret))
theorem l96 : slimF Hs 96 Try.f96 = some (9, s96, [.tmp 4]) := by kernel_rfl

/-! 97 kerbsuite/kamessage.outside$1 -/
def s97 : SC :=
  (.seq (.reg [⟨(some 3), .assign (.const (.bool false)), 4, none, []⟩])
  (.seq (.reg [⟨(some 4), .move (.tmp 0), 3, none, []⟩,
    ⟨(some 5), .binOp .lss 3 (.tmp 4) (.const (.int .i64 0)) 3, 4, none, []⟩,
    ⟨(some 6), .move (.tmp 5), 4, none, []⟩,
    ⟨(some 7), .move (.tmp 0), 3, some (6, false), []⟩,
    ⟨(some 8), .load 3 (.tmp 1), 3, some (6, false), []⟩,
    ⟨(some 9), .binOp .gtr 3 (.tmp 7) (.tmp 8) 3, 4, some (6, false), []⟩,
    ⟨(some 10), .pick (.tmp 6) (.const (.bool true)) (.tmp 9), 4, none, []⟩,
    ⟨(some 3), .assign (.tmp 10), 4, none, []⟩])
  .ret))
theorem l97 : slimF Hs 97 Try.f97 = some (11, s97, [.tmp 3]) := by kernel_rfl

/-! 98 kerbsuite/key.Class -/
def s98 : SC :=
  (.seq (.reg [⟨(some 2), .assign (.const (.int .i64 0)), 3, none, []⟩])
  (.seq (.reg [⟨(some 6), .move (.tmp 0), 51, none, []⟩,
    ⟨(some 7), .call ⟨.value (.func 113), #[(.tmp 6)], #[51]⟩, 140, none, []⟩,
    ⟨(some 5), .move (.tmp 7), 140, none, []⟩,
    ⟨(some 8), .extract (.tmp 5) 0, 3, none, []⟩,
    ⟨(some 9), .extract (.tmp 5) 1, 3, none, []⟩,
    ⟨(some 3), .assign (.tmp 8), 3, none, []⟩,
    ⟨(some 4), .assign (.tmp 9), 3, none, []⟩])
  (.seq (.reg [⟨(some 10), .move (.tmp 3), 3, none, []⟩,
    ⟨(some 2), .assign (.tmp 10), 3, none, []⟩])
  .ret)))
theorem l98 : slimF Hs 98 Try.f98 = some (11, s98, [.tmp 2]) := by kernel_rfl

/-! 99 kerbsuite/kerbsuiteref3.Make -/
def s99 : SC :=
  (.seq (.reg [⟨(some 4), .assign (.const (.int .u64 0)), 51, none, []⟩])
  (.seq (.seq (.reg [⟨(some 5), .move (.tmp 0), 3, none, []⟩,
    ⟨(some 6), .binOp .neq 3 (.tmp 5) (.const (.int .i64 1)) 3, 4, none, []⟩,
    ⟨(some 7), .move (.tmp 6), 4, none, []⟩,
    ⟨(some 8), .move (.tmp 0), 3, some (7, true), []⟩,
    ⟨(some 9), .binOp .neq 3 (.tmp 8) (.const (.int .i64 2)) 3, 4, some (7, true), []⟩,
    ⟨(some 10), .pick (.tmp 7) (.tmp 9) (.const (.bool false)), 4, none, []⟩,
    ⟨(some 11), .move (.tmp 10), 4, none, []⟩,
    ⟨(some 12), .move (.tmp 1), 3, some (11, false), []⟩,
    ⟨(some 13), .binOp .lss 3 (.tmp 12) (.const (.int .i64 1)) 3, 4, some (11, false), []⟩,
    ⟨(some 14), .pick (.tmp 11) (.const (.bool true)) (.tmp 13), 4, none, []⟩,
    ⟨(some 15), .move (.tmp 14), 4, none, []⟩,
    ⟨(some 16), .move (.tmp 1), 3, some (15, false), []⟩,
    ⟨(some 17), .binOp .gtr 3 (.tmp 16) (.const (.int .i64 4294967295)) 3, 4, some (15, false), []⟩,
    ⟨(some 18), .pick (.tmp 15) (.const (.bool true)) (.tmp 17), 4, none, []⟩])
  (.cond (.tmp 18)
    (.seq (.reg [⟨(some 4), .assign (.const (.int .u64 0)), 51, none, []⟩])
    .ret)
    .skip))
  (.seq (.reg [⟨(some 19), .move (.tmp 0), 3, none, []⟩,
    ⟨(some 20), .convert 3 51 (.tmp 19), 51, none, []⟩,
    ⟨(some 21), .binOp .shl 51 (.tmp 20) (.const (.int .u64 56)) 128, 51, none, []⟩,
    ⟨(some 22), .move (.tmp 1), 3, none, []⟩,
    ⟨(some 23), .convert 3 51 (.tmp 22), 51, none, []⟩,
    ⟨(some 24), .binOp .or 51 (.tmp 21) (.tmp 23) 51, 51, none, []⟩,
    ⟨(some 4), .assign (.tmp 24), 51, none, []⟩])
  .ret)))
theorem l99 : slimF Hs 99 Try.f99 = some (25, s99, [.tmp 4]) := by kernel_rfl

/-! 100 (*kerbsuite/cursor.Cursor).Number$1 -/
def s100 : SC :=
  (.seq (.reg [⟨(some 3), .assign (.const (.int .i64 0)), 3, none, []⟩,
    ⟨(some 4), .assign (.const (.int .i64 0)), 3, none, []⟩,
    ⟨(some 5), .assign (.const (.int .i64 0)), 34, none, []⟩])
  (.seq (.drw [(⟨(some 6), .load 79 (.tmp 1), 79, none, []⟩, []),
    (⟨(some 7), .nilCheck (.tmp 6), 0, none, []⟩, []),
    (⟨(some 8), .fieldAddr 108 (.tmp 7) 0, 0, none, []⟩, []),
    (⟨(some 9), .load 24 (.tmp 8), 24, none, []⟩, []),
    (⟨(some 10), .move (.tmp 0), 3, none, []⟩, [0, 3]),
    (⟨(some 11), .load 79 (.tmp 1), 79, none, []⟩, [0, 1, 2, 3, 4]),
    (⟨(some 12), .nilCheck (.tmp 11), 0, none, []⟩, [0, 3]),
    (⟨(some 13), .fieldAddr 108 (.tmp 12) 2, 0, none, []⟩, [0, 3]),
    (⟨(some 14), .load 4 (.tmp 13), 4, none, []⟩, [0, 1, 2, 3, 4]),
    (⟨(some 15), .call ⟨.value (.func 101), #[(.tmp 9), (.tmp 10), (.tmp 14)], #[24, 3, 4]⟩, 105, none, []⟩, []),
    (⟨(some 16), .extract (.tmp 15) 0, 3, none, []⟩, []),
    (⟨(some 17), .extract (.tmp 15) 1, 3, none, []⟩, []),
    (⟨(some 18), .extract (.tmp 15) 2, 34, none, []⟩, []),
    (⟨(some 3), .assign (.tmp 16), 3, none, []⟩, []),
    (⟨(some 4), .assign (.tmp 17), 3, none, []⟩, []),
    (⟨(some 5), .assign (.tmp 18), 34, none, []⟩, [])])
  .ret))
theorem l100 : slimF Hs 100 Try.f100 = some (19, s100, [.tmp 3, .tmp 4, .tmp 5]) := by kernel_rfl

/-! 101 kerbsuite/field.Number -/
def s101 : SC :=
  (.seq (.reg [⟨(some 6), .assign (.const (.int .i64 0)), 3, none, []⟩,
    ⟨(some 7), .assign (.const (.int .i64 0)), 3, none, []⟩,
    ⟨(some 8), .assign (.const (.int .i64 0)), 34, none, []⟩])
  (.seq (.reg [⟨(some 9), .move (.tmp 0), 24, none, []⟩,
    ⟨(some 10), .move (.tmp 1), 3, none, []⟩,
    ⟨(some 11), .move (.tmp 2), 4, none, []⟩,
    ⟨(some 12), .call ⟨.value (.func 109), #[(.tmp 9), (.tmp 10), (.const (.int .i64 4)), (.tmp 11)], #[24, 3, 3, 4]⟩, 105, none, []⟩,
    ⟨(some 13), .extract (.tmp 12) 0, 3, none, []⟩,
    ⟨(some 14), .extract (.tmp 12) 1, 3, none, []⟩,
    ⟨(some 15), .extract (.tmp 12) 2, 34, none, []⟩,
    ⟨(some 6), .assign (.tmp 13), 3, none, []⟩,
    ⟨(some 7), .assign (.tmp 14), 3, none, []⟩,
    ⟨(some 8), .assign (.tmp 15), 34, none, []⟩])
  .ret))
theorem l101 : slimF Hs 101 Try.f101 = some (16, s101, [.tmp 6, .tmp 7, .tmp 8]) := by kernel_rfl

/-! 102 kerbsuite/key.Read -/
def s102_0 : SC :=
  (.seq (.reg [⟨(some 13), .binOp .lss 3 (.tmp 12) (.tmp 11) 3, 0, none, []⟩])
  (.seq (.cond (.tmp 13)
    .skip
    (.exit 0))
  (.seq (.block 1 (.seq (.reg [⟨(some 14), .indexAddr 24 (.tmp 10) (.tmp 12), 0, none, []⟩,
    ⟨(some 15), .load 5 (.tmp 14), 5, none, []⟩,
    ⟨(some 6), .assign (.tmp 15), 5, none, []⟩])
  (.reg [⟨(some 16), .move (.tmp 4), 51, none, []⟩,
    ⟨(some 17), .binOp .shl 51 (.tmp 16) (.const (.int .u64 8)) 128, 51, none, []⟩,
    ⟨(some 18), .move (.tmp 6), 5, none, []⟩,
    ⟨(some 19), .convert 5 51 (.tmp 18), 51, none, []⟩,
    ⟨(some 20), .binOp .or 51 (.tmp 17) (.tmp 19) 51, 51, none, []⟩,
    ⟨(some 4), .assign (.tmp 20), 51, none, []⟩])))
  (.reg [⟨(some 21), .binOp .add 3 (.tmp 12) (.const (.int .i64 1)) 3, 3, none, []⟩,
    ⟨(some 12), .move (.tmp 21), 3, none, []⟩]))))
def s102 : SC :=
  (.seq (.reg [⟨(some 2), .assign (.const (.int .u64 0)), 51, none, []⟩,
    ⟨(some 3), .assign (.const (.bool false)), 4, none, []⟩])
  (.seq (.seq (.reg [⟨(some 7), .move (.tmp 0), 24, none, []⟩,
    ⟨(some 8), .call ⟨.builtin .len, #[(.tmp 7)], #[24]⟩, 3, none, []⟩,
    ⟨(some 9), .binOp .neq 3 (.tmp 8) (.const (.int .i64 8)) 3, 4, none, []⟩])
  (.cond (.tmp 9)
    (.seq (.reg [⟨(some 2), .assign (.const (.int .u64 0)), 51, none, []⟩,
      ⟨(some 3), .assign (.const (.bool false)), 4, none, []⟩])
    .ret)
    .skip))
  (.seq (.reg [⟨(some 4), .assign (.const (.int .u64 0)), 51, none, []⟩])
  (.seq (.seq (.reg [⟨(some 10), .move (.tmp 0), 24, none, []⟩,
    ⟨(some 11), .call ⟨.builtin .len, #[(.tmp 10)], #[24]⟩, 3, none, []⟩,
    ⟨(some 12), .move (.const (.int .i64 0)), 3, none, []⟩])
  (.block 0 (.loop (some ([4, 10, 11, 12], 0)) s102_0)))
  (.seq (.seq (.reg [⟨(some 22), .move (.tmp 4), 51, none, []⟩,
    ⟨(some 23), .call ⟨.value (.func 56), #[(.tmp 22)], #[51]⟩, 4, none, []⟩,
    ⟨(some 24), .unOp .not 4 (.tmp 23), 4, none, []⟩])
  (.cond (.tmp 24)
    (.seq (.reg [⟨(some 2), .assign (.const (.int .u64 0)), 51, none, []⟩,
      ⟨(some 3), .assign (.const (.bool false)), 4, none, []⟩])
    .ret)
    .skip))
  (.seq (.reg [⟨(some 25), .move (.tmp 4), 51, none, []⟩,
    ⟨(some 2), .assign (.tmp 25), 51, none, []⟩,
    ⟨(some 3), .assign (.const (.bool true)), 4, none, []⟩])
  .ret))))))
theorem l102 : slimF Hs 102 Try.f102 = some (26, s102, [.tmp 2, .tmp 3]) := by kernel_rfl

/-! 103 kerbsuite/kerbsuitedata.Realms -/
def s103 : SC :=
  (.seq (.reg [⟨(some 0), .assign (.const (.slice none 0 0)), 88, none, []⟩])
  (.seq (.reg [⟨(some 1), .buildSlice 88 3 #[(0, (.const (.string ⟨#[65, 84, 72]⟩))), (1, (.const (.string ⟨#[66, 79, 83]⟩))), (2, (.const (.string ⟨#[67, 65, 77]⟩)))], 88, none, []⟩,
    ⟨(some 0), .assign (.tmp 1), 88, none, []⟩])
  .ret))
theorem l103 : slimF Hs 103 Try.f103 = some (2, s103, [.tmp 0]) := by kernel_rfl

/-! 104 kerbsuite/principal.printable -/
def s104_0 : SC :=
  (.seq (.reg [⟨(some 9), .binOp .lss 3 (.tmp 8) (.tmp 7) 3, 4, none, []⟩])
  (.seq (.cond (.tmp 9)
    .skip
    (.exit 0))
  (.seq (.block 1 (.seq (.reg [⟨(some 10), .move (.tmp 8), 3, none, []⟩,
    ⟨(some 5), .assign (.tmp 10), 3, none, []⟩])
  (.seq (.reg [⟨(some 11), .move (.tmp 0), 9, none, []⟩,
    ⟨(some 12), .move (.tmp 5), 3, none, []⟩,
    ⟨(some 13), .index 9 (.tmp 11) (.tmp 12), 5, none, []⟩,
    ⟨(some 14), .binOp .lss 5 (.tmp 13) (.const (.int .u8 33)) 5, 4, none, []⟩,
    ⟨(some 15), .move (.tmp 14), 4, none, []⟩,
    ⟨(some 16), .move (.tmp 0), 9, some (15, false), []⟩,
    ⟨(some 17), .move (.tmp 5), 3, some (15, false), []⟩,
    ⟨(some 18), .index 9 (.tmp 16) (.tmp 17), 5, some (15, false), []⟩,
    ⟨(some 19), .binOp .gtr 5 (.tmp 18) (.const (.int .u8 126)) 5, 4, some (15, false), []⟩,
    ⟨(some 20), .pick (.tmp 15) (.const (.bool true)) (.tmp 19), 4, none, []⟩,
    ⟨(some 21), .move (.tmp 20), 4, none, []⟩,
    ⟨(some 22), .move (.tmp 1), 9, some (21, false), []⟩,
    ⟨(some 23), .move (.tmp 0), 9, some (21, false), []⟩,
    ⟨(some 24), .move (.tmp 5), 3, some (21, false), []⟩,
    ⟨(some 25), .index 9 (.tmp 23) (.tmp 24), 5, some (21, false), []⟩,
    ⟨(some 26), .call ⟨.value (.func 114), #[(.tmp 22), (.tmp 25)], #[9, 5]⟩, 3, some (21, false), []⟩,
    ⟨(some 27), .binOp .geq 3 (.tmp 26) (.const (.int .i64 0)) 3, 4, some (21, false), []⟩,
    ⟨(some 28), .pick (.tmp 21) (.const (.bool true)) (.tmp 27), 4, none, []⟩])
  (.cond (.tmp 28)
    (.seq (.reg [⟨(some 4), .assign (.const (.bool false)), 4, none, []⟩])
    .ret)
    .skip))))
  (.reg [⟨(some 29), .binOp .add 3 (.tmp 8) (.const (.int .i64 1)) 3, 3, none, []⟩,
    ⟨(some 8), .move (.tmp 29), 3, none, []⟩]))))
def s104 : SC :=
  (.seq (.reg [⟨(some 4), .assign (.const (.bool false)), 4, none, []⟩])
  (.seq (.seq (.reg [⟨(some 6), .move (.tmp 0), 9, none, []⟩,
    ⟨(some 7), .call ⟨.builtin .len, #[(.tmp 6)], #[9]⟩, 3, none, []⟩,
    ⟨(some 8), .move (.const (.int .i64 0)), 3, none, []⟩])
  (.block 0 (.loop (some ([0, 1, 7, 8], 0)) s104_0)))
  (.seq (.reg [⟨(some 30), .move (.tmp 0), 9, none, []⟩,
    ⟨(some 31), .call ⟨.builtin .len, #[(.tmp 30)], #[9]⟩, 3, none, []⟩,
    ⟨(some 32), .binOp .leq 3 (.tmp 31) (.const (.int .i64 39)) 3, 4, none, []⟩,
    ⟨(some 4), .assign (.tmp 32), 4, none, []⟩])
  .ret)))
theorem l104 : slimF Hs 104 Try.f104 = some (33, s104, [.tmp 4]) := by kernel_rfl

/-! 106 slices.Reverse[[]byte,byte] -/
def s106_0 : SC :=
  (.seq (.seq (.reg [⟨(some 7), .move (.tmp 2), 3, none, []⟩,
    ⟨(some 8), .move (.tmp 3), 3, none, []⟩,
    ⟨(some 9), .binOp .lss 3 (.tmp 7) (.tmp 8) 3, 4, none, []⟩])
  (.cond (.tmp 9)
    .skip
    (.exit 0)))
  (.seq (.block 1 (.drw [(⟨(some 14), .move (.tmp 0), 24, none, []⟩, []),
    (⟨(some 15), .move (.tmp 2), 3, none, []⟩, []),
    (⟨(some 16), .move (.tmp 0), 24, none, []⟩, []),
    (⟨(some 17), .move (.tmp 3), 3, none, []⟩, []),
    (⟨(some 18), .move (.tmp 0), 24, none, []⟩, []),
    (⟨(some 19), .move (.tmp 3), 3, none, []⟩, []),
    (⟨(some 20), .indexAddr 24 (.tmp 18) (.tmp 19), 0, none, []⟩, [0, 1, 2, 3]),
    (⟨(some 21), .load 5 (.tmp 20), 5, none, []⟩, [0, 1, 2, 3]),
    (⟨(some 22), .move (.tmp 0), 24, none, []⟩, [6, 7]),
    (⟨(some 23), .move (.tmp 2), 3, none, []⟩, [6, 7]),
    (⟨(some 24), .indexAddr 24 (.tmp 22) (.tmp 23), 0, none, []⟩, [0, 1, 2, 3, 4, 5, 6, 7]),
    (⟨(some 25), .load 5 (.tmp 24), 5, none, []⟩, [0, 1, 2, 3, 4, 5, 6, 7]),
    (⟨(some 26), .indexAddr 24 (.tmp 14) (.tmp 15), 0, none, []⟩, [2, 3]),
    (⟨none, .store 5 (.tmp 26) (.tmp 21), 0, none, []⟩, [2, 3]),
    (⟨(some 27), .indexAddr 24 (.tmp 16) (.tmp 17), 0, none, []⟩, []),
    (⟨none, .store 5 (.tmp 27) (.tmp 25), 0, none, []⟩, [])]))
  (.reg [⟨(some 10), .move (.tmp 2), 3, none, []⟩,
    ⟨(some 11), .binOp .add 3 (.tmp 10) (.const (.int .i64 1)) 3, 3, none, []⟩,
    ⟨(some 12), .move (.tmp 3), 3, none, []⟩,
    ⟨(some 13), .binOp .sub 3 (.tmp 12) (.const (.int .i64 1)) 3, 3, none, []⟩,
    ⟨(some 2), .assign (.tmp 11), 3, none, []⟩,
    ⟨(some 3), .assign (.tmp 13), 3, none, []⟩])))
def s106 : SC :=
  (.seq (.reg [⟨(some 4), .move (.tmp 0), 24, none, []⟩,
    ⟨(some 5), .call ⟨.builtin .len, #[(.tmp 4)], #[24]⟩, 3, none, []⟩,
    ⟨(some 6), .binOp .sub 3 (.tmp 5) (.const (.int .i64 1)) 3, 3, none, []⟩,
    ⟨(some 2), .assign (.const (.int .i64 0)), 3, none, []⟩,
    ⟨(some 3), .assign (.tmp 6), 3, none, []⟩])
  (.block 0 (.loop (some ([0, 2, 3], 0)) s106_0)))
theorem l106 : slimF Hs 106 Try.f106 = some (28, s106, []) := by kernel_rfl

/-! 107 kerbsuite/header.Read -/
def s107 : SC :=
  (.seq (.reg [⟨(some 2), .assign (.const (.int .i64 0)), 3, none, []⟩,
    ⟨(some 3), .assign (.const (.bool false)), 4, none, []⟩,
    ⟨(some 4), .assign (.const (.int .i64 0)), 34, none, []⟩])
  (.seq (.block 0 (.seq (.reg [⟨(some 16), .move (.tmp 0), 24, none, []⟩,
    ⟨(some 17), .call ⟨.builtin .len, #[(.tmp 16)], #[24]⟩, 3, none, []⟩,
    ⟨(some 18), .binOp .lss 3 (.tmp 17) (.const (.int .i64 2)) 3, 4, none, []⟩,
    ⟨(some 15), .assign (.tmp 18), 4, none, []⟩])
  (.cond (.tmp 15)
    (.reg [⟨(some 4), .assign (.const (.int .i64 101)), 34, none, []⟩])
    (.seq (.reg [⟨(some 20), .move (.tmp 0), 24, none, []⟩,
      ⟨(some 21), .indexAddr 24 (.tmp 20) (.const (.int .i64 0)), 0, none, []⟩,
      ⟨(some 22), .load 5 (.tmp 21), 5, none, []⟩,
      ⟨(some 23), .binOp .neq 5 (.tmp 22) (.const (.int .u8 4)) 5, 4, none, []⟩,
      ⟨(some 19), .assign (.tmp 23), 4, none, []⟩])
    (.cond (.tmp 19)
      (.reg [⟨(some 4), .assign (.const (.int .i64 39)), 34, none, []⟩])
      (.seq (.reg [⟨(some 25), .move (.tmp 0), 24, none, []⟩,
        ⟨(some 26), .indexAddr 24 (.tmp 25) (.const (.int .i64 1)), 0, none, []⟩,
        ⟨(some 27), .load 5 (.tmp 26), 5, none, []⟩,
        ⟨(some 28), .binOp .quo 5 (.tmp 27) (.const (.int .u8 2)) 5, 5, none, []⟩,
        ⟨(some 29), .convert 5 3 (.tmp 28), 3, none, []⟩,
        ⟨(some 30), .call ⟨.value (.func 75), #[(.tmp 29)], #[3]⟩, 4, none, []⟩,
        ⟨(some 31), .unOp .not 4 (.tmp 30), 4, none, []⟩,
        ⟨(some 24), .assign (.tmp 31), 4, none, []⟩])
      (.cond (.tmp 24)
        (.reg [⟨(some 4), .assign (.const (.int .i64 40)), 34, none, []⟩])
        (.drw [(⟨(some 5), .move (.tmp 0), 24, none, []⟩, []),
          (⟨(some 6), .indexAddr 24 (.tmp 5) (.const (.int .i64 1)), 0, none, []⟩, []),
          (⟨(some 7), .load 5 (.tmp 6), 5, none, []⟩, []),
          (⟨(some 8), .binOp .quo 5 (.tmp 7) (.const (.int .u8 2)) 5, 5, none, []⟩, []),
          (⟨(some 9), .convert 5 3 (.tmp 8), 3, none, []⟩, []),
          (⟨(some 10), .move (.tmp 0), 24, none, []⟩, [1, 2, 4]),
          (⟨(some 11), .indexAddr 24 (.tmp 10) (.const (.int .i64 1)), 0, none, []⟩, [0, 1, 2, 3, 4]),
          (⟨(some 12), .load 5 (.tmp 11), 5, none, []⟩, [0, 1, 2, 3, 4]),
          (⟨(some 13), .binOp .rem 5 (.tmp 12) (.const (.int .u8 2)) 5, 5, none, []⟩, [1, 2, 4]),
          (⟨(some 14), .binOp .eql 5 (.tmp 13) (.const (.int .u8 1)) 5, 4, none, []⟩, [1, 2, 4]),
          (⟨(some 2), .assign (.tmp 9), 3, none, []⟩, [6, 7]),
          (⟨(some 3), .assign (.tmp 14), 4, none, []⟩, [])]))))))))
  (.seq (.reg [⟨(some 32), .move (.tmp 2), 3, none, []⟩,
    ⟨(some 33), .move (.tmp 3), 4, none, []⟩,
    ⟨(some 34), .move (.tmp 4), 34, none, []⟩,
    ⟨(some 2), .assign (.tmp 32), 3, none, []⟩,
    ⟨(some 3), .assign (.tmp 33), 4, none, []⟩,
    ⟨(some 4), .assign (.tmp 34), 34, none, []⟩])
  .ret)))
theorem l107 : slimF Hs 107 Try.f107 = some (35, s107, [.tmp 2, .tmp 3, .tmp 4]) := by kernel_rfl

/-! 108 slices.Contains[[]int,int] -/
def s108 : SC :=
  (.seq (.reg [⟨(some 4), .assign (.const (.bool false)), 4, none, []⟩])
  (.seq (.reg [⟨(some 5), .move (.tmp 0), 124, none, []⟩,
    ⟨(some 6), .move (.tmp 1), 3, none, []⟩,
    ⟨(some 7), .call ⟨.value (.func 115), #[(.tmp 5), (.tmp 6)], #[124, 3]⟩, 3, none, []⟩,
    ⟨(some 8), .binOp .geq 3 (.tmp 7) (.const (.int .i64 0)) 3, 4, none, []⟩,
    ⟨(some 4), .assign (.tmp 8), 4, none, []⟩])
  .ret))
theorem l108 : slimF Hs 108 Try.f108 = some (9, s108, [.tmp 4]) := by kernel_rfl

/-! 109 kerbsuite/field.read -/
def s109_0 : SC :=
  (.seq (.reg [⟨(some 31), .binOp .lss 3 (.tmp 30) (.tmp 29) 3, 0, none, []⟩])
  (.seq (.cond (.tmp 31)
    .skip
    (.exit 0))
  (.seq (.block 1 (.seq (.reg [⟨(some 32), .move (.tmp 30), 3, none, []⟩,
    ⟨(some 33), .indexAddr 24 (.tmp 28) (.tmp 30), 0, none, []⟩,
    ⟨(some 34), .load 5 (.tmp 33), 5, none, []⟩,
    ⟨(some 15), .assign (.tmp 32), 3, none, []⟩,
    ⟨(some 16), .assign (.tmp 34), 5, none, []⟩])
  (.seq (.reg [⟨(some 35), .move (.tmp 3), 4, none, []⟩])
  (.cond (.tmp 35)
    (.reg [⟨(some 36), .move (.tmp 14), 3, none, []⟩,
      ⟨(some 37), .move (.tmp 16), 5, none, []⟩,
      ⟨(some 38), .convert 5 3 (.tmp 37), 3, none, []⟩,
      ⟨(some 39), .move (.tmp 15), 3, none, []⟩,
      ⟨(some 40), .binOp .mul 3 (.const (.int .i64 8)) (.tmp 39) 3, 3, none, []⟩,
      ⟨(some 41), .binOp .shl 3 (.tmp 38) (.tmp 40) 3, 3, none, []⟩,
      ⟨(some 42), .binOp .or 3 (.tmp 36) (.tmp 41) 3, 3, none, []⟩,
      ⟨(some 14), .assign (.tmp 42), 3, none, []⟩])
    (.reg [⟨(some 43), .move (.tmp 14), 3, none, []⟩,
      ⟨(some 44), .binOp .shl 3 (.tmp 43) (.const (.int .u64 8)) 128, 3, none, []⟩,
      ⟨(some 45), .move (.tmp 16), 5, none, []⟩,
      ⟨(some 46), .convert 5 3 (.tmp 45), 3, none, []⟩,
      ⟨(some 47), .binOp .or 3 (.tmp 44) (.tmp 46) 3, 3, none, []⟩,
      ⟨(some 14), .assign (.tmp 47), 3, none, []⟩])))))
  (.reg [⟨(some 48), .binOp .add 3 (.tmp 30) (.const (.int .i64 1)) 3, 3, none, []⟩,
    ⟨(some 30), .move (.tmp 48), 3, none, []⟩]))))
def s109 : SC :=
  (.seq (.reg [⟨(some 8), .assign (.const (.int .i64 0)), 3, none, []⟩,
    ⟨(some 9), .assign (.const (.int .i64 0)), 3, none, []⟩,
    ⟨(some 10), .assign (.const (.int .i64 0)), 34, none, []⟩])
  (.seq (.reg [⟨(some 18), .move (.tmp 0), 24, none, []⟩,
    ⟨(some 19), .move (.tmp 1), 3, none, []⟩,
    ⟨(some 20), .move (.tmp 2), 3, none, []⟩,
    ⟨(some 21), .call ⟨.value (.func 111), #[(.tmp 18), (.tmp 19), (.tmp 20)], #[24, 3, 3]⟩, 115, none, []⟩,
    ⟨(some 17), .move (.tmp 21), 115, none, []⟩,
    ⟨(some 22), .extract (.tmp 17) 0, 24, none, []⟩,
    ⟨(some 23), .extract (.tmp 17) 1, 3, none, []⟩,
    ⟨(some 24), .extract (.tmp 17) 2, 34, none, []⟩,
    ⟨(some 11), .assign (.tmp 22), 24, none, []⟩,
    ⟨(some 12), .assign (.tmp 23), 3, none, []⟩,
    ⟨(some 13), .assign (.tmp 24), 34, none, []⟩])
  (.seq (.seq (.reg [⟨(some 25), .move (.tmp 13), 34, none, []⟩,
    ⟨(some 26), .binOp .neq 34 (.tmp 25) (.const (.int .i64 0)) 34, 4, none, []⟩])
  (.cond (.tmp 26)
    (.seq (.reg [⟨(some 27), .move (.tmp 13), 34, none, []⟩,
      ⟨(some 8), .assign (.const (.int .i64 0)), 3, none, []⟩,
      ⟨(some 9), .assign (.const (.int .i64 0)), 3, none, []⟩,
      ⟨(some 10), .assign (.tmp 27), 34, none, []⟩])
    .ret)
    .skip))
  (.seq (.reg [⟨(some 14), .assign (.const (.int .i64 0)), 3, none, []⟩])
  (.seq (.seq (.reg [⟨(some 28), .move (.tmp 11), 24, none, []⟩,
    ⟨(some 29), .call ⟨.builtin .len, #[(.tmp 28)], #[24]⟩, 3, none, []⟩,
    ⟨(some 30), .move (.const (.int .i64 0)), 3, none, []⟩])
  (.block 0 (.loop (some ([3, 12, 14, 28, 29, 30], 0)) s109_0)))
  (.seq (.reg [⟨(some 49), .move (.tmp 14), 3, none, []⟩,
    ⟨(some 50), .move (.tmp 12), 3, none, []⟩,
    ⟨(some 8), .assign (.tmp 49), 3, none, []⟩,
    ⟨(some 9), .assign (.tmp 50), 3, none, []⟩,
    ⟨(some 10), .assign (.const (.int .i64 0)), 34, none, []⟩])
  .ret))))))
theorem l109 : slimF Hs 109 Try.f109 = some (51, s109, [.tmp 8, .tmp 9, .tmp 10]) := by kernel_rfl

/-! 111 kerbsuite/field.take -/
def s111 : SC :=
  (.seq (.reg [⟨(some 6), .assign (.const (.slice none 0 0)), 24, none, []⟩,
    ⟨(some 7), .assign (.const (.int .i64 0)), 3, none, []⟩,
    ⟨(some 8), .assign (.const (.int .i64 0)), 34, none, []⟩])
  (.seq (.block 0 (.seq (.reg [⟨(some 10), .move (.tmp 1), 3, none, []⟩,
    ⟨(some 11), .binOp .lss 3 (.tmp 10) (.const (.int .i64 0)) 3, 4, none, []⟩,
    ⟨(some 12), .move (.tmp 11), 4, none, []⟩,
    ⟨(some 13), .move (.tmp 1), 3, some (12, false), []⟩,
    ⟨(some 14), .move (.tmp 0), 24, some (12, false), []⟩,
    ⟨(some 15), .call ⟨.builtin .len, #[(.tmp 14)], #[24]⟩, 3, some (12, false), []⟩,
    ⟨(some 16), .binOp .gtr 3 (.tmp 13) (.tmp 15) 3, 4, some (12, false), []⟩,
    ⟨(some 17), .pick (.tmp 12) (.const (.bool true)) (.tmp 16), 4, none, []⟩,
    ⟨(some 18), .move (.tmp 17), 4, none, []⟩,
    ⟨(some 19), .move (.tmp 2), 3, some (18, false), []⟩,
    ⟨(some 20), .binOp .lss 3 (.tmp 19) (.const (.int .i64 0)) 3, 4, some (18, false), []⟩,
    ⟨(some 21), .pick (.tmp 18) (.const (.bool true)) (.tmp 20), 4, none, []⟩,
    ⟨(some 9), .assign (.tmp 21), 4, none, []⟩])
  (.cond (.tmp 9)
    (.seq (.reg [⟨(some 6), .assign (.const (.slice none 0 0)), 24, none, []⟩,
      ⟨(some 7), .assign (.const (.int .i64 0)), 3, none, []⟩,
      ⟨(some 8), .assign (.const (.int .i64 104)), 34, none, []⟩])
    .ret)
    (.seq (.reg [⟨(some 23), .move (.tmp 2), 3, none, []⟩,
      ⟨(some 24), .move (.tmp 0), 24, none, []⟩,
      ⟨(some 25), .call ⟨.builtin .len, #[(.tmp 24)], #[24]⟩, 3, none, []⟩,
      ⟨(some 26), .move (.tmp 1), 3, none, []⟩,
      ⟨(some 27), .binOp .sub 3 (.tmp 25) (.tmp 26) 3, 3, none, []⟩,
      ⟨(some 28), .binOp .gtr 3 (.tmp 23) (.tmp 27) 3, 4, none, []⟩,
      ⟨(some 22), .assign (.tmp 28), 4, none, []⟩])
    (.cond (.tmp 22)
      (.seq (.reg [⟨(some 6), .assign (.const (.slice none 0 0)), 24, none, []⟩,
        ⟨(some 7), .assign (.const (.int .i64 0)), 3, none, []⟩,
        ⟨(some 8), .assign (.const (.int .i64 101)), 34, none, []⟩])
      .ret)
      .skip)))))
  (.seq (.reg [⟨(some 29), .move (.tmp 0), 24, none, []⟩,
    ⟨(some 30), .move (.tmp 1), 3, none, []⟩,
    ⟨(some 31), .move (.tmp 1), 3, none, []⟩,
    ⟨(some 32), .move (.tmp 2), 3, none, []⟩,
    ⟨(some 33), .binOp .add 3 (.tmp 31) (.tmp 32) 3, 3, none, []⟩,
    ⟨(some 34), .slice 24 (.tmp 29) (some (.tmp 30)) (some (.tmp 33)) none, 24, none, []⟩,
    ⟨(some 35), .move (.tmp 1), 3, none, []⟩,
    ⟨(some 36), .move (.tmp 2), 3, none, []⟩,
    ⟨(some 37), .binOp .add 3 (.tmp 35) (.tmp 36) 3, 3, none, []⟩,
    ⟨(some 6), .assign (.tmp 34), 24, none, []⟩,
    ⟨(some 7), .assign (.tmp 37), 3, none, []⟩,
    ⟨(some 8), .assign (.const (.int .i64 0)), 34, none, []⟩])
  .ret)))
theorem l111 : slimF Hs 111 Try.f111 = some (38, s111, [.tmp 6, .tmp 7, .tmp 8]) := by kernel_rfl

/-! 112 slices.IndexFunc[[]int,int] -/
def s112_0 : SC :=
  (.seq (.reg [⟨(some 9), .binOp .lss 3 (.tmp 8) (.tmp 7) 3, 0, none, []⟩])
  (.seq (.cond (.tmp 9)
    .skip
    (.exit 0))
  (.seq (.block 1 (.seq (.reg [⟨(some 10), .move (.tmp 8), 3, none, []⟩,
    ⟨(some 5), .assign (.tmp 10), 3, none, []⟩])
  (.seq (.reg [⟨(some 11), .move (.tmp 1), 76, none, []⟩,
    ⟨(some 12), .move (.tmp 0), 124, none, []⟩,
    ⟨(some 13), .move (.tmp 5), 3, none, []⟩,
    ⟨(some 14), .indexAddr 124 (.tmp 12) (.tmp 13), 0, none, []⟩,
    ⟨(some 15), .load 3 (.tmp 14), 3, none, []⟩,
    ⟨(some 16), .call ⟨.value (.tmp 11), #[(.tmp 15)], #[3]⟩, 4, none, []⟩])
  (.cond (.tmp 16)
    (.seq (.reg [⟨(some 17), .move (.tmp 5), 3, none, []⟩,
      ⟨(some 4), .assign (.tmp 17), 3, none, []⟩])
    .ret)
    .skip))))
  (.reg [⟨(some 18), .binOp .add 3 (.tmp 8) (.const (.int .i64 1)) 3, 3, none, []⟩,
    ⟨(some 8), .move (.tmp 18), 3, none, []⟩]))))
def s112 : SC :=
  (.seq (.reg [⟨(some 4), .assign (.const (.int .i64 0)), 3, none, []⟩])
  (.seq (.seq (.reg [⟨(some 6), .move (.tmp 0), 124, none, []⟩,
    ⟨(some 7), .call ⟨.builtin .len, #[(.tmp 6)], #[124]⟩, 3, none, []⟩,
    ⟨(some 8), .move (.const (.int .i64 0)), 3, none, []⟩])
  (.block 0 (.loop (some ([0, 1, 7, 8], 0)) s112_0)))
  (.seq (.reg [⟨(some 4), .assign (.const (.int .i64 (-1))), 3, none, []⟩])
  .ret)))
theorem l112 : slimF Hs 112 Try.f112 = some (19, s112, [.tmp 4]) := by kernel_rfl

/-! 113 kerbsuite/key.split -/
def s113 : SC :=
  (.seq (.reg [⟨(some 2), .assign (.const (.int .i64 0)), 3, none, []⟩,
    ⟨(some 3), .assign (.const (.int .i64 0)), 3, none, []⟩])
  (.seq (.reg [⟨(some 4), .move (.tmp 0), 51, none, []⟩,
    ⟨(some 5), .binOp .shr 51 (.tmp 4) (.const (.int .u64 56)) 128, 51, none, []⟩,
    ⟨(some 6), .convert 51 3 (.tmp 5), 3, none, []⟩,
    ⟨(some 7), .move (.tmp 0), 51, none, []⟩,
    ⟨(some 8), .binOp .and 51 (.tmp 7) (.const (.int .u64 72057594037927935)) 51, 51, none, []⟩,
    ⟨(some 9), .convert 51 3 (.tmp 8), 3, none, []⟩,
    ⟨(some 2), .assign (.tmp 6), 3, none, []⟩,
    ⟨(some 3), .assign (.tmp 9), 3, none, []⟩])
  (.seq (.seq (.reg [⟨(some 10), .move (.tmp 0), 51, none, []⟩,
    ⟨(some 11), .binOp .eql 51 (.tmp 10) (.const (.int .u64 0)) 51, 4, none, []⟩,
    ⟨(some 12), .move (.tmp 11), 4, none, []⟩,
    ⟨(some 13), .move (.tmp 2), 3, some (12, false), []⟩,
    ⟨(some 14), .move (.tmp 3), 3, some (12, false), []⟩,
    ⟨(some 15), .call ⟨.value (.func 117), #[(.tmp 13), (.tmp 14)], #[3, 3]⟩, 51, some (12, false), []⟩,
    ⟨(some 16), .move (.tmp 0), 51, some (12, false), []⟩,
    ⟨(some 17), .binOp .neq 51 (.tmp 15) (.tmp 16) 51, 4, some (12, false), []⟩,
    ⟨(some 18), .pick (.tmp 12) (.const (.bool true)) (.tmp 17), 4, none, []⟩])
  (.cond (.tmp 18)
    (.seq (.reg [⟨(some 2), .assign (.const (.int .i64 0)), 3, none, []⟩,
      ⟨(some 3), .assign (.const (.int .i64 0)), 3, none, []⟩])
    .ret)
    .skip))
  (.seq (.reg [⟨(some 19), .move (.tmp 2), 3, none, []⟩,
    ⟨(some 20), .move (.tmp 3), 3, none, []⟩,
    ⟨(some 2), .assign (.tmp 19), 3, none, []⟩,
    ⟨(some 3), .assign (.tmp 20), 3, none, []⟩])
  .ret))))
theorem l113 : slimF Hs 113 Try.f113 = some (21, s113, [.tmp 2, .tmp 3]) := by kernel_rfl

/-! 114 strings.IndexByte -/
def s114 : SC :=
  (.seq (.reg [⟨(some 4), .assign (.const (.int .i64 0)), 3, none, []⟩])
  (.seq (.reg [⟨(some 5), .move (.tmp 0), 9, none, []⟩,
    ⟨(some 6), .move (.tmp 1), 5, none, []⟩,
    ⟨(some 7), .call ⟨.value (.func 118), #[(.tmp 5), (.tmp 6)], #[9, 5]⟩, 3, none, []⟩,
    ⟨(some 4), .assign (.tmp 7), 3, none, []⟩])
  .ret))
theorem l114 : slimF Hs 114 Try.f114 = some (8, s114, [.tmp 4]) := by kernel_rfl

/-! 115 slices.Index[[]int,int] -/
def s115_0 : SC :=
  (.seq (.reg [⟨(some 9), .binOp .lss 3 (.tmp 8) (.tmp 7) 3, 0, none, []⟩])
  (.seq (.cond (.tmp 9)
    .skip
    (.exit 0))
  (.seq (.block 1 (.seq (.reg [⟨(some 10), .move (.tmp 8), 3, none, []⟩,
    ⟨(some 5), .assign (.tmp 10), 3, none, []⟩])
  (.seq (.reg [⟨(some 11), .move (.tmp 1), 3, none, []⟩,
    ⟨(some 12), .move (.tmp 0), 124, none, []⟩,
    ⟨(some 13), .move (.tmp 5), 3, none, []⟩,
    ⟨(some 14), .indexAddr 124 (.tmp 12) (.tmp 13), 0, none, []⟩,
    ⟨(some 15), .load 3 (.tmp 14), 3, none, []⟩,
    ⟨(some 16), .binOp .eql 3 (.tmp 11) (.tmp 15) 3, 4, none, []⟩])
  (.cond (.tmp 16)
    (.seq (.reg [⟨(some 17), .move (.tmp 5), 3, none, []⟩,
      ⟨(some 4), .assign (.tmp 17), 3, none, []⟩])
    .ret)
    .skip))))
  (.reg [⟨(some 18), .binOp .add 3 (.tmp 8) (.const (.int .i64 1)) 3, 3, none, []⟩,
    ⟨(some 8), .move (.tmp 18), 3, none, []⟩]))))
def s115 : SC :=
  (.seq (.reg [⟨(some 4), .assign (.const (.int .i64 0)), 3, none, []⟩])
  (.seq (.seq (.reg [⟨(some 6), .move (.tmp 0), 124, none, []⟩,
    ⟨(some 7), .call ⟨.builtin .len, #[(.tmp 6)], #[124]⟩, 3, none, []⟩,
    ⟨(some 8), .move (.const (.int .i64 0)), 3, none, []⟩])
  (.block 0 (.loop (some ([0, 1, 7, 8], 0)) s115_0)))
  (.seq (.reg [⟨(some 4), .assign (.const (.int .i64 (-1))), 3, none, []⟩])
  .ret)))
theorem l115 : slimF Hs 115 Try.f115 = some (19, s115, [.tmp 4]) := by kernel_rfl

/-! 117 kerbsuite/key.Make -/
def s117 : SC :=
  (.seq (.reg [⟨(some 4), .assign (.const (.int .u64 0)), 51, none, []⟩])
  (.seq (.seq (.reg [⟨(some 5), .move (.tmp 0), 3, none, []⟩,
    ⟨(some 6), .binOp .neq 3 (.tmp 5) (.const (.int .i64 1)) 3, 4, none, []⟩,
    ⟨(some 7), .move (.tmp 6), 4, none, []⟩,
    ⟨(some 8), .move (.tmp 0), 3, some (7, true), []⟩,
    ⟨(some 9), .binOp .neq 3 (.tmp 8) (.const (.int .i64 2)) 3, 4, some (7, true), []⟩,
    ⟨(some 10), .pick (.tmp 7) (.tmp 9) (.const (.bool false)), 4, none, []⟩,
    ⟨(some 11), .move (.tmp 10), 4, none, []⟩,
    ⟨(some 12), .move (.tmp 1), 3, some (11, false), []⟩,
    ⟨(some 13), .binOp .lss 3 (.tmp 12) (.const (.int .i64 1)) 3, 4, some (11, false), []⟩,
    ⟨(some 14), .pick (.tmp 11) (.const (.bool true)) (.tmp 13), 4, none, []⟩,
    ⟨(some 15), .move (.tmp 14), 4, none, []⟩,
    ⟨(some 16), .move (.tmp 1), 3, some (15, false), []⟩,
    ⟨(some 17), .binOp .gtr 3 (.tmp 16) (.const (.int .i64 4294967295)) 3, 4, some (15, false), []⟩,
    ⟨(some 18), .pick (.tmp 15) (.const (.bool true)) (.tmp 17), 4, none, []⟩])
  (.cond (.tmp 18)
    (.seq (.reg [⟨(some 4), .assign (.const (.int .u64 0)), 51, none, []⟩])
    .ret)
    .skip))
  (.seq (.reg [⟨(some 19), .move (.tmp 0), 3, none, []⟩,
    ⟨(some 20), .convert 3 50 (.tmp 19), 50, none, []⟩,
    ⟨(some 21), .binOp .shl 50 (.tmp 20) (.const (.int .u64 56)) 128, 50, none, []⟩,
    ⟨(some 22), .move (.tmp 1), 3, none, []⟩,
    ⟨(some 23), .convert 3 50 (.tmp 22), 50, none, []⟩,
    ⟨(some 24), .binOp .or 50 (.tmp 21) (.tmp 23) 50, 50, none, []⟩,
    ⟨(some 4), .assign (.tmp 24), 51, none, []⟩])
  .ret)))
theorem l117 : slimF Hs 117 Try.f117 = some (25, s117, [.tmp 4]) := by kernel_rfl

end Ab
