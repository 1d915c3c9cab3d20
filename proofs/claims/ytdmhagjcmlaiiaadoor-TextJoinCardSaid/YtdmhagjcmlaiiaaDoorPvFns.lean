/- Pv: the functions of this seat, printed by wip/gen/gen.py out of their form in Lean. -/
import Derived.Test.YtdmhagjcmlaiiaaDoorPvN
set_option linter.unusedVariables false
set_option maxRecDepth 100000
namespace Go.Pv.Try
def fn3_l1 : C :=
  (.seq
    (.seq
      (.reg false [⟨some 57, [], .mv, [.t 9], none⟩,
        ⟨some 58, [], .fa 4, [.t 5], none⟩,
        ⟨some 59, [], .bld 5 1 false false, [.t 58], none⟩,
        ⟨some 60, [], .len, [.t 59], none⟩,
        ⟨some 61, [], .bin .lss, [.t 57, .t 60], none⟩,
        ⟨some 62, [], .mv, [.t 61], none⟩,
        ⟨some 63, [], .mv, [.t 1], (some (62, true))⟩,
        ⟨some 64, [], .bin .neq, [.t 63, .k (.v (.string ⟨#[]⟩))], (some (62, true))⟩,
        ⟨some 65, [], .pick, [.t 62, .t 64, .k (.v (.bool false))], none⟩])
      (.cond (.t 65)
        .skip
        (.exit 0)))
    (.seq
      (.block 1
        (.seq
          (.reg true [⟨some 69, [], .fa 4, [.t 5], none⟩,
            ⟨some 70, [], .bld 5 1 false false, [.t 69], none⟩,
            ⟨some 71, [], .mv, [.t 9], none⟩,
            ⟨some 72, [], .ia 5, [.t 70, .t 71], none⟩,
            ⟨some 73, [], .ldel 5 true, [.t 72], none⟩,
            ⟨some 74, [], .mv, [.t 1], none⟩,
            ⟨some 75, [], .call true, [.k (.v (.func (.func 6) #[] #[])), .t 74], none⟩,
            ⟨some 76, [], .call true, [.k (.v (.func (.func 10) #[] #[])), .t 73, .t 75], none⟩,
            ⟨some 68, [], .mv, [.t 76], none⟩,
            ⟨some 77, [], .ext 0, [.t 68], none⟩,
            ⟨some 78, [], .ext 1, [.t 68], none⟩,
            ⟨some 10, [], .bnew 10 [(.v (.int .i64 0)), (.v (.int .i64 0)), (.v (.string ⟨#[]⟩)), (.sl .full (some true) []), (.sl .full (some true) [])], [], none⟩,
            ⟨none, [], .bst 10 5 false, [.t 10, .t 77], none⟩,
            ⟨some 11, [], .mv, [.t 78], none⟩])
          (.seq
            (.reg false [⟨some 79, [], .mv, [.t 11], none⟩,
              ⟨some 80, [], .bin .neq, [.t 79, .k (.v (.int .i64 0))], none⟩,
              ⟨some 81, [], .mv, [.t 80], none⟩,
              ⟨some 82, [], .fa 4, [.t 10], (some (81, false))⟩,
              ⟨some 83, [], .bld 10 1 false false, [.t 82], (some (81, false))⟩,
              ⟨some 84, [], .len, [.t 83], (some (81, false))⟩,
              ⟨some 85, [], .bin .gtr, [.t 84, .k (.v (.int .i64 0))], (some (81, false))⟩,
              ⟨some 86, [], .pick, [.t 81, .k (.v (.bool true)), .t 85], none⟩])
            (.cond (.t 86)
              (.seq
                (.reg false [⟨some 4, [], .mv, [.k (.v (.bool false))], none⟩])
                .ret)
              .skip))))
      (.reg false [⟨some 66, [], .mv, [.t 9], none⟩,
        ⟨some 67, [], .bin .add, [.t 66, .k (.v (.int .i64 1))], none⟩,
        ⟨some 9, [], .mv, [.t 67], none⟩])))
/-- ndjq/ndjqlaw08.TextJoin -/
def bd3 : C :=
    (.seq
      (.reg false [⟨some 4, [], .mv, [.k (.v (.bool false))], none⟩])
      (.seq
        (.seq
          (.reg false [⟨some 12, [], .mv, [.t 0], none⟩,
            ⟨some 13, [], .mv, [.t 1], none⟩,
            ⟨some 14, [], .bsl 1, [.t 12, .t 13], none⟩,
            ⟨some 15, [], .call true, [.k (.v (.func (.func 4) #[] #[])), .k (.v (.int .i64 60)), .t 14], none⟩,
            ⟨some 16, [], .un .not, [.t 15], none⟩,
            ⟨some 17, [], .mv, [.t 16], none⟩,
            ⟨some 18, [], .mv, [.t 0], (some (17, false))⟩,
            ⟨some 19, [], .call true, [.k (.v (.func (.func 6) #[] #[])), .t 18], (some (17, false))⟩,
            ⟨some 20, [], .call true, [.k (.v (.func (.func 5) #[] #[])), .t 19], (some (17, false))⟩,
            ⟨some 21, [], .un .not, [.t 20], (some (17, false))⟩,
            ⟨some 22, [], .pick, [.t 17, .k (.v (.bool true)), .t 21], none⟩,
            ⟨some 23, [], .mv, [.t 22], none⟩,
            ⟨some 24, [], .mv, [.t 1], (some (23, false))⟩,
            ⟨some 25, [], .call true, [.k (.v (.func (.func 6) #[] #[])), .t 24], (some (23, false))⟩,
            ⟨some 26, [], .call true, [.k (.v (.func (.func 5) #[] #[])), .t 25], (some (23, false))⟩,
            ⟨some 27, [], .un .not, [.t 26], (some (23, false))⟩,
            ⟨some 28, [], .pick, [.t 23, .k (.v (.bool true)), .t 27], none⟩])
          (.cond (.t 28)
            (.seq
              (.reg false [⟨some 29, [], .call true, [.k (.v (.func (.func 7) #[] #[]))], none⟩,
                ⟨some 4, [], .mv, [.t 29], none⟩])
              .ret)
            .skip))
        (.seq
          (.reg false [⟨some 31, [], .mv, [.t 0], none⟩,
            ⟨some 32, [], .call true, [.k (.v (.func (.func 6) #[] #[])), .t 31], none⟩,
            ⟨some 33, [], .mv, [.t 1], none⟩,
            ⟨some 34, [], .call true, [.k (.v (.func (.func 6) #[] #[])), .t 33], none⟩,
            ⟨some 35, [], .call true, [.k (.v (.func (.func 8) #[] #[])), .t 32, .t 34], none⟩,
            ⟨some 30, [], .mv, [.t 35], none⟩,
            ⟨some 36, [], .ext 0, [.t 30], none⟩,
            ⟨some 37, [], .ext 1, [.t 30], none⟩,
            ⟨some 5, [], .bnew 5 [(.v (.int .i64 0)), (.v (.int .i64 0)), (.v (.string ⟨#[]⟩)), (.sl .full (some true) []), (.sl .full (some true) [])], [], none⟩,
            ⟨none, [], .bst 5 5 false, [.t 5, .t 36], none⟩,
            ⟨some 6, [], .mv, [.t 37], none⟩])
          (.seq
            (.reg true [⟨some 39, [], .bld 5 5 true false, [.t 5], none⟩,
              ⟨some 40, [], .mv, [.t 1], none⟩,
              ⟨some 41, [], .call true, [.k (.v (.func (.func 6) #[] #[])), .t 40], none⟩,
              ⟨some 42, [], .call true, [.k (.v (.func (.func 9) #[] #[])), .t 39, .t 41], none⟩,
              ⟨some 38, [], .mv, [.t 42], none⟩,
              ⟨some 43, [], .ext 0, [.t 38], none⟩,
              ⟨some 44, [], .ext 1, [.t 38], none⟩,
              ⟨some 7, [], .bnew 7 [(.v (.int .i64 0)), (.v (.int .i64 0)), (.v (.string ⟨#[]⟩)), (.sl .full (some true) []), (.sl .full (some true) [])], [], none⟩,
              ⟨none, [], .bst 7 5 false, [.t 7, .t 43], none⟩,
              ⟨some 8, [], .mv, [.t 44], none⟩])
            (.seq
              (.seq
                (.reg false [⟨some 45, [], .mv, [.t 6], none⟩,
                  ⟨some 46, [], .bin .neq, [.t 45, .k (.v (.int .i64 0))], none⟩,
                  ⟨some 47, [], .mv, [.t 46], none⟩,
                  ⟨some 48, [], .mv, [.t 8], (some (47, false))⟩,
                  ⟨some 49, [], .bin .neq, [.t 48, .k (.v (.int .i64 0))], (some (47, false))⟩,
                  ⟨some 50, [], .pick, [.t 47, .k (.v (.bool true)), .t 49], none⟩,
                  ⟨some 51, [], .mv, [.t 50], none⟩,
                  ⟨some 52, [], .fa 2, [.t 7], (some (51, false))⟩,
                  ⟨some 53, [], .bld 7 1 false false, [.t 52], (some (51, false))⟩,
                  ⟨some 54, [], .mv, [.t 0], (some (51, false))⟩,
                  ⟨some 55, [], .bin .neq, [.t 53, .t 54], (some (51, false))⟩,
                  ⟨some 56, [], .pick, [.t 51, .k (.v (.bool true)), .t 55], none⟩])
                (.cond (.t 56)
                  (.seq
                    (.reg false [⟨some 4, [], .mv, [.k (.v (.bool false))], none⟩])
                    .ret)
                  .skip))
              (.seq
                (.seq
                  (.reg false [⟨some 9, [], .mv, [.k (.v (.int .i64 0))], none⟩])
                  (.block 0
                    (.loop fn3_l1)))
                (.seq
                  (.reg false [⟨some 87, [], .call true, [.k (.v (.func (.func 7) #[] #[]))], none⟩,
                    ⟨some 4, [], .mv, [.t 87], none⟩])
                  .ret)))))))
def fn3 : Fn := ⟨2, bd3, [.slot 4]⟩

def fn4_l1 : C :=
  (.seq
    (.seq
      (.reg false [⟨some 6, [], .mv, [.t 5], none⟩,
        ⟨some 7, [], .mv, [.t 1], none⟩,
        ⟨some 8, [], .len, [.t 7], none⟩,
        ⟨some 9, [], .bin .lss, [.t 6, .t 8], none⟩])
      (.cond (.t 9)
        .skip
        (.exit 0)))
    (.seq
      (.block 1
        (.seq
          (.reg false [⟨some 12, [], .mv, [.t 1], none⟩,
            ⟨some 13, [], .mv, [.t 5], none⟩,
            ⟨some 14, [], .ia 1, [.t 12, .t 13], none⟩,
            ⟨some 15, [], .ldel 1 false, [.t 14], none⟩,
            ⟨some 16, [], .slen, [.t 15], none⟩,
            ⟨some 17, [], .mv, [.t 0], none⟩,
            ⟨some 18, [], .bin .gtr, [.t 16, .t 17], none⟩])
          (.cond (.t 18)
            (.seq
              (.reg false [⟨some 4, [], .mv, [.k (.v (.bool false))], none⟩])
              .ret)
            .skip)))
      (.reg false [⟨some 10, [], .mv, [.t 5], none⟩,
        ⟨some 11, [], .bin .add, [.t 10, .k (.v (.int .i64 1))], none⟩,
        ⟨some 5, [], .mv, [.t 11], none⟩])))
/-- ndjq/ndjqkeep.Short -/
def bd4 : C :=
    (.seq
      (.reg false [⟨some 4, [], .mv, [.k (.v (.bool false))], none⟩])
      (.seq
        (.seq
          (.reg false [⟨some 5, [], .mv, [.k (.v (.int .i64 0))], none⟩])
          (.block 0
            (.loop fn4_l1)))
        (.seq
          (.reg false [⟨some 4, [], .mv, [.k (.v (.bool true))], none⟩])
          .ret)))
def fn4 : Fn := ⟨2, bd4, [.slot 4]⟩

/-- ndjq/value.Valid -/
def bd5 : C :=
    (.seq
      (.reg false [⟨some 1, [], .bbox 1, [.t 0], none⟩,
        ⟨some 2, [], .mv, [.k (.v (.bool false))], none⟩])
      (.seq
        (.reg false [⟨some 3, [], .bld 1 5 true false, [.t 1], none⟩,
          ⟨some 4, [], .call true, [.k (.v (.func (.func 11) #[] #[])), .t 3], none⟩,
          ⟨some 2, [], .mv, [.t 4], none⟩])
        .ret))
def fn5 : Fn := ⟨1, bd5, [.slot 2]⟩

/-- ndjq/ndjqlaw08.str -/
def bd6 : C :=
    (.seq
      (.reg false [⟨some 2, [], .bnew 2 [(.v (.int .i64 0)), (.v (.int .i64 0)), (.v (.string ⟨#[]⟩)), (.sl .full (some true) []), (.sl .full (some true) [])], [], none⟩])
      (.seq
        (.reg false [⟨some 3, [], .mv, [.t 0], none⟩,
          ⟨some 4, [], .build [(.v (.int .i64 0)), (.v (.int .i64 0)), (.v (.string ⟨#[]⟩)), (.sl .full (some true) []), (.sl .full (some true) [])] [(0, 1), (2, 1)], [.k (.v (.int .i64 4)), .t 3], none⟩,
          ⟨none, [], .bst 2 5 false, [.t 2, .t 4], none⟩])
        .ret))
def fn6 : Fn := ⟨1, bd6, [.cell 2 5 true]⟩

/-- ndjq/ndjqlaw08.awake -/
def bd7 : C :=
    (.seq
      (.reg false [⟨some 0, [], .mv, [.k (.v (.bool false))], none⟩])
      (.seq
        (.reg false [⟨some 6, [], .call true, [.k (.v (.func (.func 6) #[] #[])), .k (.v (.string ⟨#[97, 97, 97]⟩))], none⟩,
          ⟨some 7, [], .call true, [.k (.v (.func (.func 6) #[] #[])), .k (.v (.string ⟨#[97, 97]⟩))], none⟩,
          ⟨some 8, [], .call true, [.k (.v (.func (.func 10) #[] #[])), .t 6, .t 7], none⟩,
          ⟨some 5, [], .mv, [.t 8], none⟩,
          ⟨some 9, [], .ext 0, [.t 5], none⟩,
          ⟨some 10, [], .ext 1, [.t 5], none⟩,
          ⟨some 1, [], .bnew 1 [(.v (.int .i64 0)), (.v (.int .i64 0)), (.v (.string ⟨#[]⟩)), (.sl .full (some true) []), (.sl .full (some true) [])], [], none⟩,
          ⟨none, [], .bst 1 5 false, [.t 1, .t 9], none⟩,
          ⟨some 2, [], .mv, [.t 10], none⟩])
        (.seq
          (.reg false [⟨some 12, [], .call true, [.k (.v (.func (.func 6) #[] #[])), .k (.v (.string ⟨#[97, 98, 99]⟩))], none⟩,
            ⟨some 13, [], .call true, [.k (.v (.func (.func 6) #[] #[])), .k (.v (.string ⟨#[97, 98]⟩))], none⟩,
            ⟨some 14, [], .call true, [.k (.v (.func (.func 12) #[] #[])), .t 12, .t 13], none⟩,
            ⟨some 11, [], .mv, [.t 14], none⟩,
            ⟨some 15, [], .ext 0, [.t 11], none⟩,
            ⟨some 16, [], .ext 1, [.t 11], none⟩,
            ⟨some 3, [], .bnew 3 [(.v (.int .i64 0)), (.v (.int .i64 0)), (.v (.string ⟨#[]⟩)), (.sl .full (some true) []), (.sl .full (some true) [])], [], none⟩,
            ⟨none, [], .bst 3 5 false, [.t 3, .t 15], none⟩,
            ⟨some 4, [], .mv, [.t 16], none⟩])
          (.seq
            (.reg false [⟨some 17, [], .mv, [.t 2], none⟩,
              ⟨some 18, [], .bin .eql, [.t 17, .k (.v (.int .i64 0))], none⟩,
              ⟨some 19, [], .mv, [.t 18], none⟩,
              ⟨some 20, [], .mv, [.t 4], (some (19, true))⟩,
              ⟨some 21, [], .bin .eql, [.t 20, .k (.v (.int .i64 0))], (some (19, true))⟩,
              ⟨some 22, [], .pick, [.t 19, .t 21, .k (.v (.bool false))], none⟩,
              ⟨some 23, [], .mv, [.t 22], none⟩,
              ⟨some 24, [], .fa 4, [.t 1], (some (23, true))⟩,
              ⟨some 25, [], .bld 1 1 false false, [.t 24], (some (23, true))⟩,
              ⟨some 26, [], .len, [.t 25], (some (23, true))⟩,
              ⟨some 27, [], .bin .eql, [.t 26, .k (.v (.int .i64 2))], (some (23, true))⟩,
              ⟨some 28, [], .pick, [.t 23, .t 27, .k (.v (.bool false))], none⟩,
              ⟨some 29, [], .mv, [.t 28], none⟩,
              ⟨some 30, [], .fa 4, [.t 1], (some (29, true))⟩,
              ⟨some 31, [], .bld 1 1 false false, [.t 30], (some (29, true))⟩,
              ⟨some 32, [], .ia 5, [.t 31, .k (.v (.int .i64 1))], (some (29, true))⟩,
              ⟨some 33, [], .fa 1, [.t 32], (some (29, true))⟩,
              ⟨some 34, [], .ldel 1 false, [.t 33], (some (29, true))⟩,
              ⟨some 35, [], .bin .eql, [.t 34, .k (.v (.int .i64 1))], (some (29, true))⟩,
              ⟨some 36, [], .pick, [.t 29, .t 35, .k (.v (.bool false))], none⟩,
              ⟨some 37, [], .mv, [.t 36], none⟩,
              ⟨some 38, [], .fa 2, [.t 3], (some (37, true))⟩,
              ⟨some 39, [], .bld 3 1 false false, [.t 38], (some (37, true))⟩,
              ⟨some 40, [], .bin .eql, [.t 39, .k (.v (.string ⟨#[99]⟩))], (some (37, true))⟩,
              ⟨some 41, [], .pick, [.t 37, .t 40, .k (.v (.bool false))], none⟩,
              ⟨some 0, [], .mv, [.t 41], none⟩])
            .ret))))
def fn7 : Fn := ⟨0, bd7, [.slot 0]⟩

/-- ndjq/text.Split -/
def bd8 : C :=
    (.seq
      (.reg false [⟨some 2, [], .bbox 2, [.t 0], none⟩,
        ⟨some 3, [], .bbox 3, [.t 1], none⟩,
        ⟨some 4, [], .bnew 4 [(.v (.int .i64 0)), (.v (.int .i64 0)), (.v (.string ⟨#[]⟩)), (.sl .full (some true) []), (.sl .full (some true) [])], [], none⟩,
        ⟨some 5, [], .mv, [.k (.v (.int .i64 0))], none⟩])
      (.seq
        (.reg false [⟨some 6, [], .bld 2 5 true false, [.t 2], none⟩,
          ⟨some 7, [], .bld 3 5 true false, [.t 3], none⟩,
          ⟨some 8, [], .bsl 5, [.t 6, .t 7], none⟩,
          ⟨some 9, [], .call true, [.k (.v (.func (.func 13) #[] #[])), .k (.v (.func (.func 14) #[] #[])), .t 8], none⟩,
          ⟨some 10, [], .ext 0, [.t 9], none⟩,
          ⟨some 11, [], .ext 1, [.t 9], none⟩,
          ⟨none, [], .bst 4 5 false, [.t 4, .t 10], none⟩,
          ⟨some 5, [], .mv, [.t 11], none⟩])
        .ret))
def fn8 : Fn := ⟨2, bd8, [.cell 4 5 true, .slot 5]⟩

/-- ndjq/text.Join -/
def bd9 : C :=
    (.seq
      (.reg false [⟨some 2, [], .bbox 2, [.t 0], none⟩,
        ⟨some 3, [], .bbox 3, [.t 1], none⟩,
        ⟨some 4, [], .bnew 4 [(.v (.int .i64 0)), (.v (.int .i64 0)), (.v (.string ⟨#[]⟩)), (.sl .full (some true) []), (.sl .full (some true) [])], [], none⟩,
        ⟨some 5, [], .mv, [.k (.v (.int .i64 0))], none⟩])
      (.seq
        (.reg false [⟨some 6, [], .bld 2 5 true false, [.t 2], none⟩,
          ⟨some 7, [], .bld 3 5 true false, [.t 3], none⟩,
          ⟨some 8, [], .bsl 5, [.t 6, .t 7], none⟩,
          ⟨some 9, [], .call true, [.k (.v (.func (.func 13) #[] #[])), .k (.v (.func (.func 16) #[] #[])), .t 8], none⟩,
          ⟨some 10, [], .ext 0, [.t 9], none⟩,
          ⟨some 11, [], .ext 1, [.t 9], none⟩,
          ⟨none, [], .bst 4 5 false, [.t 4, .t 10], none⟩,
          ⟨some 5, [], .mv, [.t 11], none⟩])
        .ret))
def fn9 : Fn := ⟨2, bd9, [.cell 4 5 true, .slot 5]⟩

/-- ndjq/text.Indices -/
def bd10 : C :=
    (.seq
      (.reg false [⟨some 2, [], .bbox 2, [.t 0], none⟩,
        ⟨some 3, [], .bbox 3, [.t 1], none⟩,
        ⟨some 4, [], .bnew 4 [(.v (.int .i64 0)), (.v (.int .i64 0)), (.v (.string ⟨#[]⟩)), (.sl .full (some true) []), (.sl .full (some true) [])], [], none⟩,
        ⟨some 5, [], .mv, [.k (.v (.int .i64 0))], none⟩])
      (.seq
        (.reg false [⟨some 6, [], .bld 2 5 true false, [.t 2], none⟩,
          ⟨some 7, [], .bld 3 5 true false, [.t 3], none⟩,
          ⟨some 8, [], .bsl 5, [.t 6, .t 7], none⟩,
          ⟨some 9, [], .call true, [.k (.v (.func (.func 13) #[] #[])), .k (.v (.func (.func 18) #[] #[])), .t 8], none⟩,
          ⟨some 10, [], .ext 0, [.t 9], none⟩,
          ⟨some 11, [], .ext 1, [.t 9], none⟩,
          ⟨none, [], .bst 4 5 false, [.t 4, .t 10], none⟩,
          ⟨some 5, [], .mv, [.t 11], none⟩])
        .ret))
def fn10 : Fn := ⟨2, bd10, [.cell 4 5 true, .slot 5]⟩

/-- ndjq/vals.Valid -/
def bd11 : C :=
    (.seq
      (.reg false [⟨some 1, [], .bbox 1, [.t 0], none⟩,
        ⟨some 2, [], .mv, [.k (.v (.bool false))], none⟩])
      (.seq
        (.reg false [⟨some 3, [], .gnew [(.v (.int .i64 0)), (.v (.int .i64 0))], [], none⟩,
          ⟨some 4, [], .bld 1 5 true false, [.t 1], none⟩,
          ⟨some 5, [], .call false, [.k (.v (.func (.func 20) #[] #[])), .t 3, .t 4, .k (.v (.int .i64 0)), .k (.v (.bool true))], none⟩,
          ⟨some 2, [], .mv, [.t 5], none⟩])
        .ret))
def fn11 : Fn := ⟨1, bd11, [.slot 2]⟩

/-- ndjq/text.CutPrefix -/
def bd12 : C :=
    (.seq
      (.reg false [⟨some 2, [], .bbox 2, [.t 0], none⟩,
        ⟨some 3, [], .bbox 3, [.t 1], none⟩,
        ⟨some 4, [], .bnew 4 [(.v (.int .i64 0)), (.v (.int .i64 0)), (.v (.string ⟨#[]⟩)), (.sl .full (some true) []), (.sl .full (some true) [])], [], none⟩,
        ⟨some 5, [], .mv, [.k (.v (.int .i64 0))], none⟩])
      (.seq
        (.reg false [⟨some 6, [], .bld 2 5 true false, [.t 2], none⟩,
          ⟨some 7, [], .bld 3 5 true false, [.t 3], none⟩,
          ⟨some 8, [], .bsl 5, [.t 6, .t 7], none⟩,
          ⟨some 9, [], .call true, [.k (.v (.func (.func 13) #[] #[])), .k (.v (.func (.func 21) #[] #[])), .t 8], none⟩,
          ⟨some 10, [], .ext 0, [.t 9], none⟩,
          ⟨some 11, [], .ext 1, [.t 9], none⟩,
          ⟨none, [], .bst 4 5 false, [.t 4, .t 10], none⟩,
          ⟨some 5, [], .mv, [.t 11], none⟩])
        .ret))
def fn12 : Fn := ⟨2, bd12, [.cell 4 5 true, .slot 5]⟩

/-- ndjq/text.apply -/
def bd13 : C :=
    (.seq
      (.reg false [⟨some 4, [], .bnew 4 [(.v (.int .i64 0)), (.v (.int .i64 0)), (.v (.string ⟨#[]⟩)), (.sl .full (some true) []), (.sl .full (some true) [])], [], none⟩,
        ⟨some 5, [], .mv, [.k (.v (.int .i64 0))], none⟩])
      (.seq
        (.seq
          (.reg false [⟨some 8, [], .mv, [.t 1], none⟩,
            ⟨some 9, [], .call true, [.k (.v (.func (.func 23) #[] #[])), .t 8], none⟩,
            ⟨some 10, [], .un .not, [.t 9], none⟩])
          (.cond (.t 10)
            (.seq
              (.reg false [⟨some 11, [], .build [(.v (.int .i64 0)), (.v (.int .i64 0)), (.v (.string ⟨#[]⟩)), (.sl .full (some true) []), (.sl .full (some true) [])] [], [], none⟩,
                ⟨none, [], .bst 4 5 false, [.t 4, .t 11], none⟩,
                ⟨some 5, [], .mv, [.k (.v (.int .i64 1))], none⟩])
              .ret)
            .skip))
        (.seq
          (.reg false [⟨some 13, [], .mv, [.t 0], none⟩,
            ⟨some 14, [], .mv, [.t 1], none⟩,
            ⟨some 15, [], .call true, [.t 13, .t 14], none⟩,
            ⟨some 12, [], .mv, [.t 15], none⟩,
            ⟨some 16, [], .ext 0, [.t 12], none⟩,
            ⟨some 17, [], .ext 1, [.t 12], none⟩,
            ⟨some 6, [], .bnew 6 [(.v (.int .i64 0)), (.v (.int .i64 0)), (.v (.string ⟨#[]⟩)), (.sl .full (some true) []), (.sl .full (some true) [])], [], none⟩,
            ⟨none, [], .bst 6 5 false, [.t 6, .t 16], none⟩,
            ⟨some 7, [], .mv, [.t 17], none⟩])
          (.seq
            (.reg false [⟨some 18, [], .bld 6 5 true false, [.t 6], none⟩,
              ⟨some 19, [], .call true, [.k (.v (.func (.func 24) #[] #[])), .t 18], none⟩,
              ⟨some 20, [], .mv, [.t 7], none⟩,
              ⟨none, [], .bst 4 5 false, [.t 4, .t 19], none⟩,
              ⟨some 5, [], .mv, [.t 20], none⟩])
            .ret))))
def fn13 : Fn := ⟨2, bd13, [.cell 4 5 true, .slot 5]⟩

/-- ndjq/text.Split$1 -/
def bd14 : C :=
    (.seq
      (.reg false [⟨some 2, [], .bnew 2 [(.v (.int .i64 0)), (.v (.int .i64 0)), (.v (.string ⟨#[]⟩)), (.sl .full (some true) []), (.sl .full (some true) [])], [], none⟩,
        ⟨some 3, [], .mv, [.k (.v (.int .i64 0))], none⟩])
      (.seq
        (.reg true [⟨some 4, [], .mv, [.t 0], none⟩,
          ⟨some 5, [], .ia 5, [.t 4, .k (.v (.int .i64 0))], none⟩,
          ⟨some 6, [], .ldel 5 true, [.t 5], none⟩,
          ⟨some 7, [], .mv, [.t 0], none⟩,
          ⟨some 8, [], .ia 5, [.t 7, .k (.v (.int .i64 1))], none⟩,
          ⟨some 9, [], .ldel 5 true, [.t 8], none⟩,
          ⟨some 10, [], .call true, [.k (.v (.func (.func 15) #[] #[])), .t 6, .t 9], none⟩,
          ⟨some 11, [], .ext 0, [.t 10], none⟩,
          ⟨some 12, [], .ext 1, [.t 10], none⟩,
          ⟨none, [], .bst 2 5 false, [.t 2, .t 11], none⟩,
          ⟨some 3, [], .mv, [.t 12], none⟩])
        .ret))
def fn14 : Fn := ⟨1, bd14, [.cell 2 5 true, .slot 3]⟩

/-- ndjq/ops.SplitText -/
def bd15 : C :=
    (.seq
      (.reg false [⟨some 2, [], .bbox 2, [.t 0], none⟩,
        ⟨some 3, [], .bbox 3, [.t 1], none⟩,
        ⟨some 4, [], .bnew 4 [(.v (.int .i64 0)), (.v (.int .i64 0)), (.v (.string ⟨#[]⟩)), (.sl .full (some true) []), (.sl .full (some true) [])], [], none⟩,
        ⟨some 5, [], .mv, [.k (.v (.int .i64 0))], none⟩])
      (.seq
        (.seq
          (.reg false [⟨some 6, [], .fa 0, [.t 2], none⟩,
            ⟨some 7, [], .bld 2 1 false false, [.t 6], none⟩,
            ⟨some 8, [], .bin .neq, [.t 7, .k (.v (.int .i64 4))], none⟩,
            ⟨some 9, [], .mv, [.t 8], none⟩,
            ⟨some 10, [], .fa 0, [.t 3], (some (9, false))⟩,
            ⟨some 11, [], .bld 3 1 false false, [.t 10], (some (9, false))⟩,
            ⟨some 12, [], .bin .neq, [.t 11, .k (.v (.int .i64 4))], (some (9, false))⟩,
            ⟨some 13, [], .pick, [.t 9, .k (.v (.bool true)), .t 12], none⟩])
          (.cond (.t 13)
            (.seq
              (.reg false [⟨some 14, [], .call true, [.k (.v (.func (.func 25) #[] #[]))], none⟩,
                ⟨none, [], .bst 4 5 false, [.t 4, .t 14], none⟩,
                ⟨some 5, [], .mv, [.k (.v (.int .i64 12))], none⟩])
              .ret)
            .skip))
        (.seq
          (.reg false [⟨some 15, [], .bld 2 5 true false, [.t 2], none⟩,
            ⟨some 16, [], .bld 3 5 true false, [.t 3], none⟩,
            ⟨some 17, [], .call true, [.k (.v (.func (.func 26) #[] #[])), .t 15, .t 16], none⟩,
            ⟨some 18, [], .ext 0, [.t 17], none⟩,
            ⟨some 19, [], .ext 1, [.t 17], none⟩,
            ⟨none, [], .bst 4 5 false, [.t 4, .t 18], none⟩,
            ⟨some 5, [], .mv, [.t 19], none⟩])
          .ret)))
def fn15 : Fn := ⟨2, bd15, [.cell 4 5 true, .slot 5]⟩

/-- ndjq/text.Join$1 -/
def bd16 : C :=
    (.seq
      (.reg false [⟨some 2, [], .bnew 2 [(.v (.int .i64 0)), (.v (.int .i64 0)), (.v (.string ⟨#[]⟩)), (.sl .full (some true) []), (.sl .full (some true) [])], [], none⟩,
        ⟨some 3, [], .mv, [.k (.v (.int .i64 0))], none⟩])
      (.seq
        (.reg true [⟨some 4, [], .mv, [.t 0], none⟩,
          ⟨some 5, [], .ia 5, [.t 4, .k (.v (.int .i64 0))], none⟩,
          ⟨some 6, [], .ldel 5 true, [.t 5], none⟩,
          ⟨some 7, [], .mv, [.t 0], none⟩,
          ⟨some 8, [], .ia 5, [.t 7, .k (.v (.int .i64 1))], none⟩,
          ⟨some 9, [], .ldel 5 true, [.t 8], none⟩,
          ⟨some 10, [], .call true, [.k (.v (.func (.func 17) #[] #[])), .t 6, .t 9], none⟩,
          ⟨some 11, [], .ext 0, [.t 10], none⟩,
          ⟨some 12, [], .ext 1, [.t 10], none⟩,
          ⟨none, [], .bst 2 5 false, [.t 2, .t 11], none⟩,
          ⟨some 3, [], .mv, [.t 12], none⟩])
        .ret))
def fn16 : Fn := ⟨1, bd16, [.cell 2 5 true, .slot 3]⟩

def fn17_l1 : C :=
  (.seq
    (.reg false [⟨some 23, [], .bin .lss, [.t 22, .t 21], none⟩])
    (.seq
      (.cond (.t 23)
        .skip
        (.exit 0))
      (.seq
        (.block 1
          (.seq
            (.reg false [⟨some 24, [], .ia 5, [.t 20, .t 22], none⟩,
              ⟨some 25, [], .ldel 5 true, [.t 24], none⟩,
              ⟨some 9, [], .bnew 9 [(.v (.int .i64 0)), (.v (.int .i64 0)), (.v (.string ⟨#[]⟩)), (.sl .full (some true) []), (.sl .full (some true) [])], [], none⟩,
              ⟨none, [], .bst 9 5 false, [.t 9, .t 25], none⟩])
            (.seq
              (.seq
                (.reg false [⟨some 26, [], .fa 0, [.t 9], none⟩,
                  ⟨some 27, [], .bld 9 1 false false, [.t 26], none⟩])
                (.block 2
                  (.seq
                    (.seq
                      (.reg false [⟨some 35, [], .bin .eql, [.t 27, .k (.v (.int .i64 5))], none⟩,
                        ⟨some 34, [], .mv, [.t 35], none⟩])
                      (.cond (.t 34)
                        .skip
                        (.reg false [⟨some 36, [], .bin .eql, [.t 27, .k (.v (.int .i64 6))], none⟩,
                          ⟨some 34, [], .mv, [.t 36], none⟩])))
                    (.cond (.t 34)
                      (.seq
                        (.reg false [⟨some 37, [], .call true, [.k (.v (.func (.func 25) #[] #[]))], none⟩,
                          ⟨none, [], .bst 4 5 false, [.t 4, .t 37], none⟩,
                          ⟨some 5, [], .mv, [.k (.v (.int .i64 12))], none⟩])
                        .ret)
                      (.seq
                        (.reg false [⟨some 39, [], .bin .eql, [.t 27, .k (.v (.int .i64 0))], none⟩,
                          ⟨some 38, [], .mv, [.t 39], none⟩])
                        (.cond (.t 38)
                          (.reg false [⟨some 40, [6], .mvx, [.t 6], none⟩,
                            ⟨some 41, [], .bsl 1, [.k (.v (.string ⟨#[]⟩))], none⟩,
                            ⟨some 42, [40], .app 1 16, [.t 40, .t 41], none⟩,
                            ⟨some 6, [42], .mvx, [.t 42], none⟩])
                          (.seq
                            (.reg false [⟨some 44, [], .bin .eql, [.t 27, .k (.v (.int .i64 4))], none⟩,
                              ⟨some 43, [], .mv, [.t 44], none⟩])
                            (.cond (.t 43)
                              (.reg false [⟨some 45, [6], .mvx, [.t 6], none⟩,
                                ⟨some 46, [], .fa 2, [.t 9], none⟩,
                                ⟨some 47, [], .bld 9 1 false false, [.t 46], none⟩,
                                ⟨some 48, [], .bsl 1, [.t 47], none⟩,
                                ⟨some 49, [45], .app 1 16, [.t 45, .t 48], none⟩,
                                ⟨some 6, [49], .mvx, [.t 49], none⟩])
                              (.reg false [⟨some 28, [6], .mvx, [.t 6], none⟩,
                                ⟨some 29, [], .bld 9 5 true false, [.t 9], none⟩,
                                ⟨some 30, [], .call true, [.k (.v (.func (.func 27) #[] #[])), .k (.sl .full (some true) []), .t 29], none⟩,
                                ⟨some 31, [], .b2s, [.t 30], none⟩,
                                ⟨some 32, [], .bsl 1, [.t 31], none⟩,
                                ⟨some 33, [28], .app 1 16, [.t 28, .t 32], none⟩,
                                ⟨some 6, [33], .mvx, [.t 33], none⟩])))))))))
              (.reg false [⟨some 50, [], .mv, [.t 7], none⟩,
                ⟨some 51, [], .mv, [.t 6], none⟩,
                ⟨some 52, [], .mv, [.t 6], none⟩,
                ⟨some 53, [], .len, [.t 52], none⟩,
                ⟨some 54, [], .bin .sub, [.t 53, .k (.v (.int .i64 1))], none⟩,
                ⟨some 55, [], .ia 1, [.t 51, .t 54], none⟩,
                ⟨some 56, [], .ldel 1 false, [.t 55], none⟩,
                ⟨some 57, [], .slen, [.t 56], none⟩,
                ⟨some 58, [], .bin .add, [.t 50, .t 57], none⟩,
                ⟨some 7, [], .mv, [.t 58], none⟩]))))
        (.reg false [⟨some 59, [], .bin .add, [.t 22, .k (.v (.int .i64 1))], none⟩,
          ⟨some 22, [], .mv, [.t 59], none⟩]))))
/-- ndjq/ops.Join -/
def bd17 : C :=
    (.seq
      (.reg false [⟨some 2, [], .bbox 2, [.t 0], none⟩,
        ⟨some 3, [], .bbox 3, [.t 1], none⟩,
        ⟨some 4, [], .bnew 4 [(.v (.int .i64 0)), (.v (.int .i64 0)), (.v (.string ⟨#[]⟩)), (.sl .full (some true) []), (.sl .full (some true) [])], [], none⟩,
        ⟨some 5, [], .mv, [.k (.v (.int .i64 0))], none⟩])
      (.seq
        (.seq
          (.reg false [⟨some 10, [], .fa 0, [.t 2], none⟩,
            ⟨some 11, [], .bld 2 1 false false, [.t 10], none⟩,
            ⟨some 12, [], .bin .neq, [.t 11, .k (.v (.int .i64 5))], none⟩,
            ⟨some 13, [], .mv, [.t 12], none⟩,
            ⟨some 14, [], .fa 0, [.t 3], (some (13, false))⟩,
            ⟨some 15, [], .bld 3 1 false false, [.t 14], (some (13, false))⟩,
            ⟨some 16, [], .bin .neq, [.t 15, .k (.v (.int .i64 4))], (some (13, false))⟩,
            ⟨some 17, [], .pick, [.t 13, .k (.v (.bool true)), .t 16], none⟩])
          (.cond (.t 17)
            (.seq
              (.reg false [⟨some 18, [], .call true, [.k (.v (.func (.func 25) #[] #[]))], none⟩,
                ⟨none, [], .bst 4 5 false, [.t 4, .t 18], none⟩,
                ⟨some 5, [], .mv, [.k (.v (.int .i64 12))], none⟩])
              .ret)
            .skip))
        (.seq
          (.reg false [⟨some 6, [], .mv, [.k (.sl .full (some true) [])], none⟩])
          (.seq
            (.reg false [⟨some 7, [], .mv, [.k (.v (.int .i64 0))], none⟩])
            (.seq
              (.seq
                (.reg false [⟨some 19, [], .fa 4, [.t 2], none⟩,
                  ⟨some 20, [], .bld 2 1 false false, [.t 19], none⟩,
                  ⟨some 21, [], .len, [.t 20], none⟩,
                  ⟨some 22, [], .mv, [.k (.v (.int .i64 0))], none⟩])
                (.block 0
                  (.loop fn17_l1)))
              (.seq
                (.seq
                  (.reg false [⟨some 60, [], .mv, [.t 7], none⟩,
                    ⟨some 61, [], .fa 2, [.t 3], none⟩,
                    ⟨some 62, [], .bld 3 1 false false, [.t 61], none⟩,
                    ⟨some 63, [], .slen, [.t 62], none⟩,
                    ⟨some 64, [], .mv, [.t 6], none⟩,
                    ⟨some 65, [], .len, [.t 64], none⟩,
                    ⟨some 66, [], .bin .sub, [.t 65, .k (.v (.int .i64 1))], none⟩,
                    ⟨some 67, [], .mx, [.t 66, .k (.v (.int .i64 0))], none⟩,
                    ⟨some 68, [], .bin .mul, [.t 63, .t 67], none⟩,
                    ⟨some 69, [], .bin .add, [.t 60, .t 68], none⟩,
                    ⟨some 70, [], .bin .gtr, [.t 69, .k (.v (.int .i64 4096))], none⟩])
                  (.cond (.t 70)
                    (.seq
                      (.reg false [⟨some 71, [], .call true, [.k (.v (.func (.func 25) #[] #[]))], none⟩,
                        ⟨none, [], .bst 4 5 false, [.t 4, .t 71], none⟩,
                        ⟨some 5, [], .mv, [.k (.v (.int .i64 2))], none⟩])
                      .ret)
                    .skip))
                (.seq
                  (.reg false [⟨some 72, [], .mv, [.t 6], none⟩,
                    ⟨some 73, [], .fa 2, [.t 3], none⟩,
                    ⟨some 74, [], .bld 3 1 false false, [.t 73], none⟩,
                    ⟨some 75, [], .call true, [.k (.v (.func (.func 29) #[] #[])), .t 72, .t 74], none⟩,
                    ⟨some 76, [], .call true, [.k (.v (.func (.func 28) #[] #[])), .t 75], none⟩,
                    ⟨some 77, [], .ext 0, [.t 76], none⟩,
                    ⟨some 78, [], .ext 1, [.t 76], none⟩,
                    ⟨none, [], .bst 4 5 false, [.t 4, .t 77], none⟩,
                    ⟨some 5, [], .mv, [.t 78], none⟩])
                  .ret)))))))
def fn17 : Fn := ⟨2, bd17, [.cell 4 5 true, .slot 5]⟩

/-- ndjq/text.Indices$1 -/
def bd18 : C :=
    (.seq
      (.reg false [⟨some 2, [], .bnew 2 [(.v (.int .i64 0)), (.v (.int .i64 0)), (.v (.string ⟨#[]⟩)), (.sl .full (some true) []), (.sl .full (some true) [])], [], none⟩,
        ⟨some 3, [], .mv, [.k (.v (.int .i64 0))], none⟩])
      (.seq
        (.reg true [⟨some 4, [], .mv, [.t 0], none⟩,
          ⟨some 5, [], .ia 5, [.t 4, .k (.v (.int .i64 0))], none⟩,
          ⟨some 6, [], .ldel 5 true, [.t 5], none⟩,
          ⟨some 7, [], .mv, [.t 0], none⟩,
          ⟨some 8, [], .ia 5, [.t 7, .k (.v (.int .i64 1))], none⟩,
          ⟨some 9, [], .ldel 5 true, [.t 8], none⟩,
          ⟨some 10, [], .call true, [.k (.v (.func (.func 19) #[] #[])), .t 6, .t 9], none⟩,
          ⟨some 11, [], .ext 0, [.t 10], none⟩,
          ⟨some 12, [], .ext 1, [.t 10], none⟩,
          ⟨none, [], .bst 2 5 false, [.t 2, .t 11], none⟩,
          ⟨some 3, [], .mv, [.t 12], none⟩])
        .ret))
def fn18 : Fn := ⟨1, bd18, [.cell 2 5 true, .slot 3]⟩

def fn19_l1 : C :=
  (.seq
    (.seq
      (.reg false [⟨some 56, [], .mv, [.t 7], none⟩,
        ⟨some 57, [], .fa 2, [.t 2], none⟩,
        ⟨some 58, [], .bld 2 1 false false, [.t 57], none⟩,
        ⟨some 59, [], .slen, [.t 58], none⟩,
        ⟨some 60, [], .bin .lss, [.t 56, .t 59], none⟩])
      (.cond (.t 60)
        .skip
        (.exit 3)))
    (.seq
      (.block 4
        (.seq
          (.seq
            (.reg true [⟨some 63, [], .fa 2, [.t 2], none⟩,
              ⟨some 64, [], .bld 2 1 false false, [.t 63], none⟩,
              ⟨some 65, [], .mv, [.t 7], none⟩,
              ⟨some 66, [], .sslice true false, [.t 64, .t 65], none⟩,
              ⟨some 67, [], .fa 2, [.t 3], none⟩,
              ⟨some 68, [], .bld 3 1 false false, [.t 67], none⟩,
              ⟨some 69, [], .call true, [.k (.v (.func (.func 30) #[] #[])), .t 66, .t 68], none⟩])
            (.cond (.t 69)
              (.reg false [⟨some 70, [6], .mvx, [.t 6], none⟩,
                ⟨some 71, [], .mv, [.t 8], none⟩,
                ⟨some 72, [], .call true, [.k (.v (.func (.func 31) #[] #[])), .t 71], none⟩,
                ⟨some 73, [], .bsl 5, [.t 72], none⟩,
                ⟨some 74, [70], .app 5 80, [.t 70, .t 73], none⟩,
                ⟨some 6, [74], .mvx, [.t 74], none⟩])
              .skip))
          (.seq
            (.reg false [⟨some 76, [], .fa 2, [.t 2], none⟩,
              ⟨some 77, [], .bld 2 1 false false, [.t 76], none⟩,
              ⟨some 78, [], .mv, [.t 7], none⟩,
              ⟨some 79, [], .call true, [.k (.v (.func (.func 32) #[] #[])), .t 77, .t 78], none⟩,
              ⟨some 75, [], .mv, [.t 79], none⟩,
              ⟨some 80, [], .ext 0, [.t 75], none⟩,
              ⟨some 81, [], .ext 1, [.t 75], none⟩,
              ⟨some 82, [], .ext 2, [.t 75], none⟩,
              ⟨some 9, [], .mv, [.t 80], none⟩,
              ⟨some 10, [], .mv, [.t 81], none⟩,
              ⟨some 11, [], .mv, [.t 82], none⟩])
            (.reg false [⟨some 83, [], .mv, [.t 7], none⟩,
              ⟨some 84, [], .mv, [.t 10], none⟩,
              ⟨some 85, [], .bin .add, [.t 83, .t 84], none⟩,
              ⟨some 7, [], .mv, [.t 85], none⟩]))))
      (.reg false [⟨some 61, [], .mv, [.t 8], none⟩,
        ⟨some 62, [], .bin .add, [.t 61, .k (.v (.int .i64 1))], none⟩,
        ⟨some 8, [], .mv, [.t 62], none⟩])))
def fn19_l2 : C :=
  (.seq
    (.reg false [⟨some 99, [], .bin .lss, [.t 98, .t 97], none⟩])
    (.seq
      (.cond (.t 99)
        .skip
        (.exit 5))
      (.seq
        (.block 6
          (.seq
            (.reg false [⟨some 100, [], .mv, [.t 98], none⟩,
              ⟨some 101, [], .ia 5, [.t 96, .t 98], none⟩,
              ⟨some 102, [], .ldel 5 true, [.t 101], none⟩,
              ⟨some 13, [], .bnew 13 [(.v (.int .i64 0)), (.v (.int .i64 0)), (.v (.string ⟨#[]⟩)), (.sl .full (some true) []), (.sl .full (some true) [])], [], none⟩,
              ⟨some 12, [], .mv, [.t 100], none⟩,
              ⟨none, [], .bst 13 5 false, [.t 13, .t 102], none⟩])
            (.seq
              (.reg false [⟨some 103, [], .bld 13 5 true false, [.t 13], none⟩,
                ⟨some 104, [], .bld 3 5 true false, [.t 3], none⟩,
                ⟨some 105, [], .call true, [.k (.v (.func (.func 33) #[] #[])), .t 103, .t 104], none⟩])
              (.cond (.t 105)
                (.reg false [⟨some 106, [6], .mvx, [.t 6], none⟩,
                  ⟨some 107, [], .mv, [.t 12], none⟩,
                  ⟨some 108, [], .call true, [.k (.v (.func (.func 31) #[] #[])), .t 107], none⟩,
                  ⟨some 109, [], .bsl 5, [.t 108], none⟩,
                  ⟨some 110, [106], .app 5 80, [.t 106, .t 109], none⟩,
                  ⟨some 6, [110], .mvx, [.t 110], none⟩])
                .skip))))
        (.reg false [⟨some 111, [], .bin .add, [.t 98, .k (.v (.int .i64 1))], none⟩,
          ⟨some 98, [], .mv, [.t 111], none⟩]))))
def fn19_l3 : C :=
  (.seq
    (.seq
      (.reg false [⟨some 15, [], .mv, [.t 14], none⟩,
        ⟨some 16, [], .fa 4, [.t 3], none⟩,
        ⟨some 17, [], .bld 3 1 false false, [.t 16], none⟩,
        ⟨some 18, [], .len, [.t 17], none⟩,
        ⟨some 19, [], .bin .add, [.t 15, .t 18], none⟩,
        ⟨some 20, [], .fa 4, [.t 2], none⟩,
        ⟨some 21, [], .bld 2 1 false false, [.t 20], none⟩,
        ⟨some 22, [], .len, [.t 21], none⟩,
        ⟨some 23, [], .bin .leq, [.t 19, .t 22], none⟩])
      (.cond (.t 23)
        .skip
        (.exit 1)))
    (.seq
      (.block 2
        (.seq
          (.reg true [⟨some 26, [], .fa 4, [.t 2], none⟩,
            ⟨some 27, [], .bld 2 1 false false, [.t 26], none⟩,
            ⟨some 28, [], .mv, [.t 14], none⟩,
            ⟨some 29, [], .mv, [.t 14], none⟩,
            ⟨some 30, [], .fa 4, [.t 3], none⟩,
            ⟨some 31, [], .bld 3 1 false false, [.t 30], none⟩,
            ⟨some 32, [], .len, [.t 31], none⟩,
            ⟨some 33, [], .bin .add, [.t 29, .t 32], none⟩,
            ⟨some 34, [], .slice 5 true true false, [.t 27, .t 28, .t 33], none⟩,
            ⟨some 35, [], .call true, [.k (.v (.func (.func 34) #[] #[])), .t 34], none⟩,
            ⟨some 36, [], .bld 3 5 true false, [.t 3], none⟩,
            ⟨some 37, [], .call true, [.k (.v (.func (.func 33) #[] #[])), .t 35, .t 36], none⟩])
          (.cond (.t 37)
            (.reg false [⟨some 38, [6], .mvx, [.t 6], none⟩,
              ⟨some 39, [], .mv, [.t 14], none⟩,
              ⟨some 40, [], .call true, [.k (.v (.func (.func 31) #[] #[])), .t 39], none⟩,
              ⟨some 41, [], .bsl 5, [.t 40], none⟩,
              ⟨some 42, [38], .app 5 80, [.t 38, .t 41], none⟩,
              ⟨some 6, [42], .mvx, [.t 42], none⟩])
            .skip)))
      (.reg false [⟨some 24, [], .mv, [.t 14], none⟩,
        ⟨some 25, [], .bin .add, [.t 24, .k (.v (.int .i64 1))], none⟩,
        ⟨some 14, [], .mv, [.t 25], none⟩])))
/-- ndjq/ops.Indices -/
def bd19 : C :=
    (.seq
      (.reg false [⟨some 2, [], .bbox 2, [.t 0], none⟩,
        ⟨some 3, [], .bbox 3, [.t 1], none⟩,
        ⟨some 4, [], .bnew 4 [(.v (.int .i64 0)), (.v (.int .i64 0)), (.v (.string ⟨#[]⟩)), (.sl .full (some true) []), (.sl .full (some true) [])], [], none⟩,
        ⟨some 5, [], .mv, [.k (.v (.int .i64 0))], none⟩])
      (.seq
        (.reg false [⟨some 6, [], .mv, [.k (.sl .full (some true) [])], none⟩])
        (.seq
          (.block 0
            (.seq
              (.reg false [⟨some 44, [], .fa 0, [.t 2], none⟩,
                ⟨some 45, [], .bld 2 1 false false, [.t 44], none⟩,
                ⟨some 46, [], .bin .eql, [.t 45, .k (.v (.int .i64 4))], none⟩,
                ⟨some 47, [], .mv, [.t 46], none⟩,
                ⟨some 48, [], .fa 0, [.t 3], (some (47, true))⟩,
                ⟨some 49, [], .bld 3 1 false false, [.t 48], (some (47, true))⟩,
                ⟨some 50, [], .bin .eql, [.t 49, .k (.v (.int .i64 4))], (some (47, true))⟩,
                ⟨some 51, [], .pick, [.t 47, .t 50, .k (.v (.bool false))], none⟩,
                ⟨some 43, [], .mv, [.t 51], none⟩])
              (.cond (.t 43)
                (.seq
                  (.seq
                    (.reg false [⟨some 52, [], .fa 2, [.t 3], none⟩,
                      ⟨some 53, [], .bld 3 1 false false, [.t 52], none⟩,
                      ⟨some 54, [], .bin .eql, [.t 53, .k (.v (.string ⟨#[]⟩))], none⟩])
                    (.cond (.t 54)
                      (.seq
                        (.reg false [⟨some 55, [], .call true, [.k (.v (.func (.func 25) #[] #[]))], none⟩,
                          ⟨none, [], .bst 4 5 false, [.t 4, .t 55], none⟩,
                          ⟨some 5, [], .mv, [.k (.v (.int .i64 0))], none⟩])
                        .ret)
                      .skip))
                  (.seq
                    (.reg false [⟨some 7, [], .mv, [.k (.v (.int .i64 0))], none⟩,
                      ⟨some 8, [], .mv, [.k (.v (.int .i64 0))], none⟩])
                    (.block 3
                      (.loop fn19_l1))))
                (.seq
                  (.reg false [⟨some 87, [], .fa 0, [.t 2], none⟩,
                    ⟨some 88, [], .bld 2 1 false false, [.t 87], none⟩,
                    ⟨some 89, [], .bin .neq, [.t 88, .k (.v (.int .i64 5))], none⟩,
                    ⟨some 86, [], .mv, [.t 89], none⟩])
                  (.cond (.t 86)
                    (.seq
                      (.reg false [⟨some 90, [], .call true, [.k (.v (.func (.func 25) #[] #[]))], none⟩,
                        ⟨none, [], .bst 4 5 false, [.t 4, .t 90], none⟩,
                        ⟨some 5, [], .mv, [.k (.v (.int .i64 12))], none⟩])
                      .ret)
                    (.seq
                      (.reg false [⟨some 92, [], .fa 0, [.t 3], none⟩,
                        ⟨some 93, [], .bld 3 1 false false, [.t 92], none⟩,
                        ⟨some 94, [], .bin .neq, [.t 93, .k (.v (.int .i64 5))], none⟩,
                        ⟨some 91, [], .mv, [.t 94], none⟩])
                      (.cond (.t 91)
                        (.seq
                          (.reg false [⟨some 95, [], .fa 4, [.t 2], none⟩,
                            ⟨some 96, [], .bld 2 1 false false, [.t 95], none⟩,
                            ⟨some 97, [], .len, [.t 96], none⟩,
                            ⟨some 98, [], .mv, [.k (.v (.int .i64 0))], none⟩])
                          (.block 5
                            (.loop fn19_l2)))
                        (.seq
                          (.reg false [⟨some 113, [], .fa 4, [.t 3], none⟩,
                            ⟨some 114, [], .bld 3 1 false false, [.t 113], none⟩,
                            ⟨some 115, [], .len, [.t 114], none⟩,
                            ⟨some 116, [], .bin .eql, [.t 115, .k (.v (.int .i64 0))], none⟩,
                            ⟨some 112, [], .mv, [.t 116], none⟩])
                          (.cond (.t 112)
                            (.seq
                              (.reg false [⟨some 117, [], .call true, [.k (.v (.func (.func 25) #[] #[]))], none⟩,
                                ⟨none, [], .bst 4 5 false, [.t 4, .t 117], none⟩,
                                ⟨some 5, [], .mv, [.k (.v (.int .i64 0))], none⟩])
                              .ret)
                            (.seq
                              (.reg false [⟨some 14, [], .mv, [.k (.v (.int .i64 0))], none⟩])
                              (.block 1
                                (.loop fn19_l3))))))))))))
          (.seq
            (.reg false [⟨some 118, [], .mv, [.t 6], none⟩,
              ⟨some 119, [], .call true, [.k (.v (.func (.func 34) #[] #[])), .t 118], none⟩,
              ⟨some 120, [], .call true, [.k (.v (.func (.func 35) #[] #[])), .t 119], none⟩,
              ⟨some 121, [], .ext 0, [.t 120], none⟩,
              ⟨some 122, [], .ext 1, [.t 120], none⟩,
              ⟨none, [], .bst 4 5 false, [.t 4, .t 121], none⟩,
              ⟨some 5, [], .mv, [.t 122], none⟩])
            .ret))))
def fn19 : Fn := ⟨2, bd19, [.cell 4 5 true, .slot 5]⟩

def fn20_l1 : C :=
  (.seq
    (.reg false [⟨some 66, [], .bin .lss, [.t 65, .t 64], none⟩])
    (.seq
      (.cond (.t 66)
        .skip
        (.exit 0))
      (.seq
        (.block 1
          (.seq
            (.reg false [⟨some 67, [], .ia 1, [.t 63, .t 65], none⟩,
              ⟨some 68, [], .ldel 1 false, [.t 67], none⟩,
              ⟨some 10, [], .mv, [.t 68], none⟩])
            (.reg false [⟨some 69, [], .mv, [.t 0], none⟩,
              ⟨some 70, [], .nchk, [.t 69], none⟩,
              ⟨some 71, [], .fa 1, [.t 70], none⟩,
              ⟨some 72, [], .gld 1 false false, [.t 71], none⟩,
              ⟨some 73, [], .mv, [.t 10], none⟩,
              ⟨some 74, [], .slen, [.t 73], none⟩,
              ⟨some 75, [], .bin .add, [.t 72, .t 74], none⟩,
              ⟨some 76, [], .nchk, [.t 69], none⟩,
              ⟨some 77, [], .fa 1, [.t 76], none⟩,
              ⟨none, [], .gst 1 false, [.t 77, .t 75], none⟩])))
        (.reg false [⟨some 78, [], .bin .add, [.t 65, .k (.v (.int .i64 1))], none⟩,
          ⟨some 65, [], .mv, [.t 78], none⟩]))))
def fn20_l2 : C :=
  (.seq
    (.reg false [⟨some 99, [], .bin .lss, [.t 98, .t 97], none⟩])
    (.seq
      (.cond (.t 99)
        .skip
        (.exit 2))
      (.seq
        (.block 3
          (.seq
            (.reg false [⟨some 100, [], .ia 5, [.t 96, .t 98], none⟩,
              ⟨some 101, [], .ldel 5 true, [.t 100], none⟩,
              ⟨some 12, [], .bnew 12 [(.v (.int .i64 0)), (.v (.int .i64 0)), (.v (.string ⟨#[]⟩)), (.sl .full (some true) []), (.sl .full (some true) [])], [], none⟩,
              ⟨none, [], .bst 12 5 false, [.t 12, .t 101], none⟩])
            (.seq
              (.reg false [⟨some 102, [], .mv, [.t 0], none⟩,
                ⟨some 103, [], .bld 12 5 true false, [.t 12], none⟩,
                ⟨some 104, [], .mv, [.t 2], none⟩,
                ⟨some 105, [], .bin .add, [.t 104, .k (.v (.int .i64 1))], none⟩,
                ⟨some 106, [], .mv, [.t 3], none⟩,
                ⟨some 107, [], .call false, [.k (.v (.func (.func 20) #[] #[])), .t 102, .t 103, .t 105, .t 106], none⟩,
                ⟨some 108, [], .un .not, [.t 107], none⟩])
              (.cond (.t 108)
                (.seq
                  (.reg false [⟨some 8, [], .mv, [.k (.v (.bool false))], none⟩])
                  .ret)
                .skip))))
        (.reg false [⟨some 109, [], .bin .add, [.t 98, .k (.v (.int .i64 1))], none⟩,
          ⟨some 98, [], .mv, [.t 109], none⟩]))))
/-- (*ndjq/vals.meter).fits -/
def bd20 : C :=
    (.seq
      (.reg false [⟨some 5, [], .bbox 5, [.t 1], none⟩,
        ⟨some 8, [], .mv, [.k (.v (.bool false))], none⟩])
      (.seq
        (.reg false [⟨some 13, [], .mv, [.t 0], none⟩,
          ⟨some 14, [], .nchk, [.t 13], none⟩,
          ⟨some 15, [], .fa 0, [.t 14], none⟩,
          ⟨some 16, [], .gld 1 false false, [.t 15], none⟩,
          ⟨some 17, [], .bin .add, [.t 16, .k (.v (.int .i64 1))], none⟩,
          ⟨some 18, [], .nchk, [.t 13], none⟩,
          ⟨some 19, [], .fa 0, [.t 18], none⟩,
          ⟨none, [], .gst 1 false, [.t 19, .t 17], none⟩])
        (.seq
          (.seq
            (.reg false [⟨some 20, [], .mv, [.t 0], none⟩,
              ⟨some 21, [], .nchk, [.t 20], none⟩,
              ⟨some 22, [], .fa 0, [.t 21], none⟩,
              ⟨some 23, [], .gld 1 false false, [.t 22], none⟩,
              ⟨some 24, [], .bin .gtr, [.t 23, .k (.v (.int .i64 4096))], none⟩,
              ⟨some 25, [], .mv, [.t 24], none⟩,
              ⟨some 26, [], .fa 0, [.t 5], (some (25, false))⟩,
              ⟨some 27, [], .bld 5 1 false false, [.t 26], (some (25, false))⟩,
              ⟨some 28, [], .bin .lss, [.t 27, .k (.v (.int .i64 0))], (some (25, false))⟩,
              ⟨some 29, [], .pick, [.t 25, .k (.v (.bool true)), .t 28], none⟩,
              ⟨some 30, [], .mv, [.t 29], none⟩,
              ⟨some 31, [], .fa 0, [.t 5], (some (30, false))⟩,
              ⟨some 32, [], .bld 5 1 false false, [.t 31], (some (30, false))⟩,
              ⟨some 33, [], .bin .gtr, [.t 32, .k (.v (.int .i64 6))], (some (30, false))⟩,
              ⟨some 34, [], .pick, [.t 30, .k (.v (.bool true)), .t 33], none⟩])
            (.cond (.t 34)
              (.seq
                (.reg false [⟨some 8, [], .mv, [.k (.v (.bool false))], none⟩])
                .ret)
              .skip))
          (.seq
            (.seq
              (.reg false [⟨some 35, [], .fa 0, [.t 5], none⟩,
                ⟨some 36, [], .bld 5 1 false false, [.t 35], none⟩,
                ⟨some 37, [], .bin .eql, [.t 36, .k (.v (.int .i64 4))], none⟩,
                ⟨some 38, [], .mv, [.t 37], none⟩,
                ⟨some 39, [], .fa 2, [.t 5], (some (38, true))⟩,
                ⟨some 40, [], .bld 5 1 false false, [.t 39], (some (38, true))⟩,
                ⟨some 41, [], .slen, [.t 40], (some (38, true))⟩,
                ⟨some 42, [], .bin .gtr, [.t 41, .k (.v (.int .i64 4096))], (some (38, true))⟩,
                ⟨some 43, [], .pick, [.t 38, .t 42, .k (.v (.bool false))], none⟩,
                ⟨some 44, [], .mv, [.t 43], none⟩,
                ⟨some 45, [], .mv, [.t 3], (some (44, false))⟩,
                ⟨some 46, [], .mv, [.t 45], (some (44, false))⟩,
                ⟨some 47, [], .bld 5 5 true false, [.t 5], (some (46, true))⟩,
                ⟨some 48, [], .call true, [.k (.v (.func (.func 36) #[] #[])), .t 47], (some (46, true))⟩,
                ⟨some 49, [], .un .not, [.t 48], (some (46, true))⟩,
                ⟨some 50, [], .pick, [.t 46, .t 49, .k (.v (.bool false))], (some (44, false))⟩,
                ⟨some 51, [], .pick, [.t 44, .k (.v (.bool true)), .t 50], none⟩])
              (.cond (.t 51)
                (.seq
                  (.reg false [⟨some 8, [], .mv, [.k (.v (.bool false))], none⟩])
                  .ret)
                .skip))
            (.seq
              (.reg true [⟨some 52, [], .mv, [.t 0], none⟩,
                ⟨some 53, [], .nchk, [.t 52], none⟩,
                ⟨some 54, [], .fa 1, [.t 53], none⟩,
                ⟨some 55, [], .gld 1 false false, [.t 54], none⟩,
                ⟨some 56, [], .fa 2, [.t 5], none⟩,
                ⟨some 57, [], .bld 5 1 false false, [.t 56], none⟩,
                ⟨some 58, [], .slen, [.t 57], none⟩,
                ⟨some 59, [], .bin .add, [.t 55, .t 58], none⟩,
                ⟨some 60, [], .nchk, [.t 52], none⟩,
                ⟨some 61, [], .fa 1, [.t 60], none⟩,
                ⟨none, [], .gst 1 false, [.t 61, .t 59], none⟩])
              (.seq
                (.seq
                  (.reg false [⟨some 62, [], .fa 3, [.t 5], none⟩,
                    ⟨some 63, [], .bld 5 1 false false, [.t 62], none⟩,
                    ⟨some 64, [], .len, [.t 63], none⟩,
                    ⟨some 65, [], .mv, [.k (.v (.int .i64 0))], none⟩])
                  (.block 0
                    (.loop fn20_l1)))
                (.seq
                  (.seq
                    (.reg false [⟨some 79, [], .mv, [.t 0], none⟩,
                      ⟨some 80, [], .nchk, [.t 79], none⟩,
                      ⟨some 81, [], .fa 1, [.t 80], none⟩,
                      ⟨some 82, [], .gld 1 false false, [.t 81], none⟩,
                      ⟨some 83, [], .bin .gtr, [.t 82, .k (.v (.int .i64 65536))], none⟩])
                    (.cond (.t 83)
                      (.seq
                        (.reg false [⟨some 8, [], .mv, [.k (.v (.bool false))], none⟩])
                        .ret)
                      .skip))
                  (.seq
                    (.seq
                      (.reg false [⟨some 84, [], .fa 0, [.t 5], none⟩,
                        ⟨some 85, [], .bld 5 1 false false, [.t 84], none⟩,
                        ⟨some 86, [], .bin .lss, [.t 85, .k (.v (.int .i64 5))], none⟩])
                      (.cond (.t 86)
                        (.seq
                          (.reg false [⟨some 8, [], .mv, [.k (.v (.bool true))], none⟩])
                          .ret)
                        .skip))
                    (.seq
                      (.seq
                        (.reg false [⟨some 87, [], .mv, [.t 2], none⟩,
                          ⟨some 88, [], .bin .geq, [.t 87, .k (.v (.int .i64 32))], none⟩,
                          ⟨some 89, [], .mv, [.t 88], none⟩,
                          ⟨some 90, [], .fa 4, [.t 5], (some (89, false))⟩,
                          ⟨some 91, [], .bld 5 1 false false, [.t 90], (some (89, false))⟩,
                          ⟨some 92, [], .len, [.t 91], (some (89, false))⟩,
                          ⟨some 93, [], .bin .gtr, [.t 92, .k (.v (.int .i64 1024))], (some (89, false))⟩,
                          ⟨some 94, [], .pick, [.t 89, .k (.v (.bool true)), .t 93], none⟩])
                        (.cond (.t 94)
                          (.seq
                            (.reg false [⟨some 8, [], .mv, [.k (.v (.bool false))], none⟩])
                            .ret)
                          .skip))
                      (.seq
                        (.seq
                          (.reg false [⟨some 95, [], .fa 4, [.t 5], none⟩,
                            ⟨some 96, [], .bld 5 1 false false, [.t 95], none⟩,
                            ⟨some 97, [], .len, [.t 96], none⟩,
                            ⟨some 98, [], .mv, [.k (.v (.int .i64 0))], none⟩])
                          (.block 2
                            (.loop fn20_l2)))
                        (.seq
                          (.reg false [⟨some 8, [], .mv, [.k (.v (.bool true))], none⟩])
                          .ret)))))))))))
def fn20 : Fn := ⟨4, bd20, [.slot 8]⟩

/-- ndjq/text.CutPrefix$1 -/
def bd21 : C :=
    (.seq
      (.reg false [⟨some 2, [], .bnew 2 [(.v (.int .i64 0)), (.v (.int .i64 0)), (.v (.string ⟨#[]⟩)), (.sl .full (some true) []), (.sl .full (some true) [])], [], none⟩,
        ⟨some 3, [], .mv, [.k (.v (.int .i64 0))], none⟩])
      (.seq
        (.reg true [⟨some 4, [], .mv, [.t 0], none⟩,
          ⟨some 5, [], .ia 5, [.t 4, .k (.v (.int .i64 0))], none⟩,
          ⟨some 6, [], .ldel 5 true, [.t 5], none⟩,
          ⟨some 7, [], .mv, [.t 0], none⟩,
          ⟨some 8, [], .ia 5, [.t 7, .k (.v (.int .i64 1))], none⟩,
          ⟨some 9, [], .ldel 5 true, [.t 8], none⟩,
          ⟨some 10, [], .call true, [.k (.v (.func (.func 22) #[] #[])), .t 6, .t 9], none⟩,
          ⟨some 11, [], .ext 0, [.t 10], none⟩,
          ⟨some 12, [], .ext 1, [.t 10], none⟩,
          ⟨none, [], .bst 2 5 false, [.t 2, .t 11], none⟩,
          ⟨some 3, [], .mv, [.t 12], none⟩])
        .ret))
def fn21 : Fn := ⟨1, bd21, [.cell 2 5 true, .slot 3]⟩

/-- ndjq/ops.CutPrefix -/
def bd22 : C :=
    (.seq
      (.reg false [⟨some 2, [], .bbox 2, [.t 0], none⟩,
        ⟨some 3, [], .bbox 3, [.t 1], none⟩,
        ⟨some 4, [], .bnew 4 [(.v (.int .i64 0)), (.v (.int .i64 0)), (.v (.string ⟨#[]⟩)), (.sl .full (some true) []), (.sl .full (some true) [])], [], none⟩,
        ⟨some 5, [], .mv, [.k (.v (.int .i64 0))], none⟩])
      (.seq
        (.reg false [⟨some 6, [], .bld 2 5 true false, [.t 2], none⟩,
          ⟨some 7, [], .bld 3 5 true false, [.t 3], none⟩,
          ⟨some 8, [], .build [(.v (.int .i64 0)), (.v (.int .i64 0)), (.v (.string ⟨#[]⟩)), (.sl .full (some true) []), (.sl .full (some true) []), (.v (.int .i64 0)), (.v (.int .i64 0)), (.v (.string ⟨#[]⟩)), (.sl .full (some true) []), (.sl .full (some true) [])] [(0, 5), (5, 5)], [.t 6, .t 7], none⟩,
          ⟨some 9, [], .call true, [.k (.v (.func (.func 37) #[] #[])), .t 8, .k (.v (.func (.func 38) #[] #[]))], none⟩,
          ⟨some 10, [], .ext 0, [.t 9], none⟩,
          ⟨some 11, [], .ext 1, [.t 9], none⟩,
          ⟨none, [], .bst 4 5 false, [.t 4, .t 10], none⟩,
          ⟨some 5, [], .mv, [.t 11], none⟩])
        .ret))
def fn22 : Fn := ⟨2, bd22, [.cell 4 5 true, .slot 5]⟩

def fn23_l1 : C :=
  (.seq
    (.reg false [⟨some 8, [], .bin .lss, [.t 7, .t 6], none⟩])
    (.seq
      (.cond (.t 8)
        .skip
        (.exit 0))
      (.seq
        (.block 1
          (.seq
            (.reg false [⟨some 9, [], .ia 5, [.t 5, .t 7], none⟩,
              ⟨some 10, [], .ldel 5 true, [.t 9], none⟩,
              ⟨some 4, [], .bnew 4 [(.v (.int .i64 0)), (.v (.int .i64 0)), (.v (.string ⟨#[]⟩)), (.sl .full (some true) []), (.sl .full (some true) [])], [], none⟩,
              ⟨none, [], .bst 4 5 false, [.t 4, .t 10], none⟩])
            (.seq
              (.reg false [⟨some 11, [], .bld 4 5 true false, [.t 4], none⟩,
                ⟨some 12, [], .call true, [.k (.v (.func (.func 11) #[] #[])), .t 11], none⟩,
                ⟨some 13, [], .un .not, [.t 12], none⟩])
              (.cond (.t 13)
                (.seq
                  (.reg false [⟨some 2, [], .mv, [.k (.v (.bool false))], none⟩])
                  .ret)
                .skip))))
        (.reg false [⟨some 14, [], .bin .add, [.t 7, .k (.v (.int .i64 1))], none⟩,
          ⟨some 7, [], .mv, [.t 14], none⟩]))))
/-- ndjq/vals.All -/
def bd23 : C :=
    (.seq
      (.reg false [⟨some 2, [], .mv, [.k (.v (.bool false))], none⟩])
      (.seq
        (.seq
          (.reg false [⟨some 5, [], .mv, [.t 0], none⟩,
            ⟨some 6, [], .len, [.t 5], none⟩,
            ⟨some 7, [], .mv, [.k (.v (.int .i64 0))], none⟩])
          (.block 0
            (.loop fn23_l1)))
        (.seq
          (.reg false [⟨some 2, [], .mv, [.k (.v (.bool true))], none⟩])
          .ret)))
def fn23 : Fn := ⟨1, bd23, [.slot 2]⟩

def fn24_l1 : C :=
  (.seq
    (.reg false [⟨some 16, [], .bin .lss, [.t 15, .t 14], none⟩])
    (.seq
      (.cond (.t 16)
        .skip
        (.exit 0))
      (.seq
        (.block 1
          (.seq
            (.reg false [⟨some 17, [], .ia 5, [.t 13, .t 15], none⟩,
              ⟨some 18, [], .ldel 5 true, [.t 17], none⟩,
              ⟨some 5, [], .bnew 5 [(.v (.int .i64 0)), (.v (.int .i64 0)), (.v (.string ⟨#[]⟩)), (.sl .full (some true) []), (.sl .full (some true) [])], [], none⟩,
              ⟨none, [], .bst 5 5 false, [.t 5, .t 18], none⟩])
            (.reg true [⟨some 19, [], .fa 4, [.t 1], none⟩,
              ⟨some 20, [], .bld 1 1 false true, [.t 19], none⟩,
              ⟨some 21, [], .bld 5 5 true false, [.t 5], none⟩,
              ⟨some 22, [], .call true, [.k (.v (.func (.func 24) #[] #[])), .t 21], none⟩,
              ⟨some 23, [], .bsl 5, [.t 22], none⟩,
              ⟨some 24, [20], .app 5 80, [.t 20, .t 23], none⟩,
              ⟨some 25, [], .fa 4, [.t 1], none⟩,
              ⟨none, [24], .bst 1 1 true, [.t 25, .t 24], none⟩])))
        (.reg false [⟨some 26, [], .bin .add, [.t 15, .k (.v (.int .i64 1))], none⟩,
          ⟨some 15, [], .mv, [.t 26], none⟩]))))
/-- ndjq/vals.Copy -/
def bd24 : C :=
    (.seq
      (.reg false [⟨some 1, [], .bbox 1, [.t 0], none⟩,
        ⟨some 2, [], .bnew 2 [(.v (.int .i64 0)), (.v (.int .i64 0)), (.v (.string ⟨#[]⟩)), (.sl .full (some true) []), (.sl .full (some true) [])], [], none⟩])
      (.seq
        (.reg false [⟨some 6, [], .fa 3, [.t 1], none⟩,
          ⟨some 7, [], .bld 1 1 false false, [.t 6], none⟩,
          ⟨some 8, [], .call true, [.k (.v (.func (.func 39) #[] #[])), .t 7], none⟩,
          ⟨some 9, [], .fa 3, [.t 1], none⟩,
          ⟨none, [], .bst 1 1 false, [.t 9, .t 8], none⟩])
        (.seq
          (.reg false [⟨some 10, [], .fa 4, [.t 1], none⟩,
            ⟨some 11, [], .bld 1 1 false false, [.t 10], none⟩,
            ⟨some 3, [], .mv, [.t 11], none⟩])
          (.seq
            (.reg false [⟨some 12, [], .fa 4, [.t 1], none⟩,
              ⟨none, [], .bst 1 1 false, [.t 12, .k (.sl .full (some true) [])], none⟩])
            (.seq
              (.seq
                (.reg false [⟨some 13, [], .mv, [.t 3], none⟩,
                  ⟨some 14, [], .len, [.t 13], none⟩,
                  ⟨some 15, [], .mv, [.k (.v (.int .i64 0))], none⟩])
                (.block 0
                  (.loop fn24_l1)))
              (.seq
                (.reg false [⟨some 27, [], .bld 1 5 true false, [.t 1], none⟩,
                  ⟨none, [], .bst 2 5 false, [.t 2, .t 27], none⟩])
                .ret))))))
def fn24 : Fn := ⟨1, bd24, [.cell 2 5 true]⟩

/-- ndjq/ops.none -/
def bd25 : C :=
    (.seq
      (.reg false [⟨some 0, [], .bnew 0 [(.v (.int .i64 0)), (.v (.int .i64 0)), (.v (.string ⟨#[]⟩)), (.sl .full (some true) []), (.sl .full (some true) [])], [], none⟩])
      (.seq
        (.reg false [⟨some 1, [], .build [(.v (.int .i64 0)), (.v (.int .i64 0)), (.v (.string ⟨#[]⟩)), (.sl .full (some true) []), (.sl .full (some true) [])] [], [], none⟩,
          ⟨none, [], .bst 0 5 false, [.t 0, .t 1], none⟩])
        .ret))
def fn25 : Fn := ⟨0, bd25, [.cell 0 5 true]⟩

/-- ndjq/ops.Parts -/
def bd26 : C :=
    (.seq
      (.reg false [⟨some 2, [], .bbox 2, [.t 0], none⟩,
        ⟨some 3, [], .bbox 3, [.t 1], none⟩,
        ⟨some 4, [], .bnew 4 [(.v (.int .i64 0)), (.v (.int .i64 0)), (.v (.string ⟨#[]⟩)), (.sl .full (some true) []), (.sl .full (some true) [])], [], none⟩,
        ⟨some 5, [], .mv, [.k (.v (.int .i64 0))], none⟩])
      (.seq
        (.reg false [⟨some 6, [], .fa 2, [.t 2], none⟩,
          ⟨some 7, [], .bld 2 1 false false, [.t 6], none⟩,
          ⟨some 8, [], .fa 2, [.t 3], none⟩,
          ⟨some 9, [], .bld 3 1 false false, [.t 8], none⟩,
          ⟨some 10, [], .call true, [.k (.v (.func (.func 41) #[] #[])), .t 7, .t 9], none⟩,
          ⟨some 11, [], .call true, [.k (.v (.func (.func 40) #[] #[])), .t 10], none⟩,
          ⟨some 12, [], .ext 0, [.t 11], none⟩,
          ⟨some 13, [], .ext 1, [.t 11], none⟩,
          ⟨none, [], .bst 4 5 false, [.t 4, .t 12], none⟩,
          ⟨some 5, [], .mv, [.t 13], none⟩])
        .ret))
def fn26 : Fn := ⟨2, bd26, [.cell 4 5 true, .slot 5]⟩

def fn27_l1 : C :=
  (.seq
    (.reg false [⟨some 46, [], .bin .lss, [.t 45, .t 44], none⟩])
    (.seq
      (.cond (.t 46)
        .skip
        (.exit 1))
      (.seq
        (.block 2
          (.seq
            (.reg false [⟨some 47, [], .mv, [.t 45], none⟩,
              ⟨some 48, [], .ia 5, [.t 43, .t 45], none⟩,
              ⟨some 49, [], .ldel 5 true, [.t 48], none⟩,
              ⟨some 7, [], .bnew 7 [(.v (.int .i64 0)), (.v (.int .i64 0)), (.v (.string ⟨#[]⟩)), (.sl .full (some true) []), (.sl .full (some true) [])], [], none⟩,
              ⟨some 6, [], .mv, [.t 47], none⟩,
              ⟨none, [], .bst 7 5 false, [.t 7, .t 49], none⟩])
            (.seq
              (.seq
                (.reg false [⟨some 50, [], .mv, [.t 6], none⟩,
                  ⟨some 51, [], .bin .gtr, [.t 50, .k (.v (.int .i64 0))], none⟩])
                (.cond (.t 51)
                  (.reg false [⟨some 52, [0], .mvx, [.t 0], none⟩,
                    ⟨some 53, [], .bsl 1, [.k (.v (.int .u8 44))], none⟩,
                    ⟨some 54, [52], .app 1 1, [.t 52, .t 53], none⟩,
                    ⟨some 0, [54], .mvx, [.t 54], none⟩])
                  .skip))
              (.seq
                (.seq
                  (.reg false [⟨some 55, [], .fa 0, [.t 3], none⟩,
                    ⟨some 56, [], .bld 3 1 false false, [.t 55], none⟩,
                    ⟨some 57, [], .bin .eql, [.t 56, .k (.v (.int .i64 6))], none⟩])
                  (.cond (.t 57)
                    (.reg false [⟨some 58, [], .mv, [.t 0], none⟩,
                      ⟨some 59, [], .fa 3, [.t 3], none⟩,
                      ⟨some 60, [], .bld 3 1 false false, [.t 59], none⟩,
                      ⟨some 61, [], .mv, [.t 6], none⟩,
                      ⟨some 62, [], .ia 1, [.t 60, .t 61], none⟩,
                      ⟨some 63, [], .ldel 1 false, [.t 62], none⟩,
                      ⟨some 64, [], .call true, [.k (.v (.func (.func 43) #[] #[])), .t 58, .t 63], none⟩,
                      ⟨some 65, [], .bsl 1, [.k (.v (.int .u8 58))], none⟩,
                      ⟨some 66, [64], .app 1 1, [.t 64, .t 65], none⟩,
                      ⟨some 0, [66], .mvx, [.t 66], none⟩])
                    .skip))
                (.reg false [⟨some 67, [], .mv, [.t 0], none⟩,
                  ⟨some 68, [], .bld 7 5 true false, [.t 7], none⟩,
                  ⟨some 69, [], .call true, [.k (.v (.func (.func 27) #[] #[])), .t 67, .t 68], none⟩,
                  ⟨some 0, [], .mv, [.t 69], none⟩])))))
        (.reg false [⟨some 70, [], .bin .add, [.t 45, .k (.v (.int .i64 1))], none⟩,
          ⟨some 45, [], .mv, [.t 70], none⟩]))))
/-- ndjq/jsonwrite.Write -/
def bd27 : C :=
    (.seq
      (.reg false [⟨some 3, [], .bbox 3, [.t 1], none⟩,
        ⟨some 4, [], .mv, [.k (.sl .full (some true) [])], none⟩])
      (.seq
        (.seq
          (.reg false [⟨some 8, [], .fa 0, [.t 3], none⟩,
            ⟨some 9, [], .bld 3 1 false false, [.t 8], none⟩])
          (.block 0
            (.seq
              (.reg false [⟨some 11, [], .bin .eql, [.t 9, .k (.v (.int .i64 0))], none⟩,
                ⟨some 10, [], .mv, [.t 11], none⟩])
              (.cond (.t 10)
                (.seq
                  (.reg false [⟨some 12, [0], .mvx, [.t 0], none⟩,
                    ⟨some 13, [12], .app 1 1, [.t 12, .k (.v (.string ⟨#[110, 117, 108, 108]⟩))], none⟩,
                    ⟨some 4, [13], .mvx, [.t 13], none⟩])
                  .ret)
                (.seq
                  (.reg false [⟨some 15, [], .bin .eql, [.t 9, .k (.v (.int .i64 1))], none⟩,
                    ⟨some 14, [], .mv, [.t 15], none⟩])
                  (.cond (.t 14)
                    (.seq
                      (.reg false [⟨some 16, [0], .mvx, [.t 0], none⟩,
                        ⟨some 17, [16], .app 1 1, [.t 16, .k (.v (.string ⟨#[102, 97, 108, 115, 101]⟩))], none⟩,
                        ⟨some 4, [17], .mvx, [.t 17], none⟩])
                      .ret)
                    (.seq
                      (.reg false [⟨some 19, [], .bin .eql, [.t 9, .k (.v (.int .i64 2))], none⟩,
                        ⟨some 18, [], .mv, [.t 19], none⟩])
                      (.cond (.t 18)
                        (.seq
                          (.reg false [⟨some 20, [0], .mvx, [.t 0], none⟩,
                            ⟨some 21, [20], .app 1 1, [.t 20, .k (.v (.string ⟨#[116, 114, 117, 101]⟩))], none⟩,
                            ⟨some 4, [21], .mvx, [.t 21], none⟩])
                          .ret)
                        (.seq
                          (.reg false [⟨some 23, [], .bin .eql, [.t 9, .k (.v (.int .i64 3))], none⟩,
                            ⟨some 22, [], .mv, [.t 23], none⟩])
                          (.cond (.t 22)
                            (.seq
                              (.reg false [⟨some 24, [], .mv, [.t 0], none⟩,
                                ⟨some 25, [], .fa 1, [.t 3], none⟩,
                                ⟨some 26, [], .bld 3 1 false false, [.t 25], none⟩,
                                ⟨some 27, [], .call true, [.k (.v (.func (.func 42) #[] #[])), .t 24, .t 26, .k (.v (.int .i64 10))], none⟩,
                                ⟨some 4, [], .mv, [.t 27], none⟩])
                              .ret)
                            (.seq
                              (.reg false [⟨some 29, [], .bin .eql, [.t 9, .k (.v (.int .i64 4))], none⟩,
                                ⟨some 28, [], .mv, [.t 29], none⟩])
                              (.cond (.t 28)
                                (.seq
                                  (.reg false [⟨some 30, [], .mv, [.t 0], none⟩,
                                    ⟨some 31, [], .fa 2, [.t 3], none⟩,
                                    ⟨some 32, [], .bld 3 1 false false, [.t 31], none⟩,
                                    ⟨some 33, [], .call true, [.k (.v (.func (.func 43) #[] #[])), .t 30, .t 32], none⟩,
                                    ⟨some 4, [], .mv, [.t 33], none⟩])
                                  .ret)
                                .skip))))))))))))
        (.seq
          (.reg false [⟨some 5, [], .mv, [.k (.v (.string ⟨#[91, 93]⟩))], none⟩])
          (.seq
            (.seq
              (.reg false [⟨some 34, [], .fa 0, [.t 3], none⟩,
                ⟨some 35, [], .bld 3 1 false false, [.t 34], none⟩,
                ⟨some 36, [], .bin .eql, [.t 35, .k (.v (.int .i64 6))], none⟩])
              (.cond (.t 36)
                (.reg false [⟨some 5, [], .mv, [.k (.v (.string ⟨#[123, 125]⟩))], none⟩])
                .skip))
            (.seq
              (.reg false [⟨some 37, [0], .mvx, [.t 0], none⟩,
                ⟨some 38, [], .mv, [.t 5], none⟩,
                ⟨some 39, [], .ix, [.t 38, .k (.v (.int .i64 0))], none⟩,
                ⟨some 40, [], .bsl 1, [.t 39], none⟩,
                ⟨some 41, [37], .app 1 1, [.t 37, .t 40], none⟩,
                ⟨some 0, [41], .mvx, [.t 41], none⟩])
              (.seq
                (.seq
                  (.reg false [⟨some 42, [], .fa 4, [.t 3], none⟩,
                    ⟨some 43, [], .bld 3 1 false false, [.t 42], none⟩,
                    ⟨some 44, [], .len, [.t 43], none⟩,
                    ⟨some 45, [], .mv, [.k (.v (.int .i64 0))], none⟩])
                  (.block 1
                    (.loop fn27_l1)))
                (.seq
                  (.reg false [⟨some 71, [0], .mvx, [.t 0], none⟩,
                    ⟨some 72, [], .mv, [.t 5], none⟩,
                    ⟨some 73, [], .ix, [.t 72, .k (.v (.int .i64 1))], none⟩,
                    ⟨some 74, [], .bsl 1, [.t 73], none⟩,
                    ⟨some 75, [71], .app 1 1, [.t 71, .t 74], none⟩,
                    ⟨some 4, [75], .mvx, [.t 75], none⟩])
                  .ret)))))))
def fn27 : Fn := ⟨2, bd27, [.slot 4]⟩

/-- ndjq/ops.text -/
def bd28 : C :=
    (.seq
      (.reg false [⟨some 2, [], .bnew 2 [(.v (.int .i64 0)), (.v (.int .i64 0)), (.v (.string ⟨#[]⟩)), (.sl .full (some true) []), (.sl .full (some true) [])], [], none⟩,
        ⟨some 3, [], .mv, [.k (.v (.int .i64 0))], none⟩])
      (.seq
        (.reg false [⟨some 4, [], .mv, [.t 0], none⟩,
          ⟨some 5, [], .call true, [.k (.v (.func (.func 44) #[] #[])), .t 4], none⟩,
          ⟨some 6, [], .call true, [.k (.v (.func (.func 35) #[] #[])), .t 5], none⟩,
          ⟨some 7, [], .ext 0, [.t 6], none⟩,
          ⟨some 8, [], .ext 1, [.t 6], none⟩,
          ⟨none, [], .bst 2 5 false, [.t 2, .t 7], none⟩,
          ⟨some 3, [], .mv, [.t 8], none⟩])
        .ret))
def fn28 : Fn := ⟨1, bd28, [.cell 2 5 true, .slot 3]⟩

/-- strings.HasPrefix -/
def bd30 : C :=
    (.seq
      (.reg false [⟨some 4, [], .mv, [.k (.v (.bool false))], none⟩])
      (.seq
        (.reg false [⟨some 5, [], .mv, [.t 0], none⟩,
          ⟨some 6, [], .mv, [.t 1], none⟩,
          ⟨some 7, [], .call true, [.k (.v (.func (.func 48) #[] #[])), .t 5, .t 6], none⟩,
          ⟨some 4, [], .mv, [.t 7], none⟩])
        .ret))
def fn30 : Fn := ⟨2, bd30, [.slot 4]⟩

/-- ndjq/vals.Num -/
def bd31 : C :=
    (.seq
      (.reg false [⟨some 2, [], .bnew 2 [(.v (.int .i64 0)), (.v (.int .i64 0)), (.v (.string ⟨#[]⟩)), (.sl .full (some true) []), (.sl .full (some true) [])], [], none⟩])
      (.seq
        (.reg false [⟨some 3, [], .mv, [.t 0], none⟩,
          ⟨some 4, [], .build [(.v (.int .i64 0)), (.v (.int .i64 0)), (.v (.string ⟨#[]⟩)), (.sl .full (some true) []), (.sl .full (some true) [])] [(0, 1), (1, 1)], [.k (.v (.int .i64 3)), .t 3], none⟩,
          ⟨none, [], .bst 2 5 false, [.t 2, .t 4], none⟩])
        .ret))
def fn31 : Fn := ⟨1, bd31, [.cell 2 5 true]⟩

def fn32_l1 : C :=
  (.seq
    (.seq
      (.reg false [⟨some 57, [], .mv, [.t 11], none⟩,
        ⟨some 58, [], .mv, [.t 8], none⟩,
        ⟨some 59, [], .bin .lss, [.t 57, .t 58], none⟩])
      (.cond (.t 59)
        .skip
        (.exit 1)))
    (.seq
      (.block 2
        (.seq
          (.reg false [⟨some 63, [], .mv, [.t 0], none⟩,
            ⟨some 64, [], .mv, [.t 1], none⟩,
            ⟨some 65, [], .mv, [.t 11], none⟩,
            ⟨some 66, [], .bin .add, [.t 64, .t 65], none⟩,
            ⟨some 67, [], .call true, [.k (.v (.func (.func 49) #[] #[])), .t 63, .t 66], none⟩,
            ⟨some 62, [], .mv, [.t 67], none⟩,
            ⟨some 68, [], .ext 0, [.t 62], none⟩,
            ⟨some 69, [], .ext 1, [.t 62], none⟩,
            ⟨some 12, [], .mv, [.t 68], none⟩,
            ⟨some 13, [], .mv, [.t 69], none⟩])
          (.seq
            (.seq
              (.reg false [⟨some 70, [], .mv, [.t 13], none⟩,
                ⟨some 71, [], .un .not, [.t 70], none⟩])
              (.cond (.t 71)
                (.seq
                  (.reg false [⟨some 4, [], .mv, [.k (.v (.int .i64 0))], none⟩,
                    ⟨some 5, [], .mv, [.k (.v (.int .i64 0))], none⟩,
                    ⟨some 6, [], .mv, [.k (.v (.bool false))], none⟩])
                  .ret)
                .skip))
            (.reg false [⟨some 72, [], .mv, [.t 9], none⟩,
              ⟨some 73, [], .bin .shl, [.t 72, .k (.v (.int .u64 6))], none⟩,
              ⟨some 74, [], .mv, [.t 12], none⟩,
              ⟨some 75, [], .bin .or, [.t 73, .t 74], none⟩,
              ⟨some 9, [], .mv, [.t 75], none⟩]))))
      (.reg false [⟨some 60, [], .mv, [.t 11], none⟩,
        ⟨some 61, [], .bin .add, [.t 60, .k (.v (.int .i64 1))], none⟩,
        ⟨some 11, [], .mv, [.t 61], none⟩])))
/-- ndjq/utf.Decode -/
def bd32 : C :=
    (.seq
      (.reg false [⟨some 4, [], .mv, [.k (.v (.int .i64 0))], none⟩,
        ⟨some 5, [], .mv, [.k (.v (.int .i64 0))], none⟩,
        ⟨some 6, [], .mv, [.k (.v (.bool false))], none⟩])
      (.seq
        (.seq
          (.reg false [⟨some 14, [], .mv, [.t 1], none⟩,
            ⟨some 15, [], .bin .lss, [.t 14, .k (.v (.int .i64 0))], none⟩,
            ⟨some 16, [], .mv, [.t 15], none⟩,
            ⟨some 17, [], .mv, [.t 1], (some (16, false))⟩,
            ⟨some 18, [], .mv, [.t 0], (some (16, false))⟩,
            ⟨some 19, [], .slen, [.t 18], (some (16, false))⟩,
            ⟨some 20, [], .bin .geq, [.t 17, .t 19], (some (16, false))⟩,
            ⟨some 21, [], .pick, [.t 16, .k (.v (.bool true)), .t 20], none⟩])
          (.cond (.t 21)
            (.seq
              (.reg false [⟨some 4, [], .mv, [.k (.v (.int .i64 0))], none⟩,
                ⟨some 5, [], .mv, [.k (.v (.int .i64 0))], none⟩,
                ⟨some 6, [], .mv, [.k (.v (.bool false))], none⟩])
              .ret)
            .skip))
        (.seq
          (.reg false [⟨some 22, [], .mv, [.t 0], none⟩,
            ⟨some 23, [], .mv, [.t 1], none⟩,
            ⟨some 24, [], .ix, [.t 22, .t 23], none⟩,
            ⟨some 25, [], .cvi .i64, [.t 24], none⟩,
            ⟨some 7, [], .mv, [.t 25], none⟩])
          (.seq
            (.reg false [⟨some 8, [], .mv, [.k (.v (.int .i64 0))], none⟩,
              ⟨some 9, [], .mv, [.k (.v (.int .i64 0))], none⟩,
              ⟨some 10, [], .mv, [.k (.v (.int .i64 0))], none⟩])
            (.seq
              (.block 0
                (.seq
                  (.reg false [⟨some 27, [], .mv, [.t 7], none⟩,
                    ⟨some 28, [], .bin .lss, [.t 27, .k (.v (.int .i64 128))], none⟩,
                    ⟨some 26, [], .mv, [.t 28], none⟩])
                  (.cond (.t 26)
                    (.seq
                      (.reg false [⟨some 29, [], .mv, [.t 7], none⟩,
                        ⟨some 4, [], .mv, [.t 29], none⟩,
                        ⟨some 5, [], .mv, [.k (.v (.int .i64 1))], none⟩,
                        ⟨some 6, [], .mv, [.k (.v (.bool true))], none⟩])
                      .ret)
                    (.seq
                      (.reg false [⟨some 31, [], .mv, [.t 7], none⟩,
                        ⟨some 32, [], .bin .geq, [.t 31, .k (.v (.int .i64 192))], none⟩,
                        ⟨some 33, [], .mv, [.t 32], none⟩,
                        ⟨some 34, [], .mv, [.t 7], (some (33, true))⟩,
                        ⟨some 35, [], .bin .lss, [.t 34, .k (.v (.int .i64 224))], (some (33, true))⟩,
                        ⟨some 36, [], .pick, [.t 33, .t 35, .k (.v (.bool false))], none⟩,
                        ⟨some 30, [], .mv, [.t 36], none⟩])
                      (.cond (.t 30)
                        (.reg false [⟨some 37, [], .mv, [.t 7], none⟩,
                          ⟨some 38, [], .bin .and, [.t 37, .k (.v (.int .i64 31))], none⟩,
                          ⟨some 8, [], .mv, [.k (.v (.int .i64 2))], none⟩,
                          ⟨some 9, [], .mv, [.t 38], none⟩,
                          ⟨some 10, [], .mv, [.k (.v (.int .i64 128))], none⟩])
                        (.seq
                          (.reg false [⟨some 40, [], .mv, [.t 7], none⟩,
                            ⟨some 41, [], .bin .geq, [.t 40, .k (.v (.int .i64 224))], none⟩,
                            ⟨some 42, [], .mv, [.t 41], none⟩,
                            ⟨some 43, [], .mv, [.t 7], (some (42, true))⟩,
                            ⟨some 44, [], .bin .lss, [.t 43, .k (.v (.int .i64 240))], (some (42, true))⟩,
                            ⟨some 45, [], .pick, [.t 42, .t 44, .k (.v (.bool false))], none⟩,
                            ⟨some 39, [], .mv, [.t 45], none⟩])
                          (.cond (.t 39)
                            (.reg false [⟨some 46, [], .mv, [.t 7], none⟩,
                              ⟨some 47, [], .bin .and, [.t 46, .k (.v (.int .i64 15))], none⟩,
                              ⟨some 8, [], .mv, [.k (.v (.int .i64 3))], none⟩,
                              ⟨some 9, [], .mv, [.t 47], none⟩,
                              ⟨some 10, [], .mv, [.k (.v (.int .i64 2048))], none⟩])
                            (.seq
                              (.reg false [⟨some 49, [], .mv, [.t 7], none⟩,
                                ⟨some 50, [], .bin .geq, [.t 49, .k (.v (.int .i64 240))], none⟩,
                                ⟨some 51, [], .mv, [.t 50], none⟩,
                                ⟨some 52, [], .mv, [.t 7], (some (51, true))⟩,
                                ⟨some 53, [], .bin .lss, [.t 52, .k (.v (.int .i64 248))], (some (51, true))⟩,
                                ⟨some 54, [], .pick, [.t 51, .t 53, .k (.v (.bool false))], none⟩,
                                ⟨some 48, [], .mv, [.t 54], none⟩])
                              (.cond (.t 48)
                                (.reg false [⟨some 55, [], .mv, [.t 7], none⟩,
                                  ⟨some 56, [], .bin .and, [.t 55, .k (.v (.int .i64 7))], none⟩,
                                  ⟨some 8, [], .mv, [.k (.v (.int .i64 4))], none⟩,
                                  ⟨some 9, [], .mv, [.t 56], none⟩,
                                  ⟨some 10, [], .mv, [.k (.v (.int .i64 65536))], none⟩])
                                (.seq
                                  (.reg false [⟨some 4, [], .mv, [.k (.v (.int .i64 0))], none⟩,
                                    ⟨some 5, [], .mv, [.k (.v (.int .i64 0))], none⟩,
                                    ⟨some 6, [], .mv, [.k (.v (.bool false))], none⟩])
                                  .ret))))))))))
              (.seq
                (.seq
                  (.reg false [⟨some 11, [], .mv, [.k (.v (.int .i64 1))], none⟩])
                  (.block 1
                    (.loop fn32_l1)))
                (.seq
                  (.seq
                    (.reg false [⟨some 76, [], .mv, [.t 9], none⟩,
                      ⟨some 77, [], .mv, [.t 10], none⟩,
                      ⟨some 78, [], .bin .lss, [.t 76, .t 77], none⟩,
                      ⟨some 79, [], .mv, [.t 78], none⟩,
                      ⟨some 80, [], .mv, [.t 9], (some (79, false))⟩,
                      ⟨some 81, [], .call true, [.k (.v (.func (.func 50) #[] #[])), .t 80], (some (79, false))⟩,
                      ⟨some 82, [], .un .not, [.t 81], (some (79, false))⟩,
                      ⟨some 83, [], .pick, [.t 79, .k (.v (.bool true)), .t 82], none⟩])
                    (.cond (.t 83)
                      (.seq
                        (.reg false [⟨some 4, [], .mv, [.k (.v (.int .i64 0))], none⟩,
                          ⟨some 5, [], .mv, [.k (.v (.int .i64 0))], none⟩,
                          ⟨some 6, [], .mv, [.k (.v (.bool false))], none⟩])
                        .ret)
                      .skip))
                  (.seq
                    (.reg false [⟨some 84, [], .mv, [.t 9], none⟩,
                      ⟨some 85, [], .mv, [.t 8], none⟩,
                      ⟨some 4, [], .mv, [.t 84], none⟩,
                      ⟨some 5, [], .mv, [.t 85], none⟩,
                      ⟨some 6, [], .mv, [.k (.v (.bool true))], none⟩])
                    .ret))))))))
def fn32 : Fn := ⟨2, bd32, [.slot 4, .slot 5, .slot 6]⟩

/-- ndjq/vals.Equal -/
def bd33 : C :=
    (.seq
      (.reg false [⟨some 2, [], .bbox 2, [.t 0], none⟩,
        ⟨some 3, [], .bbox 3, [.t 1], none⟩,
        ⟨some 4, [], .mv, [.k (.v (.bool false))], none⟩])
      (.seq
        (.reg false [⟨some 5, [], .bld 2 5 true false, [.t 2], none⟩,
          ⟨some 6, [], .bld 3 5 true false, [.t 3], none⟩,
          ⟨some 7, [], .call true, [.k (.v (.func (.func 51) #[] #[])), .t 5, .t 6], none⟩,
          ⟨some 8, [], .bin .eql, [.t 7, .k (.v (.int .i64 0))], none⟩,
          ⟨some 4, [], .mv, [.t 8], none⟩])
        .ret))
def fn33 : Fn := ⟨2, bd33, [.slot 4]⟩

/-- ndjq/vals.Arr -/
def bd34 : C :=
    (.seq
      (.reg false [⟨some 2, [], .bnew 2 [(.v (.int .i64 0)), (.v (.int .i64 0)), (.v (.string ⟨#[]⟩)), (.sl .full (some true) []), (.sl .full (some true) [])], [], none⟩])
      (.seq
        (.reg false [⟨some 3, [], .mv, [.t 0], none⟩,
          ⟨some 4, [], .build [(.v (.int .i64 0)), (.v (.int .i64 0)), (.v (.string ⟨#[]⟩)), (.sl .full (some true) []), (.sl .full (some true) [])] [(0, 1), (4, 1)], [.k (.v (.int .i64 5)), .t 3], none⟩,
          ⟨none, [], .bst 2 5 false, [.t 2, .t 4], none⟩])
        .ret))
def fn34 : Fn := ⟨1, bd34, [.cell 2 5 true]⟩

/-- ndjq/vals.Fit -/
def bd35 : C :=
    (.seq
      (.reg false [⟨some 1, [], .bbox 1, [.t 0], none⟩,
        ⟨some 2, [], .bnew 2 [(.v (.int .i64 0)), (.v (.int .i64 0)), (.v (.string ⟨#[]⟩)), (.sl .full (some true) []), (.sl .full (some true) [])], [], none⟩,
        ⟨some 3, [], .mv, [.k (.v (.int .i64 0))], none⟩])
      (.seq
        (.seq
          (.reg false [⟨some 4, [], .gnew [(.v (.int .i64 0)), (.v (.int .i64 0))], [], none⟩,
            ⟨some 5, [], .bld 1 5 true false, [.t 1], none⟩,
            ⟨some 6, [], .call false, [.k (.v (.func (.func 20) #[] #[])), .t 4, .t 5, .k (.v (.int .i64 0)), .k (.v (.bool false))], none⟩,
            ⟨some 7, [], .un .not, [.t 6], none⟩])
          (.cond (.t 7)
            (.seq
              (.reg false [⟨some 8, [], .build [(.v (.int .i64 0)), (.v (.int .i64 0)), (.v (.string ⟨#[]⟩)), (.sl .full (some true) []), (.sl .full (some true) [])] [], [], none⟩,
                ⟨none, [], .bst 2 5 false, [.t 2, .t 8], none⟩,
                ⟨some 3, [], .mv, [.k (.v (.int .i64 2))], none⟩])
              .ret)
            .skip))
        (.seq
          (.reg false [⟨some 9, [], .bld 1 5 true false, [.t 1], none⟩,
            ⟨none, [], .bst 2 5 false, [.t 2, .t 9], none⟩,
            ⟨some 3, [], .mv, [.k (.v (.int .i64 0))], none⟩])
          .ret)))
def fn35 : Fn := ⟨1, bd35, [.cell 2 5 true, .slot 3]⟩

def fn36_l1 : C :=
  (.seq
    (.reg false [⟨some 71, [], .bin .lss, [.t 70, .t 69], none⟩])
    (.seq
      (.cond (.t 71)
        .skip
        (.exit 0))
      (.seq
        (.block 1
          (.seq
            (.reg false [⟨some 72, [], .mv, [.t 70], none⟩,
              ⟨some 73, [], .ia 1, [.t 68, .t 70], none⟩,
              ⟨some 74, [], .ldel 1 false, [.t 73], none⟩,
              ⟨some 3, [], .mv, [.t 72], none⟩,
              ⟨some 4, [], .mv, [.t 74], none⟩])
            (.seq
              (.reg false [⟨some 75, [], .mv, [.t 4], none⟩,
                ⟨some 76, [], .slen, [.t 75], none⟩,
                ⟨some 77, [], .bin .gtr, [.t 76, .k (.v (.int .i64 4096))], none⟩,
                ⟨some 78, [], .mv, [.t 77], none⟩,
                ⟨some 79, [], .mv, [.t 4], (some (78, false))⟩,
                ⟨some 80, [], .call true, [.k (.v (.func (.func 52) #[] #[])), .t 79], (some (78, false))⟩,
                ⟨some 81, [], .un .not, [.t 80], (some (78, false))⟩,
                ⟨some 82, [], .pick, [.t 78, .k (.v (.bool true)), .t 81], none⟩,
                ⟨some 83, [], .mv, [.t 82], none⟩,
                ⟨some 84, [], .mv, [.t 3], (some (83, false))⟩,
                ⟨some 85, [], .bin .gtr, [.t 84, .k (.v (.int .i64 0))], (some (83, false))⟩,
                ⟨some 86, [], .mv, [.t 85], (some (83, false))⟩,
                ⟨some 87, [], .mv, [.t 4], (some (86, true))⟩,
                ⟨some 88, [], .fa 3, [.t 1], (some (86, true))⟩,
                ⟨some 89, [], .bld 1 1 false false, [.t 88], (some (86, true))⟩,
                ⟨some 90, [], .mv, [.t 3], (some (86, true))⟩,
                ⟨some 91, [], .bin .sub, [.t 90, .k (.v (.int .i64 1))], (some (86, true))⟩,
                ⟨some 92, [], .ia 1, [.t 89, .t 91], (some (86, true))⟩,
                ⟨some 93, [], .ldel 1 false, [.t 92], (some (86, true))⟩,
                ⟨some 94, [], .bin .leq, [.t 87, .t 93], (some (86, true))⟩,
                ⟨some 95, [], .pick, [.t 86, .t 94, .k (.v (.bool false))], (some (83, false))⟩,
                ⟨some 96, [], .pick, [.t 83, .k (.v (.bool true)), .t 95], none⟩])
              (.cond (.t 96)
                (.seq
                  (.reg false [⟨some 2, [], .mv, [.k (.v (.bool false))], none⟩])
                  .ret)
                .skip))))
        (.reg false [⟨some 97, [], .bin .add, [.t 70, .k (.v (.int .i64 1))], none⟩,
          ⟨some 70, [], .mv, [.t 97], none⟩]))))
/-- ndjq/vals.formed -/
def bd36 : C :=
    (.seq
      (.reg false [⟨some 1, [], .bbox 1, [.t 0], none⟩,
        ⟨some 2, [], .mv, [.k (.v (.bool false))], none⟩])
      (.seq
        (.seq
          (.reg false [⟨some 5, [], .fa 0, [.t 1], none⟩,
            ⟨some 6, [], .bld 1 1 false false, [.t 5], none⟩,
            ⟨some 7, [], .bin .neq, [.t 6, .k (.v (.int .i64 3))], none⟩,
            ⟨some 8, [], .mv, [.t 7], none⟩,
            ⟨some 9, [], .fa 1, [.t 1], (some (8, true))⟩,
            ⟨some 10, [], .bld 1 1 false false, [.t 9], (some (8, true))⟩,
            ⟨some 11, [], .bin .neq, [.t 10, .k (.v (.int .i64 0))], (some (8, true))⟩,
            ⟨some 12, [], .pick, [.t 8, .t 11, .k (.v (.bool false))], none⟩,
            ⟨some 13, [], .mv, [.t 12], none⟩,
            ⟨some 14, [], .fa 0, [.t 1], (some (13, false))⟩,
            ⟨some 15, [], .bld 1 1 false false, [.t 14], (some (13, false))⟩,
            ⟨some 16, [], .bin .neq, [.t 15, .k (.v (.int .i64 4))], (some (13, false))⟩,
            ⟨some 17, [], .mv, [.t 16], (some (13, false))⟩,
            ⟨some 18, [], .fa 2, [.t 1], (some (17, true))⟩,
            ⟨some 19, [], .bld 1 1 false false, [.t 18], (some (17, true))⟩,
            ⟨some 20, [], .bin .neq, [.t 19, .k (.v (.string ⟨#[]⟩))], (some (17, true))⟩,
            ⟨some 21, [], .pick, [.t 17, .t 20, .k (.v (.bool false))], (some (13, false))⟩,
            ⟨some 22, [], .pick, [.t 13, .k (.v (.bool true)), .t 21], none⟩,
            ⟨some 23, [], .mv, [.t 22], none⟩,
            ⟨some 24, [], .fa 0, [.t 1], (some (23, false))⟩,
            ⟨some 25, [], .bld 1 1 false false, [.t 24], (some (23, false))⟩,
            ⟨some 26, [], .bin .neq, [.t 25, .k (.v (.int .i64 6))], (some (23, false))⟩,
            ⟨some 27, [], .mv, [.t 26], (some (23, false))⟩,
            ⟨some 28, [], .fa 3, [.t 1], (some (27, true))⟩,
            ⟨some 29, [], .bld 1 1 false false, [.t 28], (some (27, true))⟩,
            ⟨some 30, [], .len, [.t 29], (some (27, true))⟩,
            ⟨some 31, [], .bin .gtr, [.t 30, .k (.v (.int .i64 0))], (some (27, true))⟩,
            ⟨some 32, [], .pick, [.t 27, .t 31, .k (.v (.bool false))], (some (23, false))⟩,
            ⟨some 33, [], .pick, [.t 23, .k (.v (.bool true)), .t 32], none⟩,
            ⟨some 34, [], .mv, [.t 33], none⟩,
            ⟨some 35, [], .fa 0, [.t 1], (some (34, false))⟩,
            ⟨some 36, [], .bld 1 1 false false, [.t 35], (some (34, false))⟩,
            ⟨some 37, [], .bin .lss, [.t 36, .k (.v (.int .i64 5))], (some (34, false))⟩,
            ⟨some 38, [], .mv, [.t 37], (some (34, false))⟩,
            ⟨some 39, [], .fa 4, [.t 1], (some (38, true))⟩,
            ⟨some 40, [], .bld 1 1 false false, [.t 39], (some (38, true))⟩,
            ⟨some 41, [], .len, [.t 40], (some (38, true))⟩,
            ⟨some 42, [], .bin .gtr, [.t 41, .k (.v (.int .i64 0))], (some (38, true))⟩,
            ⟨some 43, [], .pick, [.t 38, .t 42, .k (.v (.bool false))], (some (34, false))⟩,
            ⟨some 44, [], .pick, [.t 34, .k (.v (.bool true)), .t 43], none⟩,
            ⟨some 45, [], .mv, [.t 44], none⟩,
            ⟨some 46, [], .fa 2, [.t 1], (some (45, false))⟩,
            ⟨some 47, [], .bld 1 1 false false, [.t 46], (some (45, false))⟩,
            ⟨some 48, [], .call true, [.k (.v (.func (.func 52) #[] #[])), .t 47], (some (45, false))⟩,
            ⟨some 49, [], .un .not, [.t 48], (some (45, false))⟩,
            ⟨some 50, [], .pick, [.t 45, .k (.v (.bool true)), .t 49], none⟩])
          (.cond (.t 50)
            (.seq
              (.reg false [⟨some 2, [], .mv, [.k (.v (.bool false))], none⟩])
              .ret)
            .skip))
        (.seq
          (.seq
            (.reg false [⟨some 51, [], .fa 0, [.t 1], none⟩,
              ⟨some 52, [], .bld 1 1 false false, [.t 51], none⟩,
              ⟨some 53, [], .bin .neq, [.t 52, .k (.v (.int .i64 6))], none⟩])
            (.cond (.t 53)
              (.seq
                (.reg false [⟨some 2, [], .mv, [.k (.v (.bool true))], none⟩])
                .ret)
              .skip))
          (.seq
            (.seq
              (.reg false [⟨some 54, [], .fa 3, [.t 1], none⟩,
                ⟨some 55, [], .bld 1 1 false false, [.t 54], none⟩,
                ⟨some 56, [], .len, [.t 55], none⟩,
                ⟨some 57, [], .fa 4, [.t 1], none⟩,
                ⟨some 58, [], .bld 1 1 false false, [.t 57], none⟩,
                ⟨some 59, [], .len, [.t 58], none⟩,
                ⟨some 60, [], .bin .neq, [.t 56, .t 59], none⟩,
                ⟨some 61, [], .mv, [.t 60], none⟩,
                ⟨some 62, [], .fa 3, [.t 1], (some (61, false))⟩,
                ⟨some 63, [], .bld 1 1 false false, [.t 62], (some (61, false))⟩,
                ⟨some 64, [], .len, [.t 63], (some (61, false))⟩,
                ⟨some 65, [], .bin .gtr, [.t 64, .k (.v (.int .i64 1024))], (some (61, false))⟩,
                ⟨some 66, [], .pick, [.t 61, .k (.v (.bool true)), .t 65], none⟩])
              (.cond (.t 66)
                (.seq
                  (.reg false [⟨some 2, [], .mv, [.k (.v (.bool false))], none⟩])
                  .ret)
                .skip))
            (.seq
              (.seq
                (.reg false [⟨some 67, [], .fa 3, [.t 1], none⟩,
                  ⟨some 68, [], .bld 1 1 false false, [.t 67], none⟩,
                  ⟨some 69, [], .len, [.t 68], none⟩,
                  ⟨some 70, [], .mv, [.k (.v (.int .i64 0))], none⟩])
                (.block 0
                  (.loop fn36_l1)))
              (.seq
                (.reg false [⟨some 2, [], .mv, [.k (.v (.bool true))], none⟩])
                .ret))))))
def fn36 : Fn := ⟨1, bd36, [.slot 2]⟩

/-- (ndjq/ops.pair).cut -/
def bd37 : C :=
    (.seq
      (.reg false [⟨some 2, [], .bbox 2, [.t 0], none⟩,
        ⟨some 4, [], .bnew 4 [(.v (.int .i64 0)), (.v (.int .i64 0)), (.v (.string ⟨#[]⟩)), (.sl .full (some true) []), (.sl .full (some true) [])], [], none⟩,
        ⟨some 5, [], .mv, [.k (.v (.int .i64 0))], none⟩])
      (.seq
        (.seq
          (.reg false [⟨some 6, [], .bld 2 10 true false, [.t 2], none⟩,
            ⟨some 7, [], .call true, [.k (.v (.func (.func 53) #[] #[])), .t 6], none⟩,
            ⟨some 8, [], .un .not, [.t 7], none⟩])
          (.cond (.t 8)
            (.seq
              (.reg false [⟨some 9, [], .fa 0, [.t 2], none⟩,
                ⟨some 10, [], .bld 2 5 true false, [.t 9], none⟩,
                ⟨none, [], .bst 4 5 false, [.t 4, .t 10], none⟩,
                ⟨some 5, [], .mv, [.k (.v (.int .i64 0))], none⟩])
              .ret)
            .skip))
        (.seq
          (.reg false [⟨some 11, [], .mv, [.t 1], none⟩,
            ⟨some 12, [], .fa 0, [.t 2], none⟩,
            ⟨some 13, [], .fa 2, [.t 12], none⟩,
            ⟨some 14, [], .bld 2 1 false false, [.t 13], none⟩,
            ⟨some 15, [], .fa 5, [.t 2], none⟩,
            ⟨some 16, [], .fa 2, [.t 15], none⟩,
            ⟨some 17, [], .bld 2 1 false false, [.t 16], none⟩,
            ⟨some 18, [], .call true, [.t 11, .t 14, .t 17], none⟩,
            ⟨some 19, [], .call true, [.k (.v (.func (.func 44) #[] #[])), .t 18], none⟩,
            ⟨none, [], .bst 4 5 false, [.t 4, .t 19], none⟩,
            ⟨some 5, [], .mv, [.k (.v (.int .i64 0))], none⟩])
          .ret)))
def fn37 : Fn := ⟨2, bd37, [.cell 4 5 true, .slot 5]⟩

/-- strings.TrimPrefix -/
def bd38 : C :=
    (.seq
      (.reg false [⟨some 4, [], .mv, [.k (.v (.string ⟨#[]⟩))], none⟩])
      (.seq
        (.reg false [⟨some 5, [], .mv, [.t 0], none⟩,
          ⟨some 6, [], .mv, [.t 1], none⟩,
          ⟨some 7, [], .call true, [.k (.v (.func (.func 54) #[] #[])), .t 5, .t 6], none⟩,
          ⟨some 4, [], .mv, [.t 7], none⟩])
        .ret))
def fn38 : Fn := ⟨2, bd38, [.slot 4]⟩

/-- slices.Clone[[]string,string] -/
def bd39 : C :=
    (.seq
      (.reg false [⟨some 2, [], .mv, [.k (.sl .full (some true) [])], none⟩])
      (.seq
        (.seq
          (.reg false [⟨some 3, [], .mv, [.t 0], none⟩,
            ⟨some 4, [], .isnil false, [.t 3, .k (.sl .full (some true) [])], none⟩])
          (.cond (.t 4)
            (.seq
              (.reg false [⟨some 2, [], .mv, [.k (.sl .full (some true) [])], none⟩])
              .ret)
            .skip))
        (.seq
          (.reg false [⟨some 5, [], .bsl 1, [], none⟩,
            ⟨some 6, [], .mv, [.t 0], none⟩,
            ⟨some 7, [5], .app 1 16, [.t 5, .t 6], none⟩,
            ⟨some 2, [7], .mvx, [.t 7], none⟩])
          .ret)))
def fn39 : Fn := ⟨1, bd39, [.slot 2]⟩

def fn40_l1 : C :=
  (.seq
    (.reg false [⟨some 14, [], .bin .lss, [.t 13, .t 12], none⟩])
    (.seq
      (.cond (.t 14)
        .skip
        (.exit 0))
      (.seq
        (.block 1
          (.seq
            (.reg false [⟨some 15, [], .ia 1, [.t 11, .t 13], none⟩,
              ⟨some 16, [], .ldel 1 false, [.t 15], none⟩,
              ⟨some 6, [], .mv, [.t 16], none⟩])
            (.reg false [⟨some 17, [4], .mvx, [.t 4], none⟩,
              ⟨some 18, [], .mv, [.t 6], none⟩,
              ⟨some 19, [], .call true, [.k (.v (.func (.func 44) #[] #[])), .t 18], none⟩,
              ⟨some 20, [], .bsl 5, [.t 19], none⟩,
              ⟨some 21, [17], .app 5 80, [.t 17, .t 20], none⟩,
              ⟨some 4, [21], .mvx, [.t 21], none⟩])))
        (.reg false [⟨some 22, [], .bin .add, [.t 13, .k (.v (.int .i64 1))], none⟩,
          ⟨some 13, [], .mv, [.t 22], none⟩]))))
/-- ndjq/ops.Strings -/
def bd40 : C :=
    (.seq
      (.reg false [⟨some 2, [], .bnew 2 [(.v (.int .i64 0)), (.v (.int .i64 0)), (.v (.string ⟨#[]⟩)), (.sl .full (some true) []), (.sl .full (some true) [])], [], none⟩,
        ⟨some 3, [], .mv, [.k (.v (.int .i64 0))], none⟩])
      (.seq
        (.seq
          (.reg false [⟨some 7, [], .mv, [.t 0], none⟩,
            ⟨some 8, [], .len, [.t 7], none⟩,
            ⟨some 9, [], .bin .gtr, [.t 8, .k (.v (.int .i64 1024))], none⟩])
          (.cond (.t 9)
            (.seq
              (.reg false [⟨some 10, [], .call true, [.k (.v (.func (.func 25) #[] #[]))], none⟩,
                ⟨none, [], .bst 2 5 false, [.t 2, .t 10], none⟩,
                ⟨some 3, [], .mv, [.k (.v (.int .i64 2))], none⟩])
              .ret)
            .skip))
        (.seq
          (.reg false [⟨some 4, [], .mv, [.k (.sl .full (some true) [])], none⟩])
          (.seq
            (.seq
              (.reg false [⟨some 11, [], .mv, [.t 0], none⟩,
                ⟨some 12, [], .len, [.t 11], none⟩,
                ⟨some 13, [], .mv, [.k (.v (.int .i64 0))], none⟩])
              (.block 0
                (.loop fn40_l1)))
            (.seq
              (.reg false [⟨some 23, [], .mv, [.t 4], none⟩,
                ⟨some 24, [], .call true, [.k (.v (.func (.func 34) #[] #[])), .t 23], none⟩,
                ⟨some 25, [], .call true, [.k (.v (.func (.func 35) #[] #[])), .t 24], none⟩,
                ⟨some 26, [], .ext 0, [.t 25], none⟩,
                ⟨some 27, [], .ext 1, [.t 25], none⟩,
                ⟨none, [], .bst 2 5 false, [.t 2, .t 26], none⟩,
                ⟨some 3, [], .mv, [.t 27], none⟩])
              .ret)))))
def fn40 : Fn := ⟨1, bd40, [.cell 2 5 true, .slot 3]⟩

def fn41_l1 : C :=
  (.seq
    (.seq
      (.reg false [⟨some 17, [], .mv, [.t 6], none⟩,
        ⟨some 18, [], .mv, [.t 0], none⟩,
        ⟨some 19, [], .slen, [.t 18], none⟩,
        ⟨some 20, [], .bin .lss, [.t 17, .t 19], none⟩])
      (.cond (.t 20)
        .skip
        (.exit 0)))
    (.block 1
      (.seq
        (.reg false [⟨some 22, [], .mv, [.t 0], none⟩,
          ⟨some 23, [], .mv, [.t 6], none⟩,
          ⟨some 24, [], .call true, [.k (.v (.func (.func 32) #[] #[])), .t 22, .t 23], none⟩,
          ⟨some 21, [], .mv, [.t 24], none⟩,
          ⟨some 25, [], .ext 0, [.t 21], none⟩,
          ⟨some 26, [], .ext 1, [.t 21], none⟩,
          ⟨some 27, [], .ext 2, [.t 21], none⟩,
          ⟨some 7, [], .mv, [.t 25], none⟩,
          ⟨some 8, [], .mv, [.t 26], none⟩,
          ⟨some 9, [], .mv, [.t 27], none⟩])
        (.seq
          (.reg false [⟨some 28, [5], .mvx, [.t 5], none⟩,
            ⟨some 29, [], .mv, [.t 0], none⟩,
            ⟨some 30, [], .mv, [.t 6], none⟩,
            ⟨some 31, [], .mv, [.t 6], none⟩,
            ⟨some 32, [], .mv, [.t 8], none⟩,
            ⟨some 33, [], .bin .add, [.t 31, .t 32], none⟩,
            ⟨some 34, [], .sslice true true, [.t 29, .t 30, .t 33], none⟩,
            ⟨some 35, [], .bsl 1, [.t 34], none⟩,
            ⟨some 36, [28], .app 1 16, [.t 28, .t 35], none⟩,
            ⟨some 5, [36], .mvx, [.t 36], none⟩])
          (.reg false [⟨some 37, [], .mv, [.t 6], none⟩,
            ⟨some 38, [], .mv, [.t 8], none⟩,
            ⟨some 39, [], .bin .add, [.t 37, .t 38], none⟩,
            ⟨some 6, [], .mv, [.t 39], none⟩])))))
/-- ndjq/ops.Split -/
def bd41 : C :=
    (.seq
      (.reg false [⟨some 4, [], .mv, [.k (.sl .full (some true) [])], none⟩])
      (.seq
        (.seq
          (.reg false [⟨some 10, [], .mv, [.t 0], none⟩,
            ⟨some 11, [], .bin .eql, [.t 10, .k (.v (.string ⟨#[]⟩))], none⟩])
          (.cond (.t 11)
            (.seq
              (.reg false [⟨some 4, [], .mv, [.k (.sl .full (some true) [])], none⟩])
              .ret)
            .skip))
        (.seq
          (.seq
            (.reg false [⟨some 12, [], .mv, [.t 1], none⟩,
              ⟨some 13, [], .bin .neq, [.t 12, .k (.v (.string ⟨#[]⟩))], none⟩])
            (.cond (.t 13)
              (.seq
                (.reg false [⟨some 14, [], .mv, [.t 0], none⟩,
                  ⟨some 15, [], .mv, [.t 1], none⟩,
                  ⟨some 16, [], .call true, [.k (.v (.func (.func 55) #[] #[])), .t 14, .t 15], none⟩,
                  ⟨some 4, [], .mv, [.t 16], none⟩])
                .ret)
              .skip))
          (.seq
            (.reg false [⟨some 5, [], .mv, [.k (.sl .full (some true) [])], none⟩])
            (.seq
              (.seq
                (.reg false [⟨some 6, [], .mv, [.k (.v (.int .i64 0))], none⟩])
                (.block 0
                  (.loop fn41_l1)))
              (.seq
                (.reg false [⟨some 40, [], .mv, [.t 5], none⟩,
                  ⟨some 4, [], .mv, [.t 40], none⟩])
                .ret))))))
def fn41 : Fn := ⟨2, bd41, [.slot 4]⟩

def fn43_l1 : C :=
  (.seq
    (.reg false [⟨some 13, [], .bin .lss, [.t 12, .t 11], none⟩])
    (.seq
      (.cond (.t 13)
        .skip
        (.exit 0))
      (.seq
        (.block 1
          (.seq
            (.reg false [⟨some 14, [], .mv, [.t 12], none⟩,
              ⟨some 5, [], .mv, [.t 14], none⟩])
            (.seq
              (.seq
                (.reg false [⟨some 15, [], .mv, [.t 1], none⟩,
                  ⟨some 16, [], .mv, [.t 5], none⟩,
                  ⟨some 17, [], .ix, [.t 15, .t 16], none⟩,
                  ⟨some 18, [], .call true, [.k (.v (.func (.func 57) #[] #[])), .t 17], none⟩,
                  ⟨some 6, [], .mv, [.t 18], none⟩])
                (.seq
                  (.reg false [⟨some 19, [], .mv, [.t 6], none⟩,
                    ⟨some 20, [], .bin .neq, [.t 19, .k (.v (.int .u8 0))], none⟩])
                  (.cond (.t 20)
                    (.seq
                      (.reg false [⟨some 21, [0], .mvx, [.t 0], none⟩,
                        ⟨some 22, [], .mv, [.t 6], none⟩,
                        ⟨some 23, [], .bsl 1, [.k (.v (.int .u8 92)), .t 22], none⟩,
                        ⟨some 24, [21], .app 1 1, [.t 21, .t 23], none⟩,
                        ⟨some 0, [24], .mvx, [.t 24], none⟩])
                      (.exit 1))
                    .skip)))
              (.seq
                (.seq
                  (.reg false [⟨some 25, [], .mv, [.t 1], none⟩,
                    ⟨some 26, [], .mv, [.t 5], none⟩,
                    ⟨some 27, [], .ix, [.t 25, .t 26], none⟩,
                    ⟨some 28, [], .bin .lss, [.t 27, .k (.v (.int .u8 32))], none⟩])
                  (.cond (.t 28)
                    (.seq
                      (.reg true [⟨some 29, [0], .mvx, [.t 0], none⟩,
                        ⟨some 30, [], .mv, [.t 1], none⟩,
                        ⟨some 31, [], .mv, [.t 5], none⟩,
                        ⟨some 32, [], .ix, [.t 30, .t 31], none⟩,
                        ⟨some 33, [], .bin .shr, [.t 32, .k (.v (.int .u64 4))], none⟩,
                        ⟨some 34, [], .ix, [.k (.v (.string ⟨#[48, 49, 50, 51, 52, 53, 54, 55, 56, 57, 97, 98, 99, 100, 101, 102]⟩)), .t 33], none⟩,
                        ⟨some 35, [], .mv, [.t 1], none⟩,
                        ⟨some 36, [], .mv, [.t 5], none⟩,
                        ⟨some 37, [], .ix, [.t 35, .t 36], none⟩,
                        ⟨some 38, [], .bin .and, [.t 37, .k (.v (.int .u8 15))], none⟩,
                        ⟨some 39, [], .ix, [.k (.v (.string ⟨#[48, 49, 50, 51, 52, 53, 54, 55, 56, 57, 97, 98, 99, 100, 101, 102]⟩)), .t 38], none⟩,
                        ⟨some 40, [], .bsl 1, [.k (.v (.int .u8 92)), .k (.v (.int .u8 117)), .k (.v (.int .u8 48)), .k (.v (.int .u8 48)), .t 34, .t 39], none⟩,
                        ⟨some 41, [29], .app 1 1, [.t 29, .t 40], none⟩,
                        ⟨some 0, [41], .mvx, [.t 41], none⟩])
                      (.exit 1))
                    .skip))
                (.reg false [⟨some 42, [0], .mvx, [.t 0], none⟩,
                  ⟨some 43, [], .mv, [.t 1], none⟩,
                  ⟨some 44, [], .mv, [.t 5], none⟩,
                  ⟨some 45, [], .ix, [.t 43, .t 44], none⟩,
                  ⟨some 46, [], .bsl 1, [.t 45], none⟩,
                  ⟨some 47, [42], .app 1 1, [.t 42, .t 46], none⟩,
                  ⟨some 0, [47], .mvx, [.t 47], none⟩])))))
        (.reg false [⟨some 48, [], .bin .add, [.t 12, .k (.v (.int .i64 1))], none⟩,
          ⟨some 12, [], .mv, [.t 48], none⟩]))))
/-- ndjq/jsonwrite.quote -/
def bd43 : C :=
    (.seq
      (.reg false [⟨some 4, [], .mv, [.k (.sl .full (some true) [])], none⟩])
      (.seq
        (.reg false [⟨some 7, [0], .mvx, [.t 0], none⟩,
          ⟨some 8, [], .bsl 1, [.k (.v (.int .u8 34))], none⟩,
          ⟨some 9, [7], .app 1 1, [.t 7, .t 8], none⟩,
          ⟨some 0, [9], .mvx, [.t 9], none⟩])
        (.seq
          (.seq
            (.reg false [⟨some 10, [], .mv, [.t 1], none⟩,
              ⟨some 11, [], .slen, [.t 10], none⟩,
              ⟨some 12, [], .mv, [.k (.v (.int .i64 0))], none⟩])
            (.block 0
              (.loop fn43_l1)))
          (.seq
            (.reg false [⟨some 49, [0], .mvx, [.t 0], none⟩,
              ⟨some 50, [], .bsl 1, [.k (.v (.int .u8 34))], none⟩,
              ⟨some 51, [49], .app 1 1, [.t 49, .t 50], none⟩,
              ⟨some 4, [51], .mvx, [.t 51], none⟩])
            .ret))))
def fn43 : Fn := ⟨2, bd43, [.slot 4]⟩

/-- ndjq/vals.Str -/
def bd44 : C :=
    (.seq
      (.reg false [⟨some 2, [], .bnew 2 [(.v (.int .i64 0)), (.v (.int .i64 0)), (.v (.string ⟨#[]⟩)), (.sl .full (some true) []), (.sl .full (some true) [])], [], none⟩])
      (.seq
        (.reg false [⟨some 3, [], .mv, [.t 0], none⟩,
          ⟨some 4, [], .build [(.v (.int .i64 0)), (.v (.int .i64 0)), (.v (.string ⟨#[]⟩)), (.sl .full (some true) []), (.sl .full (some true) [])] [(0, 1), (2, 1)], [.k (.v (.int .i64 4)), .t 3], none⟩,
          ⟨none, [], .bst 2 5 false, [.t 2, .t 4], none⟩])
        .ret))
def fn44 : Fn := ⟨1, bd44, [.cell 2 5 true]⟩

/-- internal/stringslite.HasPrefix -/
def bd48 : C :=
    (.seq
      (.reg false [⟨some 4, [], .mv, [.k (.v (.bool false))], none⟩])
      (.seq
        (.reg false [⟨some 5, [], .mv, [.t 0], none⟩,
          ⟨some 6, [], .slen, [.t 5], none⟩,
          ⟨some 7, [], .mv, [.t 1], none⟩,
          ⟨some 8, [], .slen, [.t 7], none⟩,
          ⟨some 9, [], .bin .geq, [.t 6, .t 8], none⟩,
          ⟨some 10, [], .mv, [.t 9], none⟩,
          ⟨some 11, [], .mv, [.t 0], (some (10, true))⟩,
          ⟨some 12, [], .mv, [.t 1], (some (10, true))⟩,
          ⟨some 13, [], .slen, [.t 12], (some (10, true))⟩,
          ⟨some 14, [], .sslice false true, [.t 11, .t 13], (some (10, true))⟩,
          ⟨some 15, [], .mv, [.t 1], (some (10, true))⟩,
          ⟨some 16, [], .bin .eql, [.t 14, .t 15], (some (10, true))⟩,
          ⟨some 17, [], .pick, [.t 10, .t 16, .k (.v (.bool false))], none⟩,
          ⟨some 4, [], .mv, [.t 17], none⟩])
        .ret))
def fn48 : Fn := ⟨2, bd48, [.slot 4]⟩

/-- ndjq/utf.next -/
def bd49 : C :=
    (.seq
      (.reg false [⟨some 4, [], .mv, [.k (.v (.int .i64 0))], none⟩,
        ⟨some 5, [], .mv, [.k (.v (.bool false))], none⟩])
      (.seq
        (.seq
          (.reg false [⟨some 6, [], .mv, [.t 1], none⟩,
            ⟨some 7, [], .mv, [.t 0], none⟩,
            ⟨some 8, [], .slen, [.t 7], none⟩,
            ⟨some 9, [], .bin .geq, [.t 6, .t 8], none⟩,
            ⟨some 10, [], .mv, [.t 9], none⟩,
            ⟨some 11, [], .mv, [.t 0], (some (10, false))⟩,
            ⟨some 12, [], .mv, [.t 1], (some (10, false))⟩,
            ⟨some 13, [], .ix, [.t 11, .t 12], (some (10, false))⟩,
            ⟨some 14, [], .bin .and, [.t 13, .k (.v (.int .u8 192))], (some (10, false))⟩,
            ⟨some 15, [], .bin .neq, [.t 14, .k (.v (.int .u8 128))], (some (10, false))⟩,
            ⟨some 16, [], .pick, [.t 10, .k (.v (.bool true)), .t 15], none⟩])
          (.cond (.t 16)
            (.seq
              (.reg false [⟨some 4, [], .mv, [.k (.v (.int .i64 0))], none⟩,
                ⟨some 5, [], .mv, [.k (.v (.bool false))], none⟩])
              .ret)
            .skip))
        (.seq
          (.reg false [⟨some 17, [], .mv, [.t 0], none⟩,
            ⟨some 18, [], .mv, [.t 1], none⟩,
            ⟨some 19, [], .ix, [.t 17, .t 18], none⟩,
            ⟨some 20, [], .bin .and, [.t 19, .k (.v (.int .u8 63))], none⟩,
            ⟨some 21, [], .cvi .i64, [.t 20], none⟩,
            ⟨some 4, [], .mv, [.t 21], none⟩,
            ⟨some 5, [], .mv, [.k (.v (.bool true))], none⟩])
          .ret)))
def fn49 : Fn := ⟨2, bd49, [.slot 4, .slot 5]⟩

/-- ndjq/utf.point -/
def bd50 : C :=
    (.seq
      (.reg false [⟨some 2, [], .mv, [.k (.v (.bool false))], none⟩])
      (.seq
        (.reg false [⟨some 3, [], .mv, [.t 0], none⟩,
          ⟨some 4, [], .bin .geq, [.t 3, .k (.v (.int .i64 0))], none⟩,
          ⟨some 5, [], .mv, [.t 4], none⟩,
          ⟨some 6, [], .mv, [.t 0], (some (5, true))⟩,
          ⟨some 7, [], .bin .leq, [.t 6, .k (.v (.int .i64 1114111))], (some (5, true))⟩,
          ⟨some 8, [], .pick, [.t 5, .t 7, .k (.v (.bool false))], none⟩,
          ⟨some 9, [], .mv, [.t 8], none⟩,
          ⟨some 10, [], .mv, [.t 0], (some (9, true))⟩,
          ⟨some 11, [], .bin .lss, [.t 10, .k (.v (.int .i64 55296))], (some (9, true))⟩,
          ⟨some 12, [], .mv, [.t 11], (some (9, true))⟩,
          ⟨some 13, [], .mv, [.t 0], (some (12, false))⟩,
          ⟨some 14, [], .bin .gtr, [.t 13, .k (.v (.int .i64 57343))], (some (12, false))⟩,
          ⟨some 15, [], .pick, [.t 12, .k (.v (.bool true)), .t 14], (some (9, true))⟩,
          ⟨some 16, [], .pick, [.t 9, .t 15, .k (.v (.bool false))], none⟩,
          ⟨some 2, [], .mv, [.t 16], none⟩])
        .ret))
def fn50 : Fn := ⟨1, bd50, [.slot 2]⟩

/-- ndjq/vals.Compare -/
def bd51 : C :=
    (.seq
      (.reg false [⟨some 2, [], .bbox 2, [.t 0], none⟩,
        ⟨some 3, [], .bbox 3, [.t 1], none⟩,
        ⟨some 4, [], .mv, [.k (.v (.int .i64 0))], none⟩])
      (.seq
        (.block 0
          (.seq
            (.reg false [⟨some 7, [], .fa 0, [.t 2], none⟩,
              ⟨some 8, [], .bld 2 1 false false, [.t 7], none⟩,
              ⟨some 9, [], .fa 0, [.t 3], none⟩,
              ⟨some 10, [], .bld 3 1 false false, [.t 9], none⟩,
              ⟨some 11, [], .bin .neq, [.t 8, .t 10], none⟩,
              ⟨some 6, [], .mv, [.t 11], none⟩])
            (.cond (.t 6)
              (.seq
                (.reg false [⟨some 12, [], .fa 0, [.t 2], none⟩,
                  ⟨some 13, [], .bld 2 1 false false, [.t 12], none⟩,
                  ⟨some 14, [], .fa 0, [.t 3], none⟩,
                  ⟨some 15, [], .bld 3 1 false false, [.t 14], none⟩,
                  ⟨some 16, [], .call true, [.k (.v (.func (.func 60) #[] #[])), .t 13, .t 15], none⟩,
                  ⟨some 4, [], .mv, [.t 16], none⟩])
                .ret)
              (.seq
                (.reg false [⟨some 18, [], .fa 0, [.t 2], none⟩,
                  ⟨some 19, [], .bld 2 1 false false, [.t 18], none⟩,
                  ⟨some 20, [], .bin .eql, [.t 19, .k (.v (.int .i64 3))], none⟩,
                  ⟨some 17, [], .mv, [.t 20], none⟩])
                (.cond (.t 17)
                  (.seq
                    (.reg false [⟨some 21, [], .fa 1, [.t 2], none⟩,
                      ⟨some 22, [], .bld 2 1 false false, [.t 21], none⟩,
                      ⟨some 23, [], .fa 1, [.t 3], none⟩,
                      ⟨some 24, [], .bld 3 1 false false, [.t 23], none⟩,
                      ⟨some 25, [], .call true, [.k (.v (.func (.func 61) #[] #[])), .t 22, .t 24], none⟩,
                      ⟨some 4, [], .mv, [.t 25], none⟩])
                    .ret)
                  (.seq
                    (.reg false [⟨some 27, [], .fa 0, [.t 2], none⟩,
                      ⟨some 28, [], .bld 2 1 false false, [.t 27], none⟩,
                      ⟨some 29, [], .bin .eql, [.t 28, .k (.v (.int .i64 4))], none⟩,
                      ⟨some 26, [], .mv, [.t 29], none⟩])
                    (.cond (.t 26)
                      (.seq
                        (.reg false [⟨some 30, [], .fa 2, [.t 2], none⟩,
                          ⟨some 31, [], .bld 2 1 false false, [.t 30], none⟩,
                          ⟨some 32, [], .fa 2, [.t 3], none⟩,
                          ⟨some 33, [], .bld 3 1 false false, [.t 32], none⟩,
                          ⟨some 34, [], .call true, [.k (.v (.func (.func 62) #[] #[])), .t 31, .t 33], none⟩,
                          ⟨some 4, [], .mv, [.t 34], none⟩])
                        .ret)
                      (.seq
                        (.reg false [⟨some 36, [], .fa 0, [.t 2], none⟩,
                          ⟨some 37, [], .bld 2 1 false false, [.t 36], none⟩,
                          ⟨some 38, [], .bin .eql, [.t 37, .k (.v (.int .i64 6))], none⟩,
                          ⟨some 35, [], .mv, [.t 38], none⟩])
                        (.cond (.t 35)
                          (.seq
                            (.reg false [⟨some 39, [], .fa 3, [.t 2], none⟩,
                              ⟨some 40, [], .bld 2 1 false false, [.t 39], none⟩,
                              ⟨some 41, [], .fa 3, [.t 3], none⟩,
                              ⟨some 42, [], .bld 3 1 false false, [.t 41], none⟩,
                              ⟨some 43, [], .call true, [.k (.v (.func (.func 63) #[] #[])), .t 40, .t 42], none⟩,
                              ⟨some 5, [], .mv, [.t 43], none⟩])
                            (.seq
                              (.reg false [⟨some 44, [], .mv, [.t 5], none⟩,
                                ⟨some 45, [], .bin .neq, [.t 44, .k (.v (.int .i64 0))], none⟩])
                              (.cond (.t 45)
                                (.seq
                                  (.reg false [⟨some 46, [], .mv, [.t 5], none⟩,
                                    ⟨some 4, [], .mv, [.t 46], none⟩])
                                  .ret)
                                .skip)))
                          .skip)))))))))
        (.seq
          (.reg false [⟨some 47, [], .fa 4, [.t 2], none⟩,
            ⟨some 48, [], .bld 2 1 false false, [.t 47], none⟩,
            ⟨some 49, [], .fa 4, [.t 3], none⟩,
            ⟨some 50, [], .bld 3 1 false false, [.t 49], none⟩,
            ⟨some 51, [], .call true, [.k (.v (.func (.func 64) #[] #[])), .t 48, .t 50, .k (.v (.func (.func 51) #[] #[]))], none⟩,
            ⟨some 4, [], .mv, [.t 51], none⟩])
          .ret)))
def fn51 : Fn := ⟨2, bd51, [.slot 4]⟩

/-- ndjq/utf.Valid -/
def bd52 : C :=
    (.seq
      (.reg false [⟨some 2, [], .mv, [.k (.v (.bool false))], none⟩])
      (.seq
        (.reg false [⟨some 6, [], .mv, [.t 0], none⟩,
          ⟨some 7, [], .call true, [.k (.v (.func (.func 65) #[] #[])), .t 6], none⟩,
          ⟨some 5, [], .mv, [.t 7], none⟩,
          ⟨some 8, [], .ext 0, [.t 5], none⟩,
          ⟨some 9, [], .ext 1, [.t 5], none⟩,
          ⟨some 3, [], .mv, [.t 8], none⟩,
          ⟨some 4, [], .mv, [.t 9], none⟩])
        (.seq
          (.reg false [⟨some 10, [], .mv, [.t 4], none⟩,
            ⟨some 2, [], .mv, [.t 10], none⟩])
          .ret)))
def fn52 : Fn := ⟨1, bd52, [.slot 2]⟩

/-- (ndjq/ops.pair).strings -/
def bd53 : C :=
    (.seq
      (.reg false [⟨some 1, [], .bbox 1, [.t 0], none⟩,
        ⟨some 2, [], .mv, [.k (.v (.bool false))], none⟩])
      (.seq
        (.reg false [⟨some 3, [], .fa 0, [.t 1], none⟩,
          ⟨some 4, [], .fa 0, [.t 3], none⟩,
          ⟨some 5, [], .bld 1 1 false false, [.t 4], none⟩,
          ⟨some 6, [], .bin .eql, [.t 5, .k (.v (.int .i64 4))], none⟩,
          ⟨some 7, [], .mv, [.t 6], none⟩,
          ⟨some 8, [], .fa 5, [.t 1], (some (7, true))⟩,
          ⟨some 9, [], .fa 0, [.t 8], (some (7, true))⟩,
          ⟨some 10, [], .bld 1 1 false false, [.t 9], (some (7, true))⟩,
          ⟨some 11, [], .bin .eql, [.t 10, .k (.v (.int .i64 4))], (some (7, true))⟩,
          ⟨some 12, [], .pick, [.t 7, .t 11, .k (.v (.bool false))], none⟩,
          ⟨some 2, [], .mv, [.t 12], none⟩])
        .ret))
def fn53 : Fn := ⟨1, bd53, [.slot 2]⟩

/-- internal/stringslite.TrimPrefix -/
def bd54 : C :=
    (.seq
      (.reg false [⟨some 4, [], .mv, [.k (.v (.string ⟨#[]⟩))], none⟩])
      (.seq
        (.seq
          (.reg false [⟨some 5, [], .mv, [.t 0], none⟩,
            ⟨some 6, [], .mv, [.t 1], none⟩,
            ⟨some 7, [], .call true, [.k (.v (.func (.func 48) #[] #[])), .t 5, .t 6], none⟩])
          (.cond (.t 7)
            (.seq
              (.reg false [⟨some 8, [], .mv, [.t 0], none⟩,
                ⟨some 9, [], .mv, [.t 1], none⟩,
                ⟨some 10, [], .slen, [.t 9], none⟩,
                ⟨some 11, [], .sslice true false, [.t 8, .t 10], none⟩,
                ⟨some 4, [], .mv, [.t 11], none⟩])
              .ret)
            .skip))
        (.seq
          (.reg false [⟨some 12, [], .mv, [.t 0], none⟩,
            ⟨some 4, [], .mv, [.t 12], none⟩])
          .ret)))
def fn54 : Fn := ⟨2, bd54, [.slot 4]⟩

/-- ndjq/jsonwrite.escape -/
def bd57 : C :=
    (.seq
      (.reg false [⟨some 2, [], .mv, [.k (.v (.int .u8 0))], none⟩])
      (.seq
        (.seq
          (.reg false [⟨some 3, [], .mv, [.t 0], none⟩])
          (.block 0
            (.seq
              (.seq
                (.reg false [⟨some 5, [], .bin .eql, [.t 3, .k (.v (.int .u8 34))], none⟩,
                  ⟨some 4, [], .mv, [.t 5], none⟩])
                (.cond (.t 4)
                  .skip
                  (.reg false [⟨some 6, [], .bin .eql, [.t 3, .k (.v (.int .u8 92))], none⟩,
                    ⟨some 4, [], .mv, [.t 6], none⟩])))
              (.cond (.t 4)
                (.seq
                  (.reg false [⟨some 7, [], .mv, [.t 0], none⟩,
                    ⟨some 2, [], .mv, [.t 7], none⟩])
                  .ret)
                (.seq
                  (.reg false [⟨some 9, [], .bin .eql, [.t 3, .k (.v (.int .u8 8))], none⟩,
                    ⟨some 8, [], .mv, [.t 9], none⟩])
                  (.cond (.t 8)
                    (.seq
                      (.reg false [⟨some 2, [], .mv, [.k (.v (.int .u8 98))], none⟩])
                      .ret)
                    (.seq
                      (.reg false [⟨some 11, [], .bin .eql, [.t 3, .k (.v (.int .u8 9))], none⟩,
                        ⟨some 10, [], .mv, [.t 11], none⟩])
                      (.cond (.t 10)
                        (.seq
                          (.reg false [⟨some 2, [], .mv, [.k (.v (.int .u8 116))], none⟩])
                          .ret)
                        (.seq
                          (.reg false [⟨some 13, [], .bin .eql, [.t 3, .k (.v (.int .u8 10))], none⟩,
                            ⟨some 12, [], .mv, [.t 13], none⟩])
                          (.cond (.t 12)
                            (.seq
                              (.reg false [⟨some 2, [], .mv, [.k (.v (.int .u8 110))], none⟩])
                              .ret)
                            (.seq
                              (.reg false [⟨some 15, [], .bin .eql, [.t 3, .k (.v (.int .u8 12))], none⟩,
                                ⟨some 14, [], .mv, [.t 15], none⟩])
                              (.cond (.t 14)
                                (.seq
                                  (.reg false [⟨some 2, [], .mv, [.k (.v (.int .u8 102))], none⟩])
                                  .ret)
                                (.seq
                                  (.reg false [⟨some 17, [], .bin .eql, [.t 3, .k (.v (.int .u8 13))], none⟩,
                                    ⟨some 16, [], .mv, [.t 17], none⟩])
                                  (.cond (.t 16)
                                    (.seq
                                      (.reg false [⟨some 2, [], .mv, [.k (.v (.int .u8 114))], none⟩])
                                      .ret)
                                    .skip))))))))))))))
        (.seq
          (.reg false [⟨some 2, [], .mv, [.k (.v (.int .u8 0))], none⟩])
          .ret)))
def fn57 : Fn := ⟨1, bd57, [.slot 2]⟩

/-- ndjq/vals.order[int] -/
def bd60 : C :=
    (.seq
      (.reg false [⟨some 4, [], .mv, [.k (.v (.int .i64 0))], none⟩])
      (.seq
        (.block 0
          (.seq
            (.reg false [⟨some 6, [], .mv, [.t 0], none⟩,
              ⟨some 7, [], .mv, [.t 1], none⟩,
              ⟨some 8, [], .bin .lss, [.t 6, .t 7], none⟩,
              ⟨some 5, [], .mv, [.t 8], none⟩])
            (.cond (.t 5)
              (.seq
                (.reg false [⟨some 4, [], .mv, [.k (.v (.int .i64 (-1)))], none⟩])
                .ret)
              (.seq
                (.reg false [⟨some 10, [], .mv, [.t 0], none⟩,
                  ⟨some 11, [], .mv, [.t 1], none⟩,
                  ⟨some 12, [], .bin .gtr, [.t 10, .t 11], none⟩,
                  ⟨some 9, [], .mv, [.t 12], none⟩])
                (.cond (.t 9)
                  (.seq
                    (.reg false [⟨some 4, [], .mv, [.k (.v (.int .i64 1))], none⟩])
                    .ret)
                  .skip)))))
        (.seq
          (.reg false [⟨some 4, [], .mv, [.k (.v (.int .i64 0))], none⟩])
          .ret)))
def fn60 : Fn := ⟨2, bd60, [.slot 4]⟩

/-- ndjq/vals.order[int64] -/
def bd61 : C :=
    (.seq
      (.reg false [⟨some 4, [], .mv, [.k (.v (.int .i64 0))], none⟩])
      (.seq
        (.block 0
          (.seq
            (.reg false [⟨some 6, [], .mv, [.t 0], none⟩,
              ⟨some 7, [], .mv, [.t 1], none⟩,
              ⟨some 8, [], .bin .lss, [.t 6, .t 7], none⟩,
              ⟨some 5, [], .mv, [.t 8], none⟩])
            (.cond (.t 5)
              (.seq
                (.reg false [⟨some 4, [], .mv, [.k (.v (.int .i64 (-1)))], none⟩])
                .ret)
              (.seq
                (.reg false [⟨some 10, [], .mv, [.t 0], none⟩,
                  ⟨some 11, [], .mv, [.t 1], none⟩,
                  ⟨some 12, [], .bin .gtr, [.t 10, .t 11], none⟩,
                  ⟨some 9, [], .mv, [.t 12], none⟩])
                (.cond (.t 9)
                  (.seq
                    (.reg false [⟨some 4, [], .mv, [.k (.v (.int .i64 1))], none⟩])
                    .ret)
                  .skip)))))
        (.seq
          (.reg false [⟨some 4, [], .mv, [.k (.v (.int .i64 0))], none⟩])
          .ret)))
def fn61 : Fn := ⟨2, bd61, [.slot 4]⟩

/-- strings.Compare -/
def bd62 : C :=
    (.seq
      (.reg false [⟨some 4, [], .mv, [.k (.v (.int .i64 0))], none⟩])
      (.seq
        (.reg false [⟨some 5, [], .mv, [.t 0], none⟩,
          ⟨some 6, [], .mv, [.t 1], none⟩,
          ⟨some 7, [], .call true, [.k (.v (.func (.func 70) #[] #[])), .t 5, .t 6], none⟩,
          ⟨some 4, [], .mv, [.t 7], none⟩])
        .ret))
def fn62 : Fn := ⟨2, bd62, [.slot 4]⟩

def fn63_l1 : C :=
  (.seq
    (.reg false [⟨some 12, [], .bin .lss, [.t 11, .t 10], none⟩])
    (.seq
      (.cond (.t 12)
        .skip
        (.exit 0))
      (.seq
        (.block 1
          (.seq
            (.reg false [⟨some 13, [], .mv, [.t 11], none⟩,
              ⟨some 14, [], .ia 1, [.t 9, .t 11], none⟩,
              ⟨some 15, [], .ldel 1 false, [.t 14], none⟩,
              ⟨some 5, [], .mv, [.t 13], none⟩,
              ⟨some 6, [], .mv, [.t 15], none⟩])
            (.seq
              (.seq
                (.reg false [⟨some 16, [], .mv, [.t 5], none⟩,
                  ⟨some 17, [], .mv, [.t 1], none⟩,
                  ⟨some 18, [], .len, [.t 17], none⟩,
                  ⟨some 19, [], .bin .geq, [.t 16, .t 18], none⟩])
                (.cond (.t 19)
                  (.seq
                    (.reg false [⟨some 4, [], .mv, [.k (.v (.int .i64 1))], none⟩])
                    .ret)
                  .skip))
              (.seq
                (.reg false [⟨some 20, [], .mv, [.t 1], none⟩,
                  ⟨some 21, [], .mv, [.t 5], none⟩,
                  ⟨some 22, [], .ia 1, [.t 20, .t 21], none⟩,
                  ⟨some 23, [], .ldel 1 false, [.t 22], none⟩,
                  ⟨some 7, [], .mv, [.t 23], none⟩])
                (.seq
                  (.reg false [⟨some 24, [], .mv, [.t 6], none⟩,
                    ⟨some 25, [], .mv, [.t 7], none⟩,
                    ⟨some 26, [], .call true, [.k (.v (.func (.func 71) #[] #[])), .t 24, .t 25], none⟩,
                    ⟨some 8, [], .mv, [.t 26], none⟩])
                  (.seq
                    (.reg false [⟨some 27, [], .mv, [.t 8], none⟩,
                      ⟨some 28, [], .bin .neq, [.t 27, .k (.v (.int .i64 0))], none⟩])
                    (.cond (.t 28)
                      (.seq
                        (.reg false [⟨some 29, [], .mv, [.t 8], none⟩,
                          ⟨some 4, [], .mv, [.t 29], none⟩])
                        .ret)
                      .skip)))))))
        (.reg false [⟨some 30, [], .bin .add, [.t 11, .k (.v (.int .i64 1))], none⟩,
          ⟨some 11, [], .mv, [.t 30], none⟩]))))
/-- slices.Compare[[]string,string] -/
def bd63 : C :=
    (.seq
      (.reg false [⟨some 4, [], .mv, [.k (.v (.int .i64 0))], none⟩])
      (.seq
        (.seq
          (.reg false [⟨some 9, [], .mv, [.t 0], none⟩,
            ⟨some 10, [], .len, [.t 9], none⟩,
            ⟨some 11, [], .mv, [.k (.v (.int .i64 0))], none⟩])
          (.block 0
            (.loop fn63_l1)))
        (.seq
          (.seq
            (.reg false [⟨some 31, [], .mv, [.t 0], none⟩,
              ⟨some 32, [], .len, [.t 31], none⟩,
              ⟨some 33, [], .mv, [.t 1], none⟩,
              ⟨some 34, [], .len, [.t 33], none⟩,
              ⟨some 35, [], .bin .lss, [.t 32, .t 34], none⟩])
            (.cond (.t 35)
              (.seq
                (.reg false [⟨some 4, [], .mv, [.k (.v (.int .i64 (-1)))], none⟩])
                .ret)
              .skip))
          (.seq
            (.reg false [⟨some 4, [], .mv, [.k (.v (.int .i64 0))], none⟩])
            .ret))))
def fn63 : Fn := ⟨2, bd63, [.slot 4]⟩

def fn64_l1 : C :=
  (.seq
    (.reg false [⟨some 14, [], .bin .lss, [.t 13, .t 12], none⟩])
    (.seq
      (.cond (.t 14)
        .skip
        (.exit 0))
      (.seq
        (.block 1
          (.seq
            (.reg false [⟨some 15, [], .mv, [.t 13], none⟩,
              ⟨some 16, [], .ia 5, [.t 11, .t 13], none⟩,
              ⟨some 17, [], .ldel 5 true, [.t 16], none⟩,
              ⟨some 8, [], .bnew 8 [(.v (.int .i64 0)), (.v (.int .i64 0)), (.v (.string ⟨#[]⟩)), (.sl .full (some true) []), (.sl .full (some true) [])], [], none⟩,
              ⟨some 7, [], .mv, [.t 15], none⟩,
              ⟨none, [], .bst 8 5 false, [.t 8, .t 17], none⟩])
            (.seq
              (.seq
                (.reg false [⟨some 18, [], .mv, [.t 7], none⟩,
                  ⟨some 19, [], .mv, [.t 1], none⟩,
                  ⟨some 20, [], .len, [.t 19], none⟩,
                  ⟨some 21, [], .bin .geq, [.t 18, .t 20], none⟩])
                (.cond (.t 21)
                  (.seq
                    (.reg false [⟨some 6, [], .mv, [.k (.v (.int .i64 1))], none⟩])
                    .ret)
                  .skip))
              (.seq
                (.reg false [⟨some 22, [], .mv, [.t 1], none⟩,
                  ⟨some 23, [], .mv, [.t 7], none⟩,
                  ⟨some 24, [], .ia 5, [.t 22, .t 23], none⟩,
                  ⟨some 25, [], .ldel 5 true, [.t 24], none⟩,
                  ⟨some 9, [], .bnew 9 [(.v (.int .i64 0)), (.v (.int .i64 0)), (.v (.string ⟨#[]⟩)), (.sl .full (some true) []), (.sl .full (some true) [])], [], none⟩,
                  ⟨none, [], .bst 9 5 false, [.t 9, .t 25], none⟩])
                (.seq
                  (.reg false [⟨some 26, [], .mv, [.t 2], none⟩,
                    ⟨some 27, [], .bld 8 5 true false, [.t 8], none⟩,
                    ⟨some 28, [], .bld 9 5 true false, [.t 9], none⟩,
                    ⟨some 29, [], .call true, [.t 26, .t 27, .t 28], none⟩,
                    ⟨some 10, [], .mv, [.t 29], none⟩])
                  (.seq
                    (.reg false [⟨some 30, [], .mv, [.t 10], none⟩,
                      ⟨some 31, [], .bin .neq, [.t 30, .k (.v (.int .i64 0))], none⟩])
                    (.cond (.t 31)
                      (.seq
                        (.reg false [⟨some 32, [], .mv, [.t 10], none⟩,
                          ⟨some 6, [], .mv, [.t 32], none⟩])
                        .ret)
                      .skip)))))))
        (.reg false [⟨some 33, [], .bin .add, [.t 13, .k (.v (.int .i64 1))], none⟩,
          ⟨some 13, [], .mv, [.t 33], none⟩]))))
/-- slices.CompareFunc[[]ndjq/api.Value,[]ndjq/api.Value,ndjq/api.Value,ndjq/api.Value] -/
def bd64 : C :=
    (.seq
      (.reg false [⟨some 6, [], .mv, [.k (.v (.int .i64 0))], none⟩])
      (.seq
        (.seq
          (.reg false [⟨some 11, [], .mv, [.t 0], none⟩,
            ⟨some 12, [], .len, [.t 11], none⟩,
            ⟨some 13, [], .mv, [.k (.v (.int .i64 0))], none⟩])
          (.block 0
            (.loop fn64_l1)))
        (.seq
          (.seq
            (.reg false [⟨some 34, [], .mv, [.t 0], none⟩,
              ⟨some 35, [], .len, [.t 34], none⟩,
              ⟨some 36, [], .mv, [.t 1], none⟩,
              ⟨some 37, [], .len, [.t 36], none⟩,
              ⟨some 38, [], .bin .lss, [.t 35, .t 37], none⟩])
            (.cond (.t 38)
              (.seq
                (.reg false [⟨some 6, [], .mv, [.k (.v (.int .i64 (-1)))], none⟩])
                .ret)
              .skip))
          (.seq
            (.reg false [⟨some 6, [], .mv, [.k (.v (.int .i64 0))], none⟩])
            .ret))))
def fn64 : Fn := ⟨3, bd64, [.slot 6]⟩

def fn65_l1 : C :=
  (.seq
    (.seq
      (.reg false [⟨some 9, [], .mv, [.t 5], none⟩,
        ⟨some 10, [], .mv, [.t 0], none⟩,
        ⟨some 11, [], .slen, [.t 10], none⟩,
        ⟨some 12, [], .bin .lss, [.t 9, .t 11], none⟩])
      (.cond (.t 12)
        .skip
        (.exit 0)))
    (.seq
      (.block 1
        (.seq
          (.reg false [⟨some 16, [], .mv, [.t 0], none⟩,
            ⟨some 17, [], .mv, [.t 5], none⟩,
            ⟨some 18, [], .call true, [.k (.v (.func (.func 32) #[] #[])), .t 16, .t 17], none⟩,
            ⟨some 15, [], .mv, [.t 18], none⟩,
            ⟨some 19, [], .ext 0, [.t 15], none⟩,
            ⟨some 20, [], .ext 1, [.t 15], none⟩,
            ⟨some 21, [], .ext 2, [.t 15], none⟩,
            ⟨some 6, [], .mv, [.t 19], none⟩,
            ⟨some 7, [], .mv, [.t 20], none⟩,
            ⟨some 8, [], .mv, [.t 21], none⟩])
          (.seq
            (.seq
              (.reg false [⟨some 22, [], .mv, [.t 8], none⟩,
                ⟨some 23, [], .un .not, [.t 22], none⟩])
              (.cond (.t 23)
                (.seq
                  (.reg false [⟨some 2, [], .mv, [.k (.v (.int .i64 0))], none⟩,
                    ⟨some 3, [], .mv, [.k (.v (.bool false))], none⟩])
                  .ret)
                .skip))
            (.reg false [⟨some 24, [], .mv, [.t 5], none⟩,
              ⟨some 25, [], .mv, [.t 7], none⟩,
              ⟨some 26, [], .bin .add, [.t 24, .t 25], none⟩,
              ⟨some 5, [], .mv, [.t 26], none⟩]))))
      (.reg false [⟨some 13, [], .mv, [.t 4], none⟩,
        ⟨some 14, [], .bin .add, [.t 13, .k (.v (.int .i64 1))], none⟩,
        ⟨some 4, [], .mv, [.t 14], none⟩])))
/-- ndjq/utf.Count -/
def bd65 : C :=
    (.seq
      (.reg false [⟨some 2, [], .mv, [.k (.v (.int .i64 0))], none⟩,
        ⟨some 3, [], .mv, [.k (.v (.bool false))], none⟩])
      (.seq
        (.reg false [⟨some 4, [], .mv, [.k (.v (.int .i64 0))], none⟩])
        (.seq
          (.seq
            (.reg false [⟨some 5, [], .mv, [.k (.v (.int .i64 0))], none⟩])
            (.block 0
              (.loop fn65_l1)))
          (.seq
            (.reg false [⟨some 27, [], .mv, [.t 4], none⟩,
              ⟨some 2, [], .mv, [.t 27], none⟩,
              ⟨some 3, [], .mv, [.k (.v (.bool true))], none⟩])
            .ret))))
def fn65 : Fn := ⟨1, bd65, [.slot 2, .slot 3]⟩

end Go.Pv.Try
