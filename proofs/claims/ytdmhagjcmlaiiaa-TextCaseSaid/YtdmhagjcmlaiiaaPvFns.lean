/- Pv: the functions of this seat, printed by wip/gen/gen.py out of their form in Lean. -/
import Derived.Test.YtdmhagjcmlaiiaaPvN
set_option linter.unusedVariables false
set_option maxRecDepth 100000
namespace Go.Pv.Try
/-- ndjq/ndjqlaw08.TextCut -/
def bd3 : C :=
    (.seq
      (.reg false [⟨some 4, [], .mv, [.k (.v (.bool false))], none⟩])
      (.seq
        (.seq
          (.reg false [⟨some 14, [], .mv, [.t 0], none⟩,
            ⟨some 15, [], .mv, [.t 1], none⟩,
            ⟨some 16, [], .bsl 1, [.t 14, .t 15], none⟩,
            ⟨some 17, [], .call true, [.k (.v (.func (.func 5) #[] #[])), .k (.v (.int .i64 60)), .t 16], none⟩,
            ⟨some 18, [], .un .not, [.t 17], none⟩,
            ⟨some 19, [], .mv, [.t 18], none⟩,
            ⟨some 20, [], .mv, [.t 0], (some (19, false))⟩,
            ⟨some 21, [], .call true, [.k (.v (.func (.func 7) #[] #[])), .t 20], (some (19, false))⟩,
            ⟨some 22, [], .call true, [.k (.v (.func (.func 6) #[] #[])), .t 21], (some (19, false))⟩,
            ⟨some 23, [], .un .not, [.t 22], (some (19, false))⟩,
            ⟨some 24, [], .pick, [.t 19, .k (.v (.bool true)), .t 23], none⟩,
            ⟨some 25, [], .mv, [.t 24], none⟩,
            ⟨some 26, [], .mv, [.t 1], (some (25, false))⟩,
            ⟨some 27, [], .call true, [.k (.v (.func (.func 7) #[] #[])), .t 26], (some (25, false))⟩,
            ⟨some 28, [], .call true, [.k (.v (.func (.func 6) #[] #[])), .t 27], (some (25, false))⟩,
            ⟨some 29, [], .un .not, [.t 28], (some (25, false))⟩,
            ⟨some 30, [], .pick, [.t 25, .k (.v (.bool true)), .t 29], none⟩])
          (.cond (.t 30)
            (.seq
              (.reg false [⟨some 31, [], .call true, [.k (.v (.func (.func 8) #[] #[]))], none⟩,
                ⟨some 4, [], .mv, [.t 31], none⟩])
              .ret)
            .skip))
        (.seq
          (.reg false [⟨some 32, [], .mv, [.t 0], none⟩,
            ⟨some 33, [], .mv, [.t 1], none⟩,
            ⟨some 34, [], .bin .add, [.t 32, .t 33], none⟩,
            ⟨some 35, [], .call true, [.k (.v (.func (.func 7) #[] #[])), .t 34], none⟩,
            ⟨some 5, [], .bnew 5 [(.v (.int .i64 0)), (.v (.int .i64 0)), (.v (.string ⟨#[]⟩)), (.sl .full (some true) []), (.sl .full (some true) [])], [], none⟩,
            ⟨none, [], .bst 5 5 false, [.t 5, .t 35], none⟩])
          (.seq
            (.reg true [⟨some 37, [], .bld 5 5 true false, [.t 5], none⟩,
              ⟨some 38, [], .mv, [.t 0], none⟩,
              ⟨some 39, [], .call true, [.k (.v (.func (.func 7) #[] #[])), .t 38], none⟩,
              ⟨some 40, [], .call true, [.k (.v (.func (.func 9) #[] #[])), .t 37, .t 39], none⟩,
              ⟨some 36, [], .mv, [.t 40], none⟩,
              ⟨some 41, [], .ext 0, [.t 36], none⟩,
              ⟨some 42, [], .ext 1, [.t 36], none⟩,
              ⟨some 6, [], .bnew 6 [(.v (.int .i64 0)), (.v (.int .i64 0)), (.v (.string ⟨#[]⟩)), (.sl .full (some true) []), (.sl .full (some true) [])], [], none⟩,
              ⟨none, [], .bst 6 5 false, [.t 6, .t 41], none⟩,
              ⟨some 7, [], .mv, [.t 42], none⟩])
            (.seq
              (.reg true [⟨some 44, [], .bld 5 5 true false, [.t 5], none⟩,
                ⟨some 45, [], .mv, [.t 1], none⟩,
                ⟨some 46, [], .call true, [.k (.v (.func (.func 7) #[] #[])), .t 45], none⟩,
                ⟨some 47, [], .call true, [.k (.v (.func (.func 10) #[] #[])), .t 44, .t 46], none⟩,
                ⟨some 43, [], .mv, [.t 47], none⟩,
                ⟨some 48, [], .ext 0, [.t 43], none⟩,
                ⟨some 49, [], .ext 1, [.t 43], none⟩,
                ⟨some 8, [], .bnew 8 [(.v (.int .i64 0)), (.v (.int .i64 0)), (.v (.string ⟨#[]⟩)), (.sl .full (some true) []), (.sl .full (some true) [])], [], none⟩,
                ⟨none, [], .bst 8 5 false, [.t 8, .t 48], none⟩,
                ⟨some 9, [], .mv, [.t 49], none⟩])
              (.seq
                (.reg true [⟨some 51, [], .bld 5 5 true false, [.t 5], none⟩,
                  ⟨some 52, [], .mv, [.t 0], none⟩,
                  ⟨some 53, [], .call true, [.k (.v (.func (.func 7) #[] #[])), .t 52], none⟩,
                  ⟨some 54, [], .call true, [.k (.v (.func (.func 11) #[] #[])), .t 51, .t 53], none⟩,
                  ⟨some 50, [], .mv, [.t 54], none⟩,
                  ⟨some 55, [], .ext 0, [.t 50], none⟩,
                  ⟨some 56, [], .ext 1, [.t 50], none⟩,
                  ⟨some 10, [], .bnew 10 [(.v (.int .i64 0)), (.v (.int .i64 0)), (.v (.string ⟨#[]⟩)), (.sl .full (some true) []), (.sl .full (some true) [])], [], none⟩,
                  ⟨none, [], .bst 10 5 false, [.t 10, .t 55], none⟩,
                  ⟨some 11, [], .mv, [.t 56], none⟩])
                (.seq
                  (.reg true [⟨some 58, [], .bld 5 5 true false, [.t 5], none⟩,
                    ⟨some 59, [], .mv, [.t 1], none⟩,
                    ⟨some 60, [], .call true, [.k (.v (.func (.func 7) #[] #[])), .t 59], none⟩,
                    ⟨some 61, [], .call true, [.k (.v (.func (.func 12) #[] #[])), .t 58, .t 60], none⟩,
                    ⟨some 57, [], .mv, [.t 61], none⟩,
                    ⟨some 62, [], .ext 0, [.t 57], none⟩,
                    ⟨some 63, [], .ext 1, [.t 57], none⟩,
                    ⟨some 12, [], .bnew 12 [(.v (.int .i64 0)), (.v (.int .i64 0)), (.v (.string ⟨#[]⟩)), (.sl .full (some true) []), (.sl .full (some true) [])], [], none⟩,
                    ⟨none, [], .bst 12 5 false, [.t 12, .t 62], none⟩,
                    ⟨some 13, [], .mv, [.t 63], none⟩])
                  (.seq
                    (.reg false [⟨some 64, [], .mv, [.t 7], none⟩,
                      ⟨some 65, [], .bin .eql, [.t 64, .k (.v (.int .i64 0))], none⟩,
                      ⟨some 66, [], .mv, [.t 65], none⟩,
                      ⟨some 67, [], .mv, [.t 9], (some (66, true))⟩,
                      ⟨some 68, [], .bin .eql, [.t 67, .k (.v (.int .i64 0))], (some (66, true))⟩,
                      ⟨some 69, [], .pick, [.t 66, .t 68, .k (.v (.bool false))], none⟩,
                      ⟨some 70, [], .mv, [.t 69], none⟩,
                      ⟨some 71, [], .mv, [.t 11], (some (70, true))⟩,
                      ⟨some 72, [], .bin .eql, [.t 71, .k (.v (.int .i64 0))], (some (70, true))⟩,
                      ⟨some 73, [], .pick, [.t 70, .t 72, .k (.v (.bool false))], none⟩,
                      ⟨some 74, [], .mv, [.t 73], none⟩,
                      ⟨some 75, [], .mv, [.t 13], (some (74, true))⟩,
                      ⟨some 76, [], .bin .eql, [.t 75, .k (.v (.int .i64 0))], (some (74, true))⟩,
                      ⟨some 77, [], .pick, [.t 74, .t 76, .k (.v (.bool false))], none⟩,
                      ⟨some 78, [], .mv, [.t 77], none⟩,
                      ⟨some 79, [], .fa 0, [.t 6], (some (78, true))⟩,
                      ⟨some 80, [], .bld 6 1 false false, [.t 79], (some (78, true))⟩,
                      ⟨some 81, [], .bin .eql, [.t 80, .k (.v (.int .i64 2))], (some (78, true))⟩,
                      ⟨some 82, [], .pick, [.t 78, .t 81, .k (.v (.bool false))], none⟩,
                      ⟨some 83, [], .mv, [.t 82], none⟩,
                      ⟨some 84, [], .fa 0, [.t 8], (some (83, true))⟩,
                      ⟨some 85, [], .bld 8 1 false false, [.t 84], (some (83, true))⟩,
                      ⟨some 86, [], .bin .eql, [.t 85, .k (.v (.int .i64 2))], (some (83, true))⟩,
                      ⟨some 87, [], .pick, [.t 83, .t 86, .k (.v (.bool false))], none⟩,
                      ⟨some 88, [], .mv, [.t 87], none⟩,
                      ⟨some 89, [], .fa 2, [.t 10], (some (88, true))⟩,
                      ⟨some 90, [], .bld 10 1 false false, [.t 89], (some (88, true))⟩,
                      ⟨some 91, [], .mv, [.t 1], (some (88, true))⟩,
                      ⟨some 92, [], .bin .eql, [.t 90, .t 91], (some (88, true))⟩,
                      ⟨some 93, [], .pick, [.t 88, .t 92, .k (.v (.bool false))], none⟩,
                      ⟨some 94, [], .mv, [.t 93], none⟩,
                      ⟨some 95, [], .fa 2, [.t 12], (some (94, true))⟩,
                      ⟨some 96, [], .bld 12 1 false false, [.t 95], (some (94, true))⟩,
                      ⟨some 97, [], .mv, [.t 0], (some (94, true))⟩,
                      ⟨some 98, [], .bin .eql, [.t 96, .t 97], (some (94, true))⟩,
                      ⟨some 99, [], .pick, [.t 94, .t 98, .k (.v (.bool false))], none⟩,
                      ⟨some 100, [], .mv, [.t 99], none⟩,
                      ⟨some 101, [], .call true, [.k (.v (.func (.func 8) #[] #[]))], (some (100, true))⟩,
                      ⟨some 102, [], .pick, [.t 100, .t 101, .k (.v (.bool false))], none⟩,
                      ⟨some 4, [], .mv, [.t 102], none⟩])
                    .ret))))))))
def fn3 : Fn := ⟨2, bd3, [.slot 4]⟩

def fn4_l1 : C :=
  (.seq
    (.seq
      (.reg false [⟨some 83, [], .mv, [.t 11], none⟩,
        ⟨some 84, [], .mv, [.t 0], none⟩,
        ⟨some 85, [], .slen, [.t 84], none⟩,
        ⟨some 86, [], .bin .lss, [.t 83, .t 85], none⟩])
      (.cond (.t 86)
        .skip
        (.exit 0)))
    (.seq
      (.block 1
        (.seq
          (.reg true [⟨some 89, [], .mv, [.t 0], none⟩,
            ⟨some 90, [], .mv, [.t 11], none⟩,
            ⟨some 91, [], .ix, [.t 89, .t 90], none⟩,
            ⟨some 92, [], .fa 2, [.t 3], none⟩,
            ⟨some 93, [], .bld 3 1 false false, [.t 92], none⟩,
            ⟨some 94, [], .mv, [.t 11], none⟩,
            ⟨some 95, [], .ix, [.t 93, .t 94], none⟩,
            ⟨some 12, [], .mv, [.t 91], none⟩,
            ⟨some 13, [], .mv, [.t 95], none⟩])
          (.seq
            (.reg false [⟨some 96, [], .mv, [.t 12], none⟩,
              ⟨some 97, [], .bin .geq, [.t 96, .k (.v (.int .u8 65))], none⟩,
              ⟨some 98, [], .mv, [.t 97], none⟩,
              ⟨some 99, [], .mv, [.t 12], (some (98, true))⟩,
              ⟨some 100, [], .bin .leq, [.t 99, .k (.v (.int .u8 90))], (some (98, true))⟩,
              ⟨some 101, [], .pick, [.t 98, .t 100, .k (.v (.bool false))], none⟩,
              ⟨some 102, [], .mv, [.t 101], none⟩,
              ⟨some 103, [], .mv, [.t 13], (some (102, true))⟩,
              ⟨some 104, [], .mv, [.t 12], (some (102, true))⟩,
              ⟨some 105, [], .bin .add, [.t 104, .k (.v (.int .u8 32))], (some (102, true))⟩,
              ⟨some 106, [], .bin .neq, [.t 103, .t 105], (some (102, true))⟩,
              ⟨some 107, [], .pick, [.t 102, .t 106, .k (.v (.bool false))], none⟩,
              ⟨some 108, [], .mv, [.t 107], none⟩,
              ⟨some 109, [], .mv, [.t 12], (some (108, false))⟩,
              ⟨some 110, [], .bin .lss, [.t 109, .k (.v (.int .u8 65))], (some (108, false))⟩,
              ⟨some 111, [], .mv, [.t 110], (some (108, false))⟩,
              ⟨some 112, [], .mv, [.t 12], (some (111, false))⟩,
              ⟨some 113, [], .bin .gtr, [.t 112, .k (.v (.int .u8 90))], (some (111, false))⟩,
              ⟨some 114, [], .pick, [.t 111, .k (.v (.bool true)), .t 113], (some (108, false))⟩,
              ⟨some 115, [], .mv, [.t 114], (some (108, false))⟩,
              ⟨some 116, [], .mv, [.t 13], (some (115, true))⟩,
              ⟨some 117, [], .mv, [.t 12], (some (115, true))⟩,
              ⟨some 118, [], .bin .neq, [.t 116, .t 117], (some (115, true))⟩,
              ⟨some 119, [], .pick, [.t 115, .t 118, .k (.v (.bool false))], (some (108, false))⟩,
              ⟨some 120, [], .pick, [.t 108, .k (.v (.bool true)), .t 119], none⟩])
            (.cond (.t 120)
              (.seq
                (.reg false [⟨some 2, [], .mv, [.k (.v (.bool false))], none⟩])
                .ret)
              .skip))))
      (.reg false [⟨some 87, [], .mv, [.t 11], none⟩,
        ⟨some 88, [], .bin .add, [.t 87, .k (.v (.int .i64 1))], none⟩,
        ⟨some 11, [], .mv, [.t 88], none⟩])))
def fn4_l2 : C :=
  (.seq
    (.seq
      (.reg false [⟨some 121, [], .mv, [.t 14], none⟩,
        ⟨some 122, [], .mv, [.t 0], none⟩,
        ⟨some 123, [], .slen, [.t 122], none⟩,
        ⟨some 124, [], .bin .lss, [.t 121, .t 123], none⟩,
        ⟨some 125, [], .mv, [.t 124], none⟩,
        ⟨some 126, [], .mv, [.t 0], (some (125, true))⟩,
        ⟨some 127, [], .mv, [.t 14], (some (125, true))⟩,
        ⟨some 128, [], .ix, [.t 126, .t 127], (some (125, true))⟩,
        ⟨some 129, [], .bin .eql, [.t 128, .k (.v (.int .u8 32))], (some (125, true))⟩,
        ⟨some 130, [], .mv, [.t 129], (some (125, true))⟩,
        ⟨some 131, [], .mv, [.t 0], (some (130, false))⟩,
        ⟨some 132, [], .mv, [.t 14], (some (130, false))⟩,
        ⟨some 133, [], .ix, [.t 131, .t 132], (some (130, false))⟩,
        ⟨some 134, [], .bin .eql, [.t 133, .k (.v (.int .u8 9))], (some (130, false))⟩,
        ⟨some 135, [], .pick, [.t 130, .k (.v (.bool true)), .t 134], (some (125, true))⟩,
        ⟨some 136, [], .mv, [.t 135], (some (125, true))⟩,
        ⟨some 137, [], .mv, [.t 0], (some (136, false))⟩,
        ⟨some 138, [], .mv, [.t 14], (some (136, false))⟩,
        ⟨some 139, [], .ix, [.t 137, .t 138], (some (136, false))⟩,
        ⟨some 140, [], .bin .eql, [.t 139, .k (.v (.int .u8 10))], (some (136, false))⟩,
        ⟨some 141, [], .pick, [.t 136, .k (.v (.bool true)), .t 140], (some (125, true))⟩,
        ⟨some 142, [], .mv, [.t 141], (some (125, true))⟩,
        ⟨some 143, [], .mv, [.t 0], (some (142, false))⟩,
        ⟨some 144, [], .mv, [.t 14], (some (142, false))⟩,
        ⟨some 145, [], .ix, [.t 143, .t 144], (some (142, false))⟩,
        ⟨some 146, [], .bin .eql, [.t 145, .k (.v (.int .u8 13))], (some (142, false))⟩,
        ⟨some 147, [], .pick, [.t 142, .k (.v (.bool true)), .t 146], (some (125, true))⟩,
        ⟨some 148, [], .pick, [.t 125, .t 147, .k (.v (.bool false))], none⟩])
      (.cond (.t 148)
        .skip
        (.exit 2)))
    (.block 3
      (.reg false [⟨some 149, [], .mv, [.t 14], none⟩,
        ⟨some 150, [], .bin .add, [.t 149, .k (.v (.int .i64 1))], none⟩,
        ⟨some 14, [], .mv, [.t 150], none⟩])))
/-- ndjq/ndjqlaw08.TextCase -/
def bd4 : C :=
    (.seq
      (.reg false [⟨some 2, [], .mv, [.k (.v (.bool false))], none⟩])
      (.seq
        (.seq
          (.reg false [⟨some 15, [], .mv, [.t 0], none⟩,
            ⟨some 16, [], .slen, [.t 15], none⟩,
            ⟨some 17, [], .bin .gtr, [.t 16, .k (.v (.int .i64 100))], none⟩,
            ⟨some 18, [], .mv, [.t 17], none⟩,
            ⟨some 19, [], .mv, [.t 0], (some (18, false))⟩,
            ⟨some 20, [], .call true, [.k (.v (.func (.func 7) #[] #[])), .t 19], (some (18, false))⟩,
            ⟨some 21, [], .call true, [.k (.v (.func (.func 6) #[] #[])), .t 20], (some (18, false))⟩,
            ⟨some 22, [], .un .not, [.t 21], (some (18, false))⟩,
            ⟨some 23, [], .pick, [.t 18, .k (.v (.bool true)), .t 22], none⟩])
          (.cond (.t 23)
            (.seq
              (.reg false [⟨some 24, [], .call true, [.k (.v (.func (.func 8) #[] #[]))], none⟩,
                ⟨some 2, [], .mv, [.t 24], none⟩])
              .ret)
            .skip))
        (.seq
          (.reg false [⟨some 26, [], .mv, [.t 0], none⟩,
            ⟨some 27, [], .call true, [.k (.v (.func (.func 7) #[] #[])), .t 26], none⟩,
            ⟨some 28, [], .call true, [.k (.v (.func (.func 13) #[] #[])), .t 27], none⟩,
            ⟨some 25, [], .mv, [.t 28], none⟩,
            ⟨some 29, [], .ext 0, [.t 25], none⟩,
            ⟨some 30, [], .ext 1, [.t 25], none⟩,
            ⟨some 3, [], .bnew 3 [(.v (.int .i64 0)), (.v (.int .i64 0)), (.v (.string ⟨#[]⟩)), (.sl .full (some true) []), (.sl .full (some true) [])], [], none⟩,
            ⟨none, [], .bst 3 5 false, [.t 3, .t 29], none⟩,
            ⟨some 4, [], .mv, [.t 30], none⟩])
          (.seq
            (.reg false [⟨some 32, [], .bld 3 5 true false, [.t 3], none⟩,
              ⟨some 33, [], .call true, [.k (.v (.func (.func 14) #[] #[])), .t 32], none⟩,
              ⟨some 31, [], .mv, [.t 33], none⟩,
              ⟨some 34, [], .ext 0, [.t 31], none⟩,
              ⟨some 35, [], .ext 1, [.t 31], none⟩,
              ⟨some 5, [], .bnew 5 [(.v (.int .i64 0)), (.v (.int .i64 0)), (.v (.string ⟨#[]⟩)), (.sl .full (some true) []), (.sl .full (some true) [])], [], none⟩,
              ⟨none, [], .bst 5 5 false, [.t 5, .t 34], none⟩,
              ⟨some 6, [], .mv, [.t 35], none⟩])
            (.seq
              (.reg false [⟨some 37, [], .bld 5 5 true false, [.t 5], none⟩,
                ⟨some 38, [], .call true, [.k (.v (.func (.func 13) #[] #[])), .t 37], none⟩,
                ⟨some 36, [], .mv, [.t 38], none⟩,
                ⟨some 39, [], .ext 0, [.t 36], none⟩,
                ⟨some 40, [], .ext 1, [.t 36], none⟩,
                ⟨some 7, [], .bnew 7 [(.v (.int .i64 0)), (.v (.int .i64 0)), (.v (.string ⟨#[]⟩)), (.sl .full (some true) []), (.sl .full (some true) [])], [], none⟩,
                ⟨none, [], .bst 7 5 false, [.t 7, .t 39], none⟩,
                ⟨some 8, [], .mv, [.t 40], none⟩])
              (.seq
                (.reg false [⟨some 42, [], .mv, [.t 0], none⟩,
                  ⟨some 43, [], .call true, [.k (.v (.func (.func 7) #[] #[])), .t 42], none⟩,
                  ⟨some 44, [], .call true, [.k (.v (.func (.func 15) #[] #[])), .t 43], none⟩,
                  ⟨some 41, [], .mv, [.t 44], none⟩,
                  ⟨some 45, [], .ext 0, [.t 41], none⟩,
                  ⟨some 46, [], .ext 1, [.t 41], none⟩,
                  ⟨some 9, [], .bnew 9 [(.v (.int .i64 0)), (.v (.int .i64 0)), (.v (.string ⟨#[]⟩)), (.sl .full (some true) []), (.sl .full (some true) [])], [], none⟩,
                  ⟨none, [], .bst 9 5 false, [.t 9, .t 45], none⟩,
                  ⟨some 10, [], .mv, [.t 46], none⟩])
                (.seq
                  (.seq
                    (.reg false [⟨some 47, [], .mv, [.t 4], none⟩,
                      ⟨some 48, [], .bin .neq, [.t 47, .k (.v (.int .i64 0))], none⟩,
                      ⟨some 49, [], .mv, [.t 48], none⟩,
                      ⟨some 50, [], .mv, [.t 6], (some (49, false))⟩,
                      ⟨some 51, [], .bin .neq, [.t 50, .k (.v (.int .i64 0))], (some (49, false))⟩,
                      ⟨some 52, [], .pick, [.t 49, .k (.v (.bool true)), .t 51], none⟩,
                      ⟨some 53, [], .mv, [.t 52], none⟩,
                      ⟨some 54, [], .mv, [.t 8], (some (53, false))⟩,
                      ⟨some 55, [], .bin .neq, [.t 54, .k (.v (.int .i64 0))], (some (53, false))⟩,
                      ⟨some 56, [], .pick, [.t 53, .k (.v (.bool true)), .t 55], none⟩,
                      ⟨some 57, [], .mv, [.t 56], none⟩,
                      ⟨some 58, [], .mv, [.t 10], (some (57, false))⟩,
                      ⟨some 59, [], .bin .neq, [.t 58, .k (.v (.int .i64 0))], (some (57, false))⟩,
                      ⟨some 60, [], .pick, [.t 57, .k (.v (.bool true)), .t 59], none⟩,
                      ⟨some 61, [], .mv, [.t 60], none⟩,
                      ⟨some 62, [], .bld 3 5 true false, [.t 3], (some (61, false))⟩,
                      ⟨some 63, [], .bld 7 5 true false, [.t 7], (some (61, false))⟩,
                      ⟨some 64, [], .call true, [.k (.v (.func (.func 16) #[] #[])), .t 62, .t 63], (some (61, false))⟩,
                      ⟨some 65, [], .un .not, [.t 64], (some (61, false))⟩,
                      ⟨some 66, [], .pick, [.t 61, .k (.v (.bool true)), .t 65], none⟩,
                      ⟨some 67, [], .mv, [.t 66], none⟩,
                      ⟨some 68, [], .fa 2, [.t 3], (some (67, false))⟩,
                      ⟨some 69, [], .bld 3 1 false false, [.t 68], (some (67, false))⟩,
                      ⟨some 70, [], .slen, [.t 69], (some (67, false))⟩,
                      ⟨some 71, [], .mv, [.t 0], (some (67, false))⟩,
                      ⟨some 72, [], .slen, [.t 71], (some (67, false))⟩,
                      ⟨some 73, [], .bin .neq, [.t 70, .t 72], (some (67, false))⟩,
                      ⟨some 74, [], .pick, [.t 67, .k (.v (.bool true)), .t 73], none⟩,
                      ⟨some 75, [], .mv, [.t 74], none⟩,
                      ⟨some 76, [], .fa 2, [.t 9], (some (75, false))⟩,
                      ⟨some 77, [], .bld 9 1 false false, [.t 76], (some (75, false))⟩,
                      ⟨some 78, [], .slen, [.t 77], (some (75, false))⟩,
                      ⟨some 79, [], .mv, [.t 0], (some (75, false))⟩,
                      ⟨some 80, [], .slen, [.t 79], (some (75, false))⟩,
                      ⟨some 81, [], .bin .gtr, [.t 78, .t 80], (some (75, false))⟩,
                      ⟨some 82, [], .pick, [.t 75, .k (.v (.bool true)), .t 81], none⟩])
                    (.cond (.t 82)
                      (.seq
                        (.reg false [⟨some 2, [], .mv, [.k (.v (.bool false))], none⟩])
                        .ret)
                      .skip))
                  (.seq
                    (.seq
                      (.reg false [⟨some 11, [], .mv, [.k (.v (.int .i64 0))], none⟩])
                      (.block 0
                        (.loop fn4_l1)))
                    (.seq
                      (.reg false [⟨some 14, [], .mv, [.k (.v (.int .i64 0))], none⟩])
                      (.seq
                        (.block 2
                          (.loop fn4_l2))
                        (.seq
                          (.reg true [⟨some 151, [], .fa 2, [.t 9], none⟩,
                            ⟨some 152, [], .bld 9 1 false false, [.t 151], none⟩,
                            ⟨some 153, [], .mv, [.t 0], none⟩,
                            ⟨some 154, [], .mv, [.t 14], none⟩,
                            ⟨some 155, [], .sslice true false, [.t 153, .t 154], none⟩,
                            ⟨some 156, [], .call true, [.k (.v (.func (.func 17) #[] #[])), .t 152, .t 155], none⟩,
                            ⟨some 157, [], .mv, [.t 156], none⟩,
                            ⟨some 158, [], .call true, [.k (.v (.func (.func 8) #[] #[]))], (some (157, true))⟩,
                            ⟨some 159, [], .pick, [.t 157, .t 158, .k (.v (.bool false))], none⟩,
                            ⟨some 2, [], .mv, [.t 159], none⟩])
                          .ret)))))))))))
def fn4 : Fn := ⟨1, bd4, [.slot 2]⟩

def fn5_l1 : C :=
  (.seq
    (.seq
      (.reg false [⟨some 6, [], .mv, [.t 5], none⟩,
        ⟨some 7, [], .mv, [.t 1], none⟩,
        ⟨some 8, [], .len, [.t 7], none⟩,
        ⟨some 9, [], .bin .lss, [.t 6, .t 8], none⟩])
      (.cond (.t 9)
        .skip
        (.exit 0)))
    (.seq
      (.block 1
        (.seq
          (.reg false [⟨some 12, [], .mv, [.t 1], none⟩,
            ⟨some 13, [], .mv, [.t 5], none⟩,
            ⟨some 14, [], .ia 1, [.t 12, .t 13], none⟩,
            ⟨some 15, [], .ldel 1 false, [.t 14], none⟩,
            ⟨some 16, [], .slen, [.t 15], none⟩,
            ⟨some 17, [], .mv, [.t 0], none⟩,
            ⟨some 18, [], .bin .gtr, [.t 16, .t 17], none⟩])
          (.cond (.t 18)
            (.seq
              (.reg false [⟨some 4, [], .mv, [.k (.v (.bool false))], none⟩])
              .ret)
            .skip)))
      (.reg false [⟨some 10, [], .mv, [.t 5], none⟩,
        ⟨some 11, [], .bin .add, [.t 10, .k (.v (.int .i64 1))], none⟩,
        ⟨some 5, [], .mv, [.t 11], none⟩])))
/-- ndjq/ndjqkeep.Short -/
def bd5 : C :=
    (.seq
      (.reg false [⟨some 4, [], .mv, [.k (.v (.bool false))], none⟩])
      (.seq
        (.seq
          (.reg false [⟨some 5, [], .mv, [.k (.v (.int .i64 0))], none⟩])
          (.block 0
            (.loop fn5_l1)))
        (.seq
          (.reg false [⟨some 4, [], .mv, [.k (.v (.bool true))], none⟩])
          .ret)))
def fn5 : Fn := ⟨2, bd5, [.slot 4]⟩

/-- ndjq/value.Valid -/
def bd6 : C :=
    (.seq
      (.reg false [⟨some 1, [], .bbox 1, [.t 0], none⟩,
        ⟨some 2, [], .mv, [.k (.v (.bool false))], none⟩])
      (.seq
        (.reg false [⟨some 3, [], .bld 1 5 true false, [.t 1], none⟩,
          ⟨some 4, [], .call true, [.k (.v (.func (.func 18) #[] #[])), .t 3], none⟩,
          ⟨some 2, [], .mv, [.t 4], none⟩])
        .ret))
def fn6 : Fn := ⟨1, bd6, [.slot 2]⟩

/-- ndjq/ndjqlaw08.str -/
def bd7 : C :=
    (.seq
      (.reg false [⟨some 2, [], .bnew 2 [(.v (.int .i64 0)), (.v (.int .i64 0)), (.v (.string ⟨#[]⟩)), (.sl .full (some true) []), (.sl .full (some true) [])], [], none⟩])
      (.seq
        (.reg false [⟨some 3, [], .mv, [.t 0], none⟩,
          ⟨some 4, [], .build [(.v (.int .i64 0)), (.v (.int .i64 0)), (.v (.string ⟨#[]⟩)), (.sl .full (some true) []), (.sl .full (some true) [])] [(0, 1), (2, 1)], [.k (.v (.int .i64 4)), .t 3], none⟩,
          ⟨none, [], .bst 2 5 false, [.t 2, .t 4], none⟩])
        .ret))
def fn7 : Fn := ⟨1, bd7, [.cell 2 5 true]⟩

/-- ndjq/ndjqlaw08.awake -/
def bd8 : C :=
    (.seq
      (.reg false [⟨some 0, [], .mv, [.k (.v (.bool false))], none⟩])
      (.seq
        (.reg false [⟨some 6, [], .call true, [.k (.v (.func (.func 7) #[] #[])), .k (.v (.string ⟨#[97, 97, 97]⟩))], none⟩,
          ⟨some 7, [], .call true, [.k (.v (.func (.func 7) #[] #[])), .k (.v (.string ⟨#[97, 97]⟩))], none⟩,
          ⟨some 8, [], .call true, [.k (.v (.func (.func 19) #[] #[])), .t 6, .t 7], none⟩,
          ⟨some 5, [], .mv, [.t 8], none⟩,
          ⟨some 9, [], .ext 0, [.t 5], none⟩,
          ⟨some 10, [], .ext 1, [.t 5], none⟩,
          ⟨some 1, [], .bnew 1 [(.v (.int .i64 0)), (.v (.int .i64 0)), (.v (.string ⟨#[]⟩)), (.sl .full (some true) []), (.sl .full (some true) [])], [], none⟩,
          ⟨none, [], .bst 1 5 false, [.t 1, .t 9], none⟩,
          ⟨some 2, [], .mv, [.t 10], none⟩])
        (.seq
          (.reg false [⟨some 12, [], .call true, [.k (.v (.func (.func 7) #[] #[])), .k (.v (.string ⟨#[97, 98, 99]⟩))], none⟩,
            ⟨some 13, [], .call true, [.k (.v (.func (.func 7) #[] #[])), .k (.v (.string ⟨#[97, 98]⟩))], none⟩,
            ⟨some 14, [], .call true, [.k (.v (.func (.func 11) #[] #[])), .t 12, .t 13], none⟩,
            ⟨some 11, [], .mv, [.t 14], none⟩,
            ⟨some 15, [], .ext 0, [.t 11], none⟩,
            ⟨some 16, [], .ext 1, [.t 11], none⟩,
            ⟨some 3, [], .bnew 3 [(.v (.int .i64 0)), (.v (.int .i64 0)), (.v (.string ⟨#[]⟩)), (.sl .full (some true) []), (.sl .full (some true) [])], [], none⟩,
            ⟨none, [], .bst 3 5 false, [.t 3, .t 15], none⟩,
            ⟨some 4, [], .mv, [.t 16], none⟩])
          (.seq
            (.reg false [⟨some 17, [], .mv, [.t 2], none⟩,
              ⟨some 18, [], .bin .eql, [.t 17, .k (.v (.int .i64 0))], none⟩,
              ⟨some 19, [], .mv, [.t 18], none⟩,
              ⟨some 20, [], .mv, [.t 4], (some (19, true))⟩,
              ⟨some 21, [], .bin .eql, [.t 20, .k (.v (.int .i64 0))], (some (19, true))⟩,
              ⟨some 22, [], .pick, [.t 19, .t 21, .k (.v (.bool false))], none⟩,
              ⟨some 23, [], .mv, [.t 22], none⟩,
              ⟨some 24, [], .fa 4, [.t 1], (some (23, true))⟩,
              ⟨some 25, [], .bld 1 1 false false, [.t 24], (some (23, true))⟩,
              ⟨some 26, [], .len, [.t 25], (some (23, true))⟩,
              ⟨some 27, [], .bin .eql, [.t 26, .k (.v (.int .i64 2))], (some (23, true))⟩,
              ⟨some 28, [], .pick, [.t 23, .t 27, .k (.v (.bool false))], none⟩,
              ⟨some 29, [], .mv, [.t 28], none⟩,
              ⟨some 30, [], .fa 4, [.t 1], (some (29, true))⟩,
              ⟨some 31, [], .bld 1 1 false false, [.t 30], (some (29, true))⟩,
              ⟨some 32, [], .ia 5, [.t 31, .k (.v (.int .i64 1))], (some (29, true))⟩,
              ⟨some 33, [], .fa 1, [.t 32], (some (29, true))⟩,
              ⟨some 34, [], .ldel 1 false, [.t 33], (some (29, true))⟩,
              ⟨some 35, [], .bin .eql, [.t 34, .k (.v (.int .i64 1))], (some (29, true))⟩,
              ⟨some 36, [], .pick, [.t 29, .t 35, .k (.v (.bool false))], none⟩,
              ⟨some 37, [], .mv, [.t 36], none⟩,
              ⟨some 38, [], .fa 2, [.t 3], (some (37, true))⟩,
              ⟨some 39, [], .bld 3 1 false false, [.t 38], (some (37, true))⟩,
              ⟨some 40, [], .bin .eql, [.t 39, .k (.v (.string ⟨#[99]⟩))], (some (37, true))⟩,
              ⟨some 41, [], .pick, [.t 37, .t 40, .k (.v (.bool false))], none⟩,
              ⟨some 0, [], .mv, [.t 41], none⟩])
            .ret))))
def fn8 : Fn := ⟨0, bd8, [.slot 0]⟩

/-- ndjq/text.StartsWith -/
def bd9 : C :=
    (.seq
      (.reg false [⟨some 2, [], .bbox 2, [.t 0], none⟩,
        ⟨some 3, [], .bbox 3, [.t 1], none⟩,
        ⟨some 4, [], .bnew 4 [(.v (.int .i64 0)), (.v (.int .i64 0)), (.v (.string ⟨#[]⟩)), (.sl .full (some true) []), (.sl .full (some true) [])], [], none⟩,
        ⟨some 5, [], .mv, [.k (.v (.int .i64 0))], none⟩])
      (.seq
        (.reg false [⟨some 6, [], .bld 2 5 true false, [.t 2], none⟩,
          ⟨some 7, [], .bld 3 5 true false, [.t 3], none⟩,
          ⟨some 8, [], .bsl 5, [.t 6, .t 7], none⟩,
          ⟨some 9, [], .call true, [.k (.v (.func (.func 20) #[] #[])), .k (.v (.func (.func 21) #[] #[])), .t 8], none⟩,
          ⟨some 10, [], .ext 0, [.t 9], none⟩,
          ⟨some 11, [], .ext 1, [.t 9], none⟩,
          ⟨none, [], .bst 4 5 false, [.t 4, .t 10], none⟩,
          ⟨some 5, [], .mv, [.t 11], none⟩])
        .ret))
def fn9 : Fn := ⟨2, bd9, [.cell 4 5 true, .slot 5]⟩

/-- ndjq/text.EndsWith -/
def bd10 : C :=
    (.seq
      (.reg false [⟨some 2, [], .bbox 2, [.t 0], none⟩,
        ⟨some 3, [], .bbox 3, [.t 1], none⟩,
        ⟨some 4, [], .bnew 4 [(.v (.int .i64 0)), (.v (.int .i64 0)), (.v (.string ⟨#[]⟩)), (.sl .full (some true) []), (.sl .full (some true) [])], [], none⟩,
        ⟨some 5, [], .mv, [.k (.v (.int .i64 0))], none⟩])
      (.seq
        (.reg false [⟨some 6, [], .bld 2 5 true false, [.t 2], none⟩,
          ⟨some 7, [], .bld 3 5 true false, [.t 3], none⟩,
          ⟨some 8, [], .bsl 5, [.t 6, .t 7], none⟩,
          ⟨some 9, [], .call true, [.k (.v (.func (.func 20) #[] #[])), .k (.v (.func (.func 23) #[] #[])), .t 8], none⟩,
          ⟨some 10, [], .ext 0, [.t 9], none⟩,
          ⟨some 11, [], .ext 1, [.t 9], none⟩,
          ⟨none, [], .bst 4 5 false, [.t 4, .t 10], none⟩,
          ⟨some 5, [], .mv, [.t 11], none⟩])
        .ret))
def fn10 : Fn := ⟨2, bd10, [.cell 4 5 true, .slot 5]⟩

/-- ndjq/text.CutPrefix -/
def bd11 : C :=
    (.seq
      (.reg false [⟨some 2, [], .bbox 2, [.t 0], none⟩,
        ⟨some 3, [], .bbox 3, [.t 1], none⟩,
        ⟨some 4, [], .bnew 4 [(.v (.int .i64 0)), (.v (.int .i64 0)), (.v (.string ⟨#[]⟩)), (.sl .full (some true) []), (.sl .full (some true) [])], [], none⟩,
        ⟨some 5, [], .mv, [.k (.v (.int .i64 0))], none⟩])
      (.seq
        (.reg false [⟨some 6, [], .bld 2 5 true false, [.t 2], none⟩,
          ⟨some 7, [], .bld 3 5 true false, [.t 3], none⟩,
          ⟨some 8, [], .bsl 5, [.t 6, .t 7], none⟩,
          ⟨some 9, [], .call true, [.k (.v (.func (.func 20) #[] #[])), .k (.v (.func (.func 25) #[] #[])), .t 8], none⟩,
          ⟨some 10, [], .ext 0, [.t 9], none⟩,
          ⟨some 11, [], .ext 1, [.t 9], none⟩,
          ⟨none, [], .bst 4 5 false, [.t 4, .t 10], none⟩,
          ⟨some 5, [], .mv, [.t 11], none⟩])
        .ret))
def fn11 : Fn := ⟨2, bd11, [.cell 4 5 true, .slot 5]⟩

/-- ndjq/text.CutSuffix -/
def bd12 : C :=
    (.seq
      (.reg false [⟨some 2, [], .bbox 2, [.t 0], none⟩,
        ⟨some 3, [], .bbox 3, [.t 1], none⟩,
        ⟨some 4, [], .bnew 4 [(.v (.int .i64 0)), (.v (.int .i64 0)), (.v (.string ⟨#[]⟩)), (.sl .full (some true) []), (.sl .full (some true) [])], [], none⟩,
        ⟨some 5, [], .mv, [.k (.v (.int .i64 0))], none⟩])
      (.seq
        (.reg false [⟨some 6, [], .bld 2 5 true false, [.t 2], none⟩,
          ⟨some 7, [], .bld 3 5 true false, [.t 3], none⟩,
          ⟨some 8, [], .bsl 5, [.t 6, .t 7], none⟩,
          ⟨some 9, [], .call true, [.k (.v (.func (.func 20) #[] #[])), .k (.v (.func (.func 27) #[] #[])), .t 8], none⟩,
          ⟨some 10, [], .ext 0, [.t 9], none⟩,
          ⟨some 11, [], .ext 1, [.t 9], none⟩,
          ⟨none, [], .bst 4 5 false, [.t 4, .t 10], none⟩,
          ⟨some 5, [], .mv, [.t 11], none⟩])
        .ret))
def fn12 : Fn := ⟨2, bd12, [.cell 4 5 true, .slot 5]⟩

/-- ndjq/text.Lower -/
def bd13 : C :=
    (.seq
      (.reg false [⟨some 1, [], .bbox 1, [.t 0], none⟩,
        ⟨some 2, [], .bnew 2 [(.v (.int .i64 0)), (.v (.int .i64 0)), (.v (.string ⟨#[]⟩)), (.sl .full (some true) []), (.sl .full (some true) [])], [], none⟩,
        ⟨some 3, [], .mv, [.k (.v (.int .i64 0))], none⟩])
      (.seq
        (.reg false [⟨some 4, [], .bld 1 5 true false, [.t 1], none⟩,
          ⟨some 5, [], .bsl 5, [.t 4], none⟩,
          ⟨some 6, [], .call true, [.k (.v (.func (.func 20) #[] #[])), .k (.v (.func (.func 29) #[] #[])), .t 5], none⟩,
          ⟨some 7, [], .ext 0, [.t 6], none⟩,
          ⟨some 8, [], .ext 1, [.t 6], none⟩,
          ⟨none, [], .bst 2 5 false, [.t 2, .t 7], none⟩,
          ⟨some 3, [], .mv, [.t 8], none⟩])
        .ret))
def fn13 : Fn := ⟨1, bd13, [.cell 2 5 true, .slot 3]⟩

/-- ndjq/text.Upper -/
def bd14 : C :=
    (.seq
      (.reg false [⟨some 1, [], .bbox 1, [.t 0], none⟩,
        ⟨some 2, [], .bnew 2 [(.v (.int .i64 0)), (.v (.int .i64 0)), (.v (.string ⟨#[]⟩)), (.sl .full (some true) []), (.sl .full (some true) [])], [], none⟩,
        ⟨some 3, [], .mv, [.k (.v (.int .i64 0))], none⟩])
      (.seq
        (.reg false [⟨some 4, [], .bld 1 5 true false, [.t 1], none⟩,
          ⟨some 5, [], .bsl 5, [.t 4], none⟩,
          ⟨some 6, [], .call true, [.k (.v (.func (.func 20) #[] #[])), .k (.v (.func (.func 31) #[] #[])), .t 5], none⟩,
          ⟨some 7, [], .ext 0, [.t 6], none⟩,
          ⟨some 8, [], .ext 1, [.t 6], none⟩,
          ⟨none, [], .bst 2 5 false, [.t 2, .t 7], none⟩,
          ⟨some 3, [], .mv, [.t 8], none⟩])
        .ret))
def fn14 : Fn := ⟨1, bd14, [.cell 2 5 true, .slot 3]⟩

/-- ndjq/text.Trim -/
def bd15 : C :=
    (.seq
      (.reg false [⟨some 1, [], .bbox 1, [.t 0], none⟩,
        ⟨some 2, [], .bnew 2 [(.v (.int .i64 0)), (.v (.int .i64 0)), (.v (.string ⟨#[]⟩)), (.sl .full (some true) []), (.sl .full (some true) [])], [], none⟩,
        ⟨some 3, [], .mv, [.k (.v (.int .i64 0))], none⟩])
      (.seq
        (.reg false [⟨some 4, [], .bld 1 5 true false, [.t 1], none⟩,
          ⟨some 5, [], .bsl 5, [.t 4], none⟩,
          ⟨some 6, [], .call true, [.k (.v (.func (.func 20) #[] #[])), .k (.v (.func (.func 33) #[] #[])), .t 5], none⟩,
          ⟨some 7, [], .ext 0, [.t 6], none⟩,
          ⟨some 8, [], .ext 1, [.t 6], none⟩,
          ⟨none, [], .bst 2 5 false, [.t 2, .t 7], none⟩,
          ⟨some 3, [], .mv, [.t 8], none⟩])
        .ret))
def fn15 : Fn := ⟨1, bd15, [.cell 2 5 true, .slot 3]⟩

/-- ndjq/ndjqkeep.Same -/
def bd16 : C :=
    (.seq
      (.reg false [⟨some 2, [], .bbox 2, [.t 0], none⟩,
        ⟨some 3, [], .bbox 3, [.t 1], none⟩,
        ⟨some 4, [], .mv, [.k (.v (.bool false))], none⟩])
      (.seq
        (.reg false [⟨some 5, [], .fa 0, [.t 2], none⟩,
          ⟨some 6, [], .bld 2 1 false false, [.t 5], none⟩,
          ⟨some 7, [], .fa 0, [.t 3], none⟩,
          ⟨some 8, [], .bld 3 1 false false, [.t 7], none⟩,
          ⟨some 9, [], .bin .eql, [.t 6, .t 8], none⟩,
          ⟨some 10, [], .mv, [.t 9], none⟩,
          ⟨some 11, [], .fa 1, [.t 2], (some (10, true))⟩,
          ⟨some 12, [], .bld 2 1 false false, [.t 11], (some (10, true))⟩,
          ⟨some 13, [], .fa 1, [.t 3], (some (10, true))⟩,
          ⟨some 14, [], .bld 3 1 false false, [.t 13], (some (10, true))⟩,
          ⟨some 15, [], .bin .eql, [.t 12, .t 14], (some (10, true))⟩,
          ⟨some 16, [], .pick, [.t 10, .t 15, .k (.v (.bool false))], none⟩,
          ⟨some 17, [], .mv, [.t 16], none⟩,
          ⟨some 18, [], .fa 2, [.t 2], (some (17, true))⟩,
          ⟨some 19, [], .bld 2 1 false false, [.t 18], (some (17, true))⟩,
          ⟨some 20, [], .fa 2, [.t 3], (some (17, true))⟩,
          ⟨some 21, [], .bld 3 1 false false, [.t 20], (some (17, true))⟩,
          ⟨some 22, [], .bin .eql, [.t 19, .t 21], (some (17, true))⟩,
          ⟨some 23, [], .pick, [.t 17, .t 22, .k (.v (.bool false))], none⟩,
          ⟨some 24, [], .mv, [.t 23], none⟩,
          ⟨some 25, [], .fa 3, [.t 2], (some (24, true))⟩,
          ⟨some 26, [], .bld 2 1 false false, [.t 25], (some (24, true))⟩,
          ⟨some 27, [], .fa 3, [.t 3], (some (24, true))⟩,
          ⟨some 28, [], .bld 3 1 false false, [.t 27], (some (24, true))⟩,
          ⟨some 29, [], .call true, [.k (.v (.func (.func 35) #[] #[])), .t 26, .t 28], (some (24, true))⟩,
          ⟨some 30, [], .pick, [.t 24, .t 29, .k (.v (.bool false))], none⟩,
          ⟨some 31, [], .mv, [.t 30], none⟩,
          ⟨some 32, [], .fa 4, [.t 2], (some (31, true))⟩,
          ⟨some 33, [], .bld 2 1 false false, [.t 32], (some (31, true))⟩,
          ⟨some 34, [], .fa 4, [.t 3], (some (31, true))⟩,
          ⟨some 35, [], .bld 3 1 false false, [.t 34], (some (31, true))⟩,
          ⟨some 36, [], .call true, [.k (.v (.func (.func 36) #[] #[])), .t 33, .t 35], (some (31, true))⟩,
          ⟨some 37, [], .pick, [.t 31, .t 36, .k (.v (.bool false))], none⟩,
          ⟨some 4, [], .mv, [.t 37], none⟩])
        .ret))
def fn16 : Fn := ⟨2, bd16, [.slot 4]⟩

/-- ndjq/ndjqkeep.Prefix -/
def bd17 : C :=
    (.seq
      (.reg false [⟨some 4, [], .mv, [.k (.v (.bool false))], none⟩])
      (.seq
        (.reg false [⟨some 5, [], .mv, [.t 0], none⟩,
          ⟨some 6, [], .slen, [.t 5], none⟩,
          ⟨some 7, [], .mv, [.t 1], none⟩,
          ⟨some 8, [], .slen, [.t 7], none⟩,
          ⟨some 9, [], .bin .leq, [.t 6, .t 8], none⟩,
          ⟨some 10, [], .mv, [.t 9], none⟩,
          ⟨some 11, [], .mv, [.t 1], (some (10, true))⟩,
          ⟨some 12, [], .mv, [.t 0], (some (10, true))⟩,
          ⟨some 13, [], .slen, [.t 12], (some (10, true))⟩,
          ⟨some 14, [], .sslice false true, [.t 11, .t 13], (some (10, true))⟩,
          ⟨some 15, [], .mv, [.t 0], (some (10, true))⟩,
          ⟨some 16, [], .bin .eql, [.t 14, .t 15], (some (10, true))⟩,
          ⟨some 17, [], .pick, [.t 10, .t 16, .k (.v (.bool false))], none⟩,
          ⟨some 4, [], .mv, [.t 17], none⟩])
        .ret))
def fn17 : Fn := ⟨2, bd17, [.slot 4]⟩

/-- ndjq/vals.Valid -/
def bd18 : C :=
    (.seq
      (.reg false [⟨some 1, [], .bbox 1, [.t 0], none⟩,
        ⟨some 2, [], .mv, [.k (.v (.bool false))], none⟩])
      (.seq
        (.reg false [⟨some 3, [], .gnew [(.v (.int .i64 0)), (.v (.int .i64 0))], [], none⟩,
          ⟨some 4, [], .bld 1 5 true false, [.t 1], none⟩,
          ⟨some 5, [], .call false, [.k (.v (.func (.func 37) #[] #[])), .t 3, .t 4, .k (.v (.int .i64 0)), .k (.v (.bool true))], none⟩,
          ⟨some 2, [], .mv, [.t 5], none⟩])
        .ret))
def fn18 : Fn := ⟨1, bd18, [.slot 2]⟩

/-- ndjq/text.Indices -/
def bd19 : C :=
    (.seq
      (.reg false [⟨some 2, [], .bbox 2, [.t 0], none⟩,
        ⟨some 3, [], .bbox 3, [.t 1], none⟩,
        ⟨some 4, [], .bnew 4 [(.v (.int .i64 0)), (.v (.int .i64 0)), (.v (.string ⟨#[]⟩)), (.sl .full (some true) []), (.sl .full (some true) [])], [], none⟩,
        ⟨some 5, [], .mv, [.k (.v (.int .i64 0))], none⟩])
      (.seq
        (.reg false [⟨some 6, [], .bld 2 5 true false, [.t 2], none⟩,
          ⟨some 7, [], .bld 3 5 true false, [.t 3], none⟩,
          ⟨some 8, [], .bsl 5, [.t 6, .t 7], none⟩,
          ⟨some 9, [], .call true, [.k (.v (.func (.func 20) #[] #[])), .k (.v (.func (.func 38) #[] #[])), .t 8], none⟩,
          ⟨some 10, [], .ext 0, [.t 9], none⟩,
          ⟨some 11, [], .ext 1, [.t 9], none⟩,
          ⟨none, [], .bst 4 5 false, [.t 4, .t 10], none⟩,
          ⟨some 5, [], .mv, [.t 11], none⟩])
        .ret))
def fn19 : Fn := ⟨2, bd19, [.cell 4 5 true, .slot 5]⟩

/-- ndjq/text.apply -/
def bd20 : C :=
    (.seq
      (.reg false [⟨some 4, [], .bnew 4 [(.v (.int .i64 0)), (.v (.int .i64 0)), (.v (.string ⟨#[]⟩)), (.sl .full (some true) []), (.sl .full (some true) [])], [], none⟩,
        ⟨some 5, [], .mv, [.k (.v (.int .i64 0))], none⟩])
      (.seq
        (.seq
          (.reg false [⟨some 8, [], .mv, [.t 1], none⟩,
            ⟨some 9, [], .call true, [.k (.v (.func (.func 40) #[] #[])), .t 8], none⟩,
            ⟨some 10, [], .un .not, [.t 9], none⟩])
          (.cond (.t 10)
            (.seq
              (.reg false [⟨some 11, [], .build [(.v (.int .i64 0)), (.v (.int .i64 0)), (.v (.string ⟨#[]⟩)), (.sl .full (some true) []), (.sl .full (some true) [])] [], [], none⟩,
                ⟨none, [], .bst 4 5 false, [.t 4, .t 11], none⟩,
                ⟨some 5, [], .mv, [.k (.v (.int .i64 1))], none⟩])
              .ret)
            .skip))
        (.seq
          (.reg false [⟨some 13, [], .mv, [.t 0], none⟩,
            ⟨some 14, [], .mv, [.t 1], none⟩,
            ⟨some 15, [], .call true, [.t 13, .t 14], none⟩,
            ⟨some 12, [], .mv, [.t 15], none⟩,
            ⟨some 16, [], .ext 0, [.t 12], none⟩,
            ⟨some 17, [], .ext 1, [.t 12], none⟩,
            ⟨some 6, [], .bnew 6 [(.v (.int .i64 0)), (.v (.int .i64 0)), (.v (.string ⟨#[]⟩)), (.sl .full (some true) []), (.sl .full (some true) [])], [], none⟩,
            ⟨none, [], .bst 6 5 false, [.t 6, .t 16], none⟩,
            ⟨some 7, [], .mv, [.t 17], none⟩])
          (.seq
            (.reg false [⟨some 18, [], .bld 6 5 true false, [.t 6], none⟩,
              ⟨some 19, [], .call true, [.k (.v (.func (.func 41) #[] #[])), .t 18], none⟩,
              ⟨some 20, [], .mv, [.t 7], none⟩,
              ⟨none, [], .bst 4 5 false, [.t 4, .t 19], none⟩,
              ⟨some 5, [], .mv, [.t 20], none⟩])
            .ret))))
def fn20 : Fn := ⟨2, bd20, [.cell 4 5 true, .slot 5]⟩

/-- ndjq/text.StartsWith$1 -/
def bd21 : C :=
    (.seq
      (.reg false [⟨some 2, [], .bnew 2 [(.v (.int .i64 0)), (.v (.int .i64 0)), (.v (.string ⟨#[]⟩)), (.sl .full (some true) []), (.sl .full (some true) [])], [], none⟩,
        ⟨some 3, [], .mv, [.k (.v (.int .i64 0))], none⟩])
      (.seq
        (.reg true [⟨some 4, [], .mv, [.t 0], none⟩,
          ⟨some 5, [], .ia 5, [.t 4, .k (.v (.int .i64 0))], none⟩,
          ⟨some 6, [], .ldel 5 true, [.t 5], none⟩,
          ⟨some 7, [], .mv, [.t 0], none⟩,
          ⟨some 8, [], .ia 5, [.t 7, .k (.v (.int .i64 1))], none⟩,
          ⟨some 9, [], .ldel 5 true, [.t 8], none⟩,
          ⟨some 10, [], .call true, [.k (.v (.func (.func 22) #[] #[])), .t 6, .t 9], none⟩,
          ⟨some 11, [], .ext 0, [.t 10], none⟩,
          ⟨some 12, [], .ext 1, [.t 10], none⟩,
          ⟨none, [], .bst 2 5 false, [.t 2, .t 11], none⟩,
          ⟨some 3, [], .mv, [.t 12], none⟩])
        .ret))
def fn21 : Fn := ⟨1, bd21, [.cell 2 5 true, .slot 3]⟩

/-- ndjq/ops.StartsWith -/
def bd22 : C :=
    (.seq
      (.reg false [⟨some 2, [], .bbox 2, [.t 0], none⟩,
        ⟨some 3, [], .bbox 3, [.t 1], none⟩,
        ⟨some 4, [], .bnew 4 [(.v (.int .i64 0)), (.v (.int .i64 0)), (.v (.string ⟨#[]⟩)), (.sl .full (some true) []), (.sl .full (some true) [])], [], none⟩,
        ⟨some 5, [], .mv, [.k (.v (.int .i64 0))], none⟩])
      (.seq
        (.reg false [⟨some 6, [], .bld 2 5 true false, [.t 2], none⟩,
          ⟨some 7, [], .bld 3 5 true false, [.t 3], none⟩,
          ⟨some 8, [], .build [(.v (.int .i64 0)), (.v (.int .i64 0)), (.v (.string ⟨#[]⟩)), (.sl .full (some true) []), (.sl .full (some true) []), (.v (.int .i64 0)), (.v (.int .i64 0)), (.v (.string ⟨#[]⟩)), (.sl .full (some true) []), (.sl .full (some true) [])] [(0, 5), (5, 5)], [.t 6, .t 7], none⟩,
          ⟨some 9, [], .call true, [.k (.v (.func (.func 42) #[] #[])), .t 8, .k (.v (.func (.func 43) #[] #[]))], none⟩,
          ⟨some 10, [], .ext 0, [.t 9], none⟩,
          ⟨some 11, [], .ext 1, [.t 9], none⟩,
          ⟨none, [], .bst 4 5 false, [.t 4, .t 10], none⟩,
          ⟨some 5, [], .mv, [.t 11], none⟩])
        .ret))
def fn22 : Fn := ⟨2, bd22, [.cell 4 5 true, .slot 5]⟩

/-- ndjq/text.EndsWith$1 -/
def bd23 : C :=
    (.seq
      (.reg false [⟨some 2, [], .bnew 2 [(.v (.int .i64 0)), (.v (.int .i64 0)), (.v (.string ⟨#[]⟩)), (.sl .full (some true) []), (.sl .full (some true) [])], [], none⟩,
        ⟨some 3, [], .mv, [.k (.v (.int .i64 0))], none⟩])
      (.seq
        (.reg true [⟨some 4, [], .mv, [.t 0], none⟩,
          ⟨some 5, [], .ia 5, [.t 4, .k (.v (.int .i64 0))], none⟩,
          ⟨some 6, [], .ldel 5 true, [.t 5], none⟩,
          ⟨some 7, [], .mv, [.t 0], none⟩,
          ⟨some 8, [], .ia 5, [.t 7, .k (.v (.int .i64 1))], none⟩,
          ⟨some 9, [], .ldel 5 true, [.t 8], none⟩,
          ⟨some 10, [], .call true, [.k (.v (.func (.func 24) #[] #[])), .t 6, .t 9], none⟩,
          ⟨some 11, [], .ext 0, [.t 10], none⟩,
          ⟨some 12, [], .ext 1, [.t 10], none⟩,
          ⟨none, [], .bst 2 5 false, [.t 2, .t 11], none⟩,
          ⟨some 3, [], .mv, [.t 12], none⟩])
        .ret))
def fn23 : Fn := ⟨1, bd23, [.cell 2 5 true, .slot 3]⟩

/-- ndjq/ops.EndsWith -/
def bd24 : C :=
    (.seq
      (.reg false [⟨some 2, [], .bbox 2, [.t 0], none⟩,
        ⟨some 3, [], .bbox 3, [.t 1], none⟩,
        ⟨some 4, [], .bnew 4 [(.v (.int .i64 0)), (.v (.int .i64 0)), (.v (.string ⟨#[]⟩)), (.sl .full (some true) []), (.sl .full (some true) [])], [], none⟩,
        ⟨some 5, [], .mv, [.k (.v (.int .i64 0))], none⟩])
      (.seq
        (.reg false [⟨some 6, [], .bld 2 5 true false, [.t 2], none⟩,
          ⟨some 7, [], .bld 3 5 true false, [.t 3], none⟩,
          ⟨some 8, [], .build [(.v (.int .i64 0)), (.v (.int .i64 0)), (.v (.string ⟨#[]⟩)), (.sl .full (some true) []), (.sl .full (some true) []), (.v (.int .i64 0)), (.v (.int .i64 0)), (.v (.string ⟨#[]⟩)), (.sl .full (some true) []), (.sl .full (some true) [])] [(0, 5), (5, 5)], [.t 6, .t 7], none⟩,
          ⟨some 9, [], .call true, [.k (.v (.func (.func 42) #[] #[])), .t 8, .k (.v (.func (.func 44) #[] #[]))], none⟩,
          ⟨some 10, [], .ext 0, [.t 9], none⟩,
          ⟨some 11, [], .ext 1, [.t 9], none⟩,
          ⟨none, [], .bst 4 5 false, [.t 4, .t 10], none⟩,
          ⟨some 5, [], .mv, [.t 11], none⟩])
        .ret))
def fn24 : Fn := ⟨2, bd24, [.cell 4 5 true, .slot 5]⟩

/-- ndjq/text.CutPrefix$1 -/
def bd25 : C :=
    (.seq
      (.reg false [⟨some 2, [], .bnew 2 [(.v (.int .i64 0)), (.v (.int .i64 0)), (.v (.string ⟨#[]⟩)), (.sl .full (some true) []), (.sl .full (some true) [])], [], none⟩,
        ⟨some 3, [], .mv, [.k (.v (.int .i64 0))], none⟩])
      (.seq
        (.reg true [⟨some 4, [], .mv, [.t 0], none⟩,
          ⟨some 5, [], .ia 5, [.t 4, .k (.v (.int .i64 0))], none⟩,
          ⟨some 6, [], .ldel 5 true, [.t 5], none⟩,
          ⟨some 7, [], .mv, [.t 0], none⟩,
          ⟨some 8, [], .ia 5, [.t 7, .k (.v (.int .i64 1))], none⟩,
          ⟨some 9, [], .ldel 5 true, [.t 8], none⟩,
          ⟨some 10, [], .call true, [.k (.v (.func (.func 26) #[] #[])), .t 6, .t 9], none⟩,
          ⟨some 11, [], .ext 0, [.t 10], none⟩,
          ⟨some 12, [], .ext 1, [.t 10], none⟩,
          ⟨none, [], .bst 2 5 false, [.t 2, .t 11], none⟩,
          ⟨some 3, [], .mv, [.t 12], none⟩])
        .ret))
def fn25 : Fn := ⟨1, bd25, [.cell 2 5 true, .slot 3]⟩

/-- ndjq/ops.CutPrefix -/
def bd26 : C :=
    (.seq
      (.reg false [⟨some 2, [], .bbox 2, [.t 0], none⟩,
        ⟨some 3, [], .bbox 3, [.t 1], none⟩,
        ⟨some 4, [], .bnew 4 [(.v (.int .i64 0)), (.v (.int .i64 0)), (.v (.string ⟨#[]⟩)), (.sl .full (some true) []), (.sl .full (some true) [])], [], none⟩,
        ⟨some 5, [], .mv, [.k (.v (.int .i64 0))], none⟩])
      (.seq
        (.reg false [⟨some 6, [], .bld 2 5 true false, [.t 2], none⟩,
          ⟨some 7, [], .bld 3 5 true false, [.t 3], none⟩,
          ⟨some 8, [], .build [(.v (.int .i64 0)), (.v (.int .i64 0)), (.v (.string ⟨#[]⟩)), (.sl .full (some true) []), (.sl .full (some true) []), (.v (.int .i64 0)), (.v (.int .i64 0)), (.v (.string ⟨#[]⟩)), (.sl .full (some true) []), (.sl .full (some true) [])] [(0, 5), (5, 5)], [.t 6, .t 7], none⟩,
          ⟨some 9, [], .call true, [.k (.v (.func (.func 45) #[] #[])), .t 8, .k (.v (.func (.func 46) #[] #[]))], none⟩,
          ⟨some 10, [], .ext 0, [.t 9], none⟩,
          ⟨some 11, [], .ext 1, [.t 9], none⟩,
          ⟨none, [], .bst 4 5 false, [.t 4, .t 10], none⟩,
          ⟨some 5, [], .mv, [.t 11], none⟩])
        .ret))
def fn26 : Fn := ⟨2, bd26, [.cell 4 5 true, .slot 5]⟩

/-- ndjq/text.CutSuffix$1 -/
def bd27 : C :=
    (.seq
      (.reg false [⟨some 2, [], .bnew 2 [(.v (.int .i64 0)), (.v (.int .i64 0)), (.v (.string ⟨#[]⟩)), (.sl .full (some true) []), (.sl .full (some true) [])], [], none⟩,
        ⟨some 3, [], .mv, [.k (.v (.int .i64 0))], none⟩])
      (.seq
        (.reg true [⟨some 4, [], .mv, [.t 0], none⟩,
          ⟨some 5, [], .ia 5, [.t 4, .k (.v (.int .i64 0))], none⟩,
          ⟨some 6, [], .ldel 5 true, [.t 5], none⟩,
          ⟨some 7, [], .mv, [.t 0], none⟩,
          ⟨some 8, [], .ia 5, [.t 7, .k (.v (.int .i64 1))], none⟩,
          ⟨some 9, [], .ldel 5 true, [.t 8], none⟩,
          ⟨some 10, [], .call true, [.k (.v (.func (.func 28) #[] #[])), .t 6, .t 9], none⟩,
          ⟨some 11, [], .ext 0, [.t 10], none⟩,
          ⟨some 12, [], .ext 1, [.t 10], none⟩,
          ⟨none, [], .bst 2 5 false, [.t 2, .t 11], none⟩,
          ⟨some 3, [], .mv, [.t 12], none⟩])
        .ret))
def fn27 : Fn := ⟨1, bd27, [.cell 2 5 true, .slot 3]⟩

/-- ndjq/ops.CutSuffix -/
def bd28 : C :=
    (.seq
      (.reg false [⟨some 2, [], .bbox 2, [.t 0], none⟩,
        ⟨some 3, [], .bbox 3, [.t 1], none⟩,
        ⟨some 4, [], .bnew 4 [(.v (.int .i64 0)), (.v (.int .i64 0)), (.v (.string ⟨#[]⟩)), (.sl .full (some true) []), (.sl .full (some true) [])], [], none⟩,
        ⟨some 5, [], .mv, [.k (.v (.int .i64 0))], none⟩])
      (.seq
        (.reg false [⟨some 6, [], .bld 2 5 true false, [.t 2], none⟩,
          ⟨some 7, [], .bld 3 5 true false, [.t 3], none⟩,
          ⟨some 8, [], .build [(.v (.int .i64 0)), (.v (.int .i64 0)), (.v (.string ⟨#[]⟩)), (.sl .full (some true) []), (.sl .full (some true) []), (.v (.int .i64 0)), (.v (.int .i64 0)), (.v (.string ⟨#[]⟩)), (.sl .full (some true) []), (.sl .full (some true) [])] [(0, 5), (5, 5)], [.t 6, .t 7], none⟩,
          ⟨some 9, [], .call true, [.k (.v (.func (.func 45) #[] #[])), .t 8, .k (.v (.func (.func 47) #[] #[]))], none⟩,
          ⟨some 10, [], .ext 0, [.t 9], none⟩,
          ⟨some 11, [], .ext 1, [.t 9], none⟩,
          ⟨none, [], .bst 4 5 false, [.t 4, .t 10], none⟩,
          ⟨some 5, [], .mv, [.t 11], none⟩])
        .ret))
def fn28 : Fn := ⟨2, bd28, [.cell 4 5 true, .slot 5]⟩

/-- ndjq/text.Lower$1 -/
def bd29 : C :=
    (.seq
      (.reg false [⟨some 2, [], .bnew 2 [(.v (.int .i64 0)), (.v (.int .i64 0)), (.v (.string ⟨#[]⟩)), (.sl .full (some true) []), (.sl .full (some true) [])], [], none⟩,
        ⟨some 3, [], .mv, [.k (.v (.int .i64 0))], none⟩])
      (.seq
        (.reg false [⟨some 4, [], .mv, [.t 0], none⟩,
          ⟨some 5, [], .ia 5, [.t 4, .k (.v (.int .i64 0))], none⟩,
          ⟨some 6, [], .ldel 5 true, [.t 5], none⟩,
          ⟨some 7, [], .call true, [.k (.v (.func (.func 30) #[] #[])), .t 6], none⟩,
          ⟨some 8, [], .ext 0, [.t 7], none⟩,
          ⟨some 9, [], .ext 1, [.t 7], none⟩,
          ⟨none, [], .bst 2 5 false, [.t 2, .t 8], none⟩,
          ⟨some 3, [], .mv, [.t 9], none⟩])
        .ret))
def fn29 : Fn := ⟨1, bd29, [.cell 2 5 true, .slot 3]⟩

/-- ndjq/ops.Lower -/
def bd30 : C :=
    (.seq
      (.reg false [⟨some 1, [], .bbox 1, [.t 0], none⟩,
        ⟨some 2, [], .bnew 2 [(.v (.int .i64 0)), (.v (.int .i64 0)), (.v (.string ⟨#[]⟩)), (.sl .full (some true) []), (.sl .full (some true) [])], [], none⟩,
        ⟨some 3, [], .mv, [.k (.v (.int .i64 0))], none⟩])
      (.seq
        (.reg false [⟨some 4, [], .bld 1 5 true false, [.t 1], none⟩,
          ⟨some 5, [], .call true, [.k (.v (.func (.func 48) #[] #[])), .t 4, .k (.v (.int .u8 65)), .k (.v (.int .i64 32))], none⟩,
          ⟨some 6, [], .ext 0, [.t 5], none⟩,
          ⟨some 7, [], .ext 1, [.t 5], none⟩,
          ⟨none, [], .bst 2 5 false, [.t 2, .t 6], none⟩,
          ⟨some 3, [], .mv, [.t 7], none⟩])
        .ret))
def fn30 : Fn := ⟨1, bd30, [.cell 2 5 true, .slot 3]⟩

/-- ndjq/text.Upper$1 -/
def bd31 : C :=
    (.seq
      (.reg false [⟨some 2, [], .bnew 2 [(.v (.int .i64 0)), (.v (.int .i64 0)), (.v (.string ⟨#[]⟩)), (.sl .full (some true) []), (.sl .full (some true) [])], [], none⟩,
        ⟨some 3, [], .mv, [.k (.v (.int .i64 0))], none⟩])
      (.seq
        (.reg false [⟨some 4, [], .mv, [.t 0], none⟩,
          ⟨some 5, [], .ia 5, [.t 4, .k (.v (.int .i64 0))], none⟩,
          ⟨some 6, [], .ldel 5 true, [.t 5], none⟩,
          ⟨some 7, [], .call true, [.k (.v (.func (.func 32) #[] #[])), .t 6], none⟩,
          ⟨some 8, [], .ext 0, [.t 7], none⟩,
          ⟨some 9, [], .ext 1, [.t 7], none⟩,
          ⟨none, [], .bst 2 5 false, [.t 2, .t 8], none⟩,
          ⟨some 3, [], .mv, [.t 9], none⟩])
        .ret))
def fn31 : Fn := ⟨1, bd31, [.cell 2 5 true, .slot 3]⟩

/-- ndjq/ops.Upper -/
def bd32 : C :=
    (.seq
      (.reg false [⟨some 1, [], .bbox 1, [.t 0], none⟩,
        ⟨some 2, [], .bnew 2 [(.v (.int .i64 0)), (.v (.int .i64 0)), (.v (.string ⟨#[]⟩)), (.sl .full (some true) []), (.sl .full (some true) [])], [], none⟩,
        ⟨some 3, [], .mv, [.k (.v (.int .i64 0))], none⟩])
      (.seq
        (.reg false [⟨some 4, [], .bld 1 5 true false, [.t 1], none⟩,
          ⟨some 5, [], .call true, [.k (.v (.func (.func 48) #[] #[])), .t 4, .k (.v (.int .u8 97)), .k (.v (.int .i64 (-32)))], none⟩,
          ⟨some 6, [], .ext 0, [.t 5], none⟩,
          ⟨some 7, [], .ext 1, [.t 5], none⟩,
          ⟨none, [], .bst 2 5 false, [.t 2, .t 6], none⟩,
          ⟨some 3, [], .mv, [.t 7], none⟩])
        .ret))
def fn32 : Fn := ⟨1, bd32, [.cell 2 5 true, .slot 3]⟩

/-- ndjq/text.Trim$1 -/
def bd33 : C :=
    (.seq
      (.reg false [⟨some 2, [], .bnew 2 [(.v (.int .i64 0)), (.v (.int .i64 0)), (.v (.string ⟨#[]⟩)), (.sl .full (some true) []), (.sl .full (some true) [])], [], none⟩,
        ⟨some 3, [], .mv, [.k (.v (.int .i64 0))], none⟩])
      (.seq
        (.reg false [⟨some 4, [], .mv, [.t 0], none⟩,
          ⟨some 5, [], .ia 5, [.t 4, .k (.v (.int .i64 0))], none⟩,
          ⟨some 6, [], .ldel 5 true, [.t 5], none⟩,
          ⟨some 7, [], .call true, [.k (.v (.func (.func 34) #[] #[])), .t 6], none⟩,
          ⟨some 8, [], .ext 0, [.t 7], none⟩,
          ⟨some 9, [], .ext 1, [.t 7], none⟩,
          ⟨none, [], .bst 2 5 false, [.t 2, .t 8], none⟩,
          ⟨some 3, [], .mv, [.t 9], none⟩])
        .ret))
def fn33 : Fn := ⟨1, bd33, [.cell 2 5 true, .slot 3]⟩

def fn34_l1 : C :=
  (.seq
    (.seq
      (.reg false [⟨some 15, [], .mv, [.t 4], none⟩,
        ⟨some 16, [], .bin .neq, [.t 15, .k (.v (.string ⟨#[]⟩))], none⟩,
        ⟨some 17, [], .mv, [.t 16], none⟩,
        ⟨some 18, [], .mv, [.t 4], (some (17, true))⟩,
        ⟨some 19, [], .mv, [.t 4], (some (17, true))⟩,
        ⟨some 20, [], .slen, [.t 19], (some (17, true))⟩,
        ⟨some 21, [], .bin .sub, [.t 20, .k (.v (.int .i64 1))], (some (17, true))⟩,
        ⟨some 22, [], .ix, [.t 18, .t 21], (some (17, true))⟩,
        ⟨some 23, [], .call true, [.k (.v (.func (.func 51) #[] #[])), .t 22], (some (17, true))⟩,
        ⟨some 24, [], .pick, [.t 17, .t 23, .k (.v (.bool false))], none⟩])
      (.cond (.t 24)
        .skip
        (.exit 0)))
    (.block 1
      (.reg false [⟨some 25, [], .mv, [.t 4], none⟩,
        ⟨some 26, [], .mv, [.t 4], none⟩,
        ⟨some 27, [], .slen, [.t 26], none⟩,
        ⟨some 28, [], .bin .sub, [.t 27, .k (.v (.int .i64 1))], none⟩,
        ⟨some 29, [], .sslice false true, [.t 25, .t 28], none⟩,
        ⟨some 4, [], .mv, [.t 29], none⟩])))
/-- ndjq/ops.Trim -/
def bd34 : C :=
    (.seq
      (.reg false [⟨some 1, [], .bbox 1, [.t 0], none⟩,
        ⟨some 2, [], .bnew 2 [(.v (.int .i64 0)), (.v (.int .i64 0)), (.v (.string ⟨#[]⟩)), (.sl .full (some true) []), (.sl .full (some true) [])], [], none⟩,
        ⟨some 3, [], .mv, [.k (.v (.int .i64 0))], none⟩])
      (.seq
        (.seq
          (.reg false [⟨some 5, [], .fa 0, [.t 1], none⟩,
            ⟨some 6, [], .bld 1 1 false false, [.t 5], none⟩,
            ⟨some 7, [], .bin .neq, [.t 6, .k (.v (.int .i64 4))], none⟩])
          (.cond (.t 7)
            (.seq
              (.reg false [⟨some 8, [], .call true, [.k (.v (.func (.func 49) #[] #[]))], none⟩,
                ⟨none, [], .bst 2 5 false, [.t 2, .t 8], none⟩,
                ⟨some 3, [], .mv, [.k (.v (.int .i64 12))], none⟩])
              .ret)
            .skip))
        (.seq
          (.reg true [⟨some 9, [], .fa 2, [.t 1], none⟩,
            ⟨some 10, [], .bld 1 1 false false, [.t 9], none⟩,
            ⟨some 11, [], .fa 2, [.t 1], none⟩,
            ⟨some 12, [], .bld 1 1 false false, [.t 11], none⟩,
            ⟨some 13, [], .call true, [.k (.v (.func (.func 50) #[] #[])), .t 12, .k (.v (.int .i64 0))], none⟩,
            ⟨some 14, [], .sslice true false, [.t 10, .t 13], none⟩,
            ⟨some 4, [], .mv, [.t 14], none⟩])
          (.seq
            (.block 0
              (.loop fn34_l1))
            (.seq
              (.reg false [⟨some 30, [], .mv, [.t 4], none⟩,
                ⟨some 31, [], .call true, [.k (.v (.func (.func 52) #[] #[])), .t 30], none⟩,
                ⟨none, [], .bst 2 5 false, [.t 2, .t 31], none⟩,
                ⟨some 3, [], .mv, [.k (.v (.int .i64 0))], none⟩])
              .ret)))))
def fn34 : Fn := ⟨1, bd34, [.cell 2 5 true, .slot 3]⟩

def fn35_l1 : C :=
  (.seq
    (.seq
      (.reg false [⟨some 11, [], .mv, [.t 5], none⟩,
        ⟨some 12, [], .mv, [.t 0], none⟩,
        ⟨some 13, [], .len, [.t 12], none⟩,
        ⟨some 14, [], .bin .lss, [.t 11, .t 13], none⟩])
      (.cond (.t 14)
        .skip
        (.exit 0)))
    (.seq
      (.block 1
        (.seq
          (.reg true [⟨some 17, [], .mv, [.t 0], none⟩,
            ⟨some 18, [], .mv, [.t 5], none⟩,
            ⟨some 19, [], .ia 1, [.t 17, .t 18], none⟩,
            ⟨some 20, [], .ldel 1 false, [.t 19], none⟩,
            ⟨some 21, [], .mv, [.t 1], none⟩,
            ⟨some 22, [], .mv, [.t 5], none⟩,
            ⟨some 23, [], .ia 1, [.t 21, .t 22], none⟩,
            ⟨some 24, [], .ldel 1 false, [.t 23], none⟩,
            ⟨some 25, [], .bin .neq, [.t 20, .t 24], none⟩])
          (.cond (.t 25)
            (.seq
              (.reg false [⟨some 4, [], .mv, [.k (.v (.bool false))], none⟩])
              .ret)
            .skip)))
      (.reg false [⟨some 15, [], .mv, [.t 5], none⟩,
        ⟨some 16, [], .bin .add, [.t 15, .k (.v (.int .i64 1))], none⟩,
        ⟨some 5, [], .mv, [.t 16], none⟩])))
/-- ndjq/ndjqkeep.Strings -/
def bd35 : C :=
    (.seq
      (.reg false [⟨some 4, [], .mv, [.k (.v (.bool false))], none⟩])
      (.seq
        (.seq
          (.reg false [⟨some 6, [], .mv, [.t 0], none⟩,
            ⟨some 7, [], .len, [.t 6], none⟩,
            ⟨some 8, [], .mv, [.t 1], none⟩,
            ⟨some 9, [], .len, [.t 8], none⟩,
            ⟨some 10, [], .bin .neq, [.t 7, .t 9], none⟩])
          (.cond (.t 10)
            (.seq
              (.reg false [⟨some 4, [], .mv, [.k (.v (.bool false))], none⟩])
              .ret)
            .skip))
        (.seq
          (.seq
            (.reg false [⟨some 5, [], .mv, [.k (.v (.int .i64 0))], none⟩])
            (.block 0
              (.loop fn35_l1)))
          (.seq
            (.reg false [⟨some 4, [], .mv, [.k (.v (.bool true))], none⟩])
            .ret))))
def fn35 : Fn := ⟨2, bd35, [.slot 4]⟩

def fn36_l1 : C :=
  (.seq
    (.seq
      (.reg false [⟨some 11, [], .mv, [.t 5], none⟩,
        ⟨some 12, [], .mv, [.t 0], none⟩,
        ⟨some 13, [], .len, [.t 12], none⟩,
        ⟨some 14, [], .bin .lss, [.t 11, .t 13], none⟩])
      (.cond (.t 14)
        .skip
        (.exit 0)))
    (.seq
      (.block 1
        (.seq
          (.reg true [⟨some 17, [], .mv, [.t 0], none⟩,
            ⟨some 18, [], .mv, [.t 5], none⟩,
            ⟨some 19, [], .ia 5, [.t 17, .t 18], none⟩,
            ⟨some 20, [], .ldel 5 true, [.t 19], none⟩,
            ⟨some 21, [], .mv, [.t 1], none⟩,
            ⟨some 22, [], .mv, [.t 5], none⟩,
            ⟨some 23, [], .ia 5, [.t 21, .t 22], none⟩,
            ⟨some 24, [], .ldel 5 true, [.t 23], none⟩,
            ⟨some 25, [], .call true, [.k (.v (.func (.func 16) #[] #[])), .t 20, .t 24], none⟩,
            ⟨some 26, [], .un .not, [.t 25], none⟩])
          (.cond (.t 26)
            (.seq
              (.reg false [⟨some 4, [], .mv, [.k (.v (.bool false))], none⟩])
              .ret)
            .skip)))
      (.reg false [⟨some 15, [], .mv, [.t 5], none⟩,
        ⟨some 16, [], .bin .add, [.t 15, .k (.v (.int .i64 1))], none⟩,
        ⟨some 5, [], .mv, [.t 16], none⟩])))
/-- ndjq/ndjqkeep.Values -/
def bd36 : C :=
    (.seq
      (.reg false [⟨some 4, [], .mv, [.k (.v (.bool false))], none⟩])
      (.seq
        (.seq
          (.reg false [⟨some 6, [], .mv, [.t 0], none⟩,
            ⟨some 7, [], .len, [.t 6], none⟩,
            ⟨some 8, [], .mv, [.t 1], none⟩,
            ⟨some 9, [], .len, [.t 8], none⟩,
            ⟨some 10, [], .bin .neq, [.t 7, .t 9], none⟩])
          (.cond (.t 10)
            (.seq
              (.reg false [⟨some 4, [], .mv, [.k (.v (.bool false))], none⟩])
              .ret)
            .skip))
        (.seq
          (.seq
            (.reg false [⟨some 5, [], .mv, [.k (.v (.int .i64 0))], none⟩])
            (.block 0
              (.loop fn36_l1)))
          (.seq
            (.reg false [⟨some 4, [], .mv, [.k (.v (.bool true))], none⟩])
            .ret))))
def fn36 : Fn := ⟨2, bd36, [.slot 4]⟩

def fn37_l1 : C :=
  (.seq
    (.reg false [⟨some 66, [], .bin .lss, [.t 65, .t 64], none⟩])
    (.seq
      (.cond (.t 66)
        .skip
        (.exit 0))
      (.seq
        (.block 1
          (.seq
            (.reg false [⟨some 67, [], .ia 1, [.t 63, .t 65], none⟩,
              ⟨some 68, [], .ldel 1 false, [.t 67], none⟩,
              ⟨some 10, [], .mv, [.t 68], none⟩])
            (.reg false [⟨some 69, [], .mv, [.t 0], none⟩,
              ⟨some 70, [], .nchk, [.t 69], none⟩,
              ⟨some 71, [], .fa 1, [.t 70], none⟩,
              ⟨some 72, [], .gld 1 false false, [.t 71], none⟩,
              ⟨some 73, [], .mv, [.t 10], none⟩,
              ⟨some 74, [], .slen, [.t 73], none⟩,
              ⟨some 75, [], .bin .add, [.t 72, .t 74], none⟩,
              ⟨some 76, [], .nchk, [.t 69], none⟩,
              ⟨some 77, [], .fa 1, [.t 76], none⟩,
              ⟨none, [], .gst 1 false, [.t 77, .t 75], none⟩])))
        (.reg false [⟨some 78, [], .bin .add, [.t 65, .k (.v (.int .i64 1))], none⟩,
          ⟨some 65, [], .mv, [.t 78], none⟩]))))
def fn37_l2 : C :=
  (.seq
    (.reg false [⟨some 99, [], .bin .lss, [.t 98, .t 97], none⟩])
    (.seq
      (.cond (.t 99)
        .skip
        (.exit 2))
      (.seq
        (.block 3
          (.seq
            (.reg false [⟨some 100, [], .ia 5, [.t 96, .t 98], none⟩,
              ⟨some 101, [], .ldel 5 true, [.t 100], none⟩,
              ⟨some 12, [], .bnew 12 [(.v (.int .i64 0)), (.v (.int .i64 0)), (.v (.string ⟨#[]⟩)), (.sl .full (some true) []), (.sl .full (some true) [])], [], none⟩,
              ⟨none, [], .bst 12 5 false, [.t 12, .t 101], none⟩])
            (.seq
              (.reg false [⟨some 102, [], .mv, [.t 0], none⟩,
                ⟨some 103, [], .bld 12 5 true false, [.t 12], none⟩,
                ⟨some 104, [], .mv, [.t 2], none⟩,
                ⟨some 105, [], .bin .add, [.t 104, .k (.v (.int .i64 1))], none⟩,
                ⟨some 106, [], .mv, [.t 3], none⟩,
                ⟨some 107, [], .call false, [.k (.v (.func (.func 37) #[] #[])), .t 102, .t 103, .t 105, .t 106], none⟩,
                ⟨some 108, [], .un .not, [.t 107], none⟩])
              (.cond (.t 108)
                (.seq
                  (.reg false [⟨some 8, [], .mv, [.k (.v (.bool false))], none⟩])
                  .ret)
                .skip))))
        (.reg false [⟨some 109, [], .bin .add, [.t 98, .k (.v (.int .i64 1))], none⟩,
          ⟨some 98, [], .mv, [.t 109], none⟩]))))
/-- (*ndjq/vals.meter).fits -/
def bd37 : C :=
    (.seq
      (.reg false [⟨some 5, [], .bbox 5, [.t 1], none⟩,
        ⟨some 8, [], .mv, [.k (.v (.bool false))], none⟩])
      (.seq
        (.reg false [⟨some 13, [], .mv, [.t 0], none⟩,
          ⟨some 14, [], .nchk, [.t 13], none⟩,
          ⟨some 15, [], .fa 0, [.t 14], none⟩,
          ⟨some 16, [], .gld 1 false false, [.t 15], none⟩,
          ⟨some 17, [], .bin .add, [.t 16, .k (.v (.int .i64 1))], none⟩,
          ⟨some 18, [], .nchk, [.t 13], none⟩,
          ⟨some 19, [], .fa 0, [.t 18], none⟩,
          ⟨none, [], .gst 1 false, [.t 19, .t 17], none⟩])
        (.seq
          (.seq
            (.reg false [⟨some 20, [], .mv, [.t 0], none⟩,
              ⟨some 21, [], .nchk, [.t 20], none⟩,
              ⟨some 22, [], .fa 0, [.t 21], none⟩,
              ⟨some 23, [], .gld 1 false false, [.t 22], none⟩,
              ⟨some 24, [], .bin .gtr, [.t 23, .k (.v (.int .i64 4096))], none⟩,
              ⟨some 25, [], .mv, [.t 24], none⟩,
              ⟨some 26, [], .fa 0, [.t 5], (some (25, false))⟩,
              ⟨some 27, [], .bld 5 1 false false, [.t 26], (some (25, false))⟩,
              ⟨some 28, [], .bin .lss, [.t 27, .k (.v (.int .i64 0))], (some (25, false))⟩,
              ⟨some 29, [], .pick, [.t 25, .k (.v (.bool true)), .t 28], none⟩,
              ⟨some 30, [], .mv, [.t 29], none⟩,
              ⟨some 31, [], .fa 0, [.t 5], (some (30, false))⟩,
              ⟨some 32, [], .bld 5 1 false false, [.t 31], (some (30, false))⟩,
              ⟨some 33, [], .bin .gtr, [.t 32, .k (.v (.int .i64 6))], (some (30, false))⟩,
              ⟨some 34, [], .pick, [.t 30, .k (.v (.bool true)), .t 33], none⟩])
            (.cond (.t 34)
              (.seq
                (.reg false [⟨some 8, [], .mv, [.k (.v (.bool false))], none⟩])
                .ret)
              .skip))
          (.seq
            (.seq
              (.reg false [⟨some 35, [], .fa 0, [.t 5], none⟩,
                ⟨some 36, [], .bld 5 1 false false, [.t 35], none⟩,
                ⟨some 37, [], .bin .eql, [.t 36, .k (.v (.int .i64 4))], none⟩,
                ⟨some 38, [], .mv, [.t 37], none⟩,
                ⟨some 39, [], .fa 2, [.t 5], (some (38, true))⟩,
                ⟨some 40, [], .bld 5 1 false false, [.t 39], (some (38, true))⟩,
                ⟨some 41, [], .slen, [.t 40], (some (38, true))⟩,
                ⟨some 42, [], .bin .gtr, [.t 41, .k (.v (.int .i64 4096))], (some (38, true))⟩,
                ⟨some 43, [], .pick, [.t 38, .t 42, .k (.v (.bool false))], none⟩,
                ⟨some 44, [], .mv, [.t 43], none⟩,
                ⟨some 45, [], .mv, [.t 3], (some (44, false))⟩,
                ⟨some 46, [], .mv, [.t 45], (some (44, false))⟩,
                ⟨some 47, [], .bld 5 5 true false, [.t 5], (some (46, true))⟩,
                ⟨some 48, [], .call true, [.k (.v (.func (.func 53) #[] #[])), .t 47], (some (46, true))⟩,
                ⟨some 49, [], .un .not, [.t 48], (some (46, true))⟩,
                ⟨some 50, [], .pick, [.t 46, .t 49, .k (.v (.bool false))], (some (44, false))⟩,
                ⟨some 51, [], .pick, [.t 44, .k (.v (.bool true)), .t 50], none⟩])
              (.cond (.t 51)
                (.seq
                  (.reg false [⟨some 8, [], .mv, [.k (.v (.bool false))], none⟩])
                  .ret)
                .skip))
            (.seq
              (.reg true [⟨some 52, [], .mv, [.t 0], none⟩,
                ⟨some 53, [], .nchk, [.t 52], none⟩,
                ⟨some 54, [], .fa 1, [.t 53], none⟩,
                ⟨some 55, [], .gld 1 false false, [.t 54], none⟩,
                ⟨some 56, [], .fa 2, [.t 5], none⟩,
                ⟨some 57, [], .bld 5 1 false false, [.t 56], none⟩,
                ⟨some 58, [], .slen, [.t 57], none⟩,
                ⟨some 59, [], .bin .add, [.t 55, .t 58], none⟩,
                ⟨some 60, [], .nchk, [.t 52], none⟩,
                ⟨some 61, [], .fa 1, [.t 60], none⟩,
                ⟨none, [], .gst 1 false, [.t 61, .t 59], none⟩])
              (.seq
                (.seq
                  (.reg false [⟨some 62, [], .fa 3, [.t 5], none⟩,
                    ⟨some 63, [], .bld 5 1 false false, [.t 62], none⟩,
                    ⟨some 64, [], .len, [.t 63], none⟩,
                    ⟨some 65, [], .mv, [.k (.v (.int .i64 0))], none⟩])
                  (.block 0
                    (.loop fn37_l1)))
                (.seq
                  (.seq
                    (.reg false [⟨some 79, [], .mv, [.t 0], none⟩,
                      ⟨some 80, [], .nchk, [.t 79], none⟩,
                      ⟨some 81, [], .fa 1, [.t 80], none⟩,
                      ⟨some 82, [], .gld 1 false false, [.t 81], none⟩,
                      ⟨some 83, [], .bin .gtr, [.t 82, .k (.v (.int .i64 65536))], none⟩])
                    (.cond (.t 83)
                      (.seq
                        (.reg false [⟨some 8, [], .mv, [.k (.v (.bool false))], none⟩])
                        .ret)
                      .skip))
                  (.seq
                    (.seq
                      (.reg false [⟨some 84, [], .fa 0, [.t 5], none⟩,
                        ⟨some 85, [], .bld 5 1 false false, [.t 84], none⟩,
                        ⟨some 86, [], .bin .lss, [.t 85, .k (.v (.int .i64 5))], none⟩])
                      (.cond (.t 86)
                        (.seq
                          (.reg false [⟨some 8, [], .mv, [.k (.v (.bool true))], none⟩])
                          .ret)
                        .skip))
                    (.seq
                      (.seq
                        (.reg false [⟨some 87, [], .mv, [.t 2], none⟩,
                          ⟨some 88, [], .bin .geq, [.t 87, .k (.v (.int .i64 32))], none⟩,
                          ⟨some 89, [], .mv, [.t 88], none⟩,
                          ⟨some 90, [], .fa 4, [.t 5], (some (89, false))⟩,
                          ⟨some 91, [], .bld 5 1 false false, [.t 90], (some (89, false))⟩,
                          ⟨some 92, [], .len, [.t 91], (some (89, false))⟩,
                          ⟨some 93, [], .bin .gtr, [.t 92, .k (.v (.int .i64 1024))], (some (89, false))⟩,
                          ⟨some 94, [], .pick, [.t 89, .k (.v (.bool true)), .t 93], none⟩])
                        (.cond (.t 94)
                          (.seq
                            (.reg false [⟨some 8, [], .mv, [.k (.v (.bool false))], none⟩])
                            .ret)
                          .skip))
                      (.seq
                        (.seq
                          (.reg false [⟨some 95, [], .fa 4, [.t 5], none⟩,
                            ⟨some 96, [], .bld 5 1 false false, [.t 95], none⟩,
                            ⟨some 97, [], .len, [.t 96], none⟩,
                            ⟨some 98, [], .mv, [.k (.v (.int .i64 0))], none⟩])
                          (.block 2
                            (.loop fn37_l2)))
                        (.seq
                          (.reg false [⟨some 8, [], .mv, [.k (.v (.bool true))], none⟩])
                          .ret)))))))))))
def fn37 : Fn := ⟨4, bd37, [.slot 8]⟩

/-- ndjq/text.Indices$1 -/
def bd38 : C :=
    (.seq
      (.reg false [⟨some 2, [], .bnew 2 [(.v (.int .i64 0)), (.v (.int .i64 0)), (.v (.string ⟨#[]⟩)), (.sl .full (some true) []), (.sl .full (some true) [])], [], none⟩,
        ⟨some 3, [], .mv, [.k (.v (.int .i64 0))], none⟩])
      (.seq
        (.reg true [⟨some 4, [], .mv, [.t 0], none⟩,
          ⟨some 5, [], .ia 5, [.t 4, .k (.v (.int .i64 0))], none⟩,
          ⟨some 6, [], .ldel 5 true, [.t 5], none⟩,
          ⟨some 7, [], .mv, [.t 0], none⟩,
          ⟨some 8, [], .ia 5, [.t 7, .k (.v (.int .i64 1))], none⟩,
          ⟨some 9, [], .ldel 5 true, [.t 8], none⟩,
          ⟨some 10, [], .call true, [.k (.v (.func (.func 39) #[] #[])), .t 6, .t 9], none⟩,
          ⟨some 11, [], .ext 0, [.t 10], none⟩,
          ⟨some 12, [], .ext 1, [.t 10], none⟩,
          ⟨none, [], .bst 2 5 false, [.t 2, .t 11], none⟩,
          ⟨some 3, [], .mv, [.t 12], none⟩])
        .ret))
def fn38 : Fn := ⟨1, bd38, [.cell 2 5 true, .slot 3]⟩

def fn39_l1 : C :=
  (.seq
    (.seq
      (.reg false [⟨some 56, [], .mv, [.t 7], none⟩,
        ⟨some 57, [], .fa 2, [.t 2], none⟩,
        ⟨some 58, [], .bld 2 1 false false, [.t 57], none⟩,
        ⟨some 59, [], .slen, [.t 58], none⟩,
        ⟨some 60, [], .bin .lss, [.t 56, .t 59], none⟩])
      (.cond (.t 60)
        .skip
        (.exit 3)))
    (.seq
      (.block 4
        (.seq
          (.seq
            (.reg true [⟨some 63, [], .fa 2, [.t 2], none⟩,
              ⟨some 64, [], .bld 2 1 false false, [.t 63], none⟩,
              ⟨some 65, [], .mv, [.t 7], none⟩,
              ⟨some 66, [], .sslice true false, [.t 64, .t 65], none⟩,
              ⟨some 67, [], .fa 2, [.t 3], none⟩,
              ⟨some 68, [], .bld 3 1 false false, [.t 67], none⟩,
              ⟨some 69, [], .call true, [.k (.v (.func (.func 43) #[] #[])), .t 66, .t 68], none⟩])
            (.cond (.t 69)
              (.reg false [⟨some 70, [6], .mvx, [.t 6], none⟩,
                ⟨some 71, [], .mv, [.t 8], none⟩,
                ⟨some 72, [], .call true, [.k (.v (.func (.func 54) #[] #[])), .t 71], none⟩,
                ⟨some 73, [], .bsl 5, [.t 72], none⟩,
                ⟨some 74, [70], .app 5 80, [.t 70, .t 73], none⟩,
                ⟨some 6, [74], .mvx, [.t 74], none⟩])
              .skip))
          (.seq
            (.reg false [⟨some 76, [], .fa 2, [.t 2], none⟩,
              ⟨some 77, [], .bld 2 1 false false, [.t 76], none⟩,
              ⟨some 78, [], .mv, [.t 7], none⟩,
              ⟨some 79, [], .call true, [.k (.v (.func (.func 55) #[] #[])), .t 77, .t 78], none⟩,
              ⟨some 75, [], .mv, [.t 79], none⟩,
              ⟨some 80, [], .ext 0, [.t 75], none⟩,
              ⟨some 81, [], .ext 1, [.t 75], none⟩,
              ⟨some 82, [], .ext 2, [.t 75], none⟩,
              ⟨some 9, [], .mv, [.t 80], none⟩,
              ⟨some 10, [], .mv, [.t 81], none⟩,
              ⟨some 11, [], .mv, [.t 82], none⟩])
            (.reg false [⟨some 83, [], .mv, [.t 7], none⟩,
              ⟨some 84, [], .mv, [.t 10], none⟩,
              ⟨some 85, [], .bin .add, [.t 83, .t 84], none⟩,
              ⟨some 7, [], .mv, [.t 85], none⟩]))))
      (.reg false [⟨some 61, [], .mv, [.t 8], none⟩,
        ⟨some 62, [], .bin .add, [.t 61, .k (.v (.int .i64 1))], none⟩,
        ⟨some 8, [], .mv, [.t 62], none⟩])))
def fn39_l2 : C :=
  (.seq
    (.reg false [⟨some 99, [], .bin .lss, [.t 98, .t 97], none⟩])
    (.seq
      (.cond (.t 99)
        .skip
        (.exit 5))
      (.seq
        (.block 6
          (.seq
            (.reg false [⟨some 100, [], .mv, [.t 98], none⟩,
              ⟨some 101, [], .ia 5, [.t 96, .t 98], none⟩,
              ⟨some 102, [], .ldel 5 true, [.t 101], none⟩,
              ⟨some 13, [], .bnew 13 [(.v (.int .i64 0)), (.v (.int .i64 0)), (.v (.string ⟨#[]⟩)), (.sl .full (some true) []), (.sl .full (some true) [])], [], none⟩,
              ⟨some 12, [], .mv, [.t 100], none⟩,
              ⟨none, [], .bst 13 5 false, [.t 13, .t 102], none⟩])
            (.seq
              (.reg false [⟨some 103, [], .bld 13 5 true false, [.t 13], none⟩,
                ⟨some 104, [], .bld 3 5 true false, [.t 3], none⟩,
                ⟨some 105, [], .call true, [.k (.v (.func (.func 56) #[] #[])), .t 103, .t 104], none⟩])
              (.cond (.t 105)
                (.reg false [⟨some 106, [6], .mvx, [.t 6], none⟩,
                  ⟨some 107, [], .mv, [.t 12], none⟩,
                  ⟨some 108, [], .call true, [.k (.v (.func (.func 54) #[] #[])), .t 107], none⟩,
                  ⟨some 109, [], .bsl 5, [.t 108], none⟩,
                  ⟨some 110, [106], .app 5 80, [.t 106, .t 109], none⟩,
                  ⟨some 6, [110], .mvx, [.t 110], none⟩])
                .skip))))
        (.reg false [⟨some 111, [], .bin .add, [.t 98, .k (.v (.int .i64 1))], none⟩,
          ⟨some 98, [], .mv, [.t 111], none⟩]))))
def fn39_l3 : C :=
  (.seq
    (.seq
      (.reg false [⟨some 15, [], .mv, [.t 14], none⟩,
        ⟨some 16, [], .fa 4, [.t 3], none⟩,
        ⟨some 17, [], .bld 3 1 false false, [.t 16], none⟩,
        ⟨some 18, [], .len, [.t 17], none⟩,
        ⟨some 19, [], .bin .add, [.t 15, .t 18], none⟩,
        ⟨some 20, [], .fa 4, [.t 2], none⟩,
        ⟨some 21, [], .bld 2 1 false false, [.t 20], none⟩,
        ⟨some 22, [], .len, [.t 21], none⟩,
        ⟨some 23, [], .bin .leq, [.t 19, .t 22], none⟩])
      (.cond (.t 23)
        .skip
        (.exit 1)))
    (.seq
      (.block 2
        (.seq
          (.reg true [⟨some 26, [], .fa 4, [.t 2], none⟩,
            ⟨some 27, [], .bld 2 1 false false, [.t 26], none⟩,
            ⟨some 28, [], .mv, [.t 14], none⟩,
            ⟨some 29, [], .mv, [.t 14], none⟩,
            ⟨some 30, [], .fa 4, [.t 3], none⟩,
            ⟨some 31, [], .bld 3 1 false false, [.t 30], none⟩,
            ⟨some 32, [], .len, [.t 31], none⟩,
            ⟨some 33, [], .bin .add, [.t 29, .t 32], none⟩,
            ⟨some 34, [], .slice 5 true true false, [.t 27, .t 28, .t 33], none⟩,
            ⟨some 35, [], .call true, [.k (.v (.func (.func 57) #[] #[])), .t 34], none⟩,
            ⟨some 36, [], .bld 3 5 true false, [.t 3], none⟩,
            ⟨some 37, [], .call true, [.k (.v (.func (.func 56) #[] #[])), .t 35, .t 36], none⟩])
          (.cond (.t 37)
            (.reg false [⟨some 38, [6], .mvx, [.t 6], none⟩,
              ⟨some 39, [], .mv, [.t 14], none⟩,
              ⟨some 40, [], .call true, [.k (.v (.func (.func 54) #[] #[])), .t 39], none⟩,
              ⟨some 41, [], .bsl 5, [.t 40], none⟩,
              ⟨some 42, [38], .app 5 80, [.t 38, .t 41], none⟩,
              ⟨some 6, [42], .mvx, [.t 42], none⟩])
            .skip)))
      (.reg false [⟨some 24, [], .mv, [.t 14], none⟩,
        ⟨some 25, [], .bin .add, [.t 24, .k (.v (.int .i64 1))], none⟩,
        ⟨some 14, [], .mv, [.t 25], none⟩])))
/-- ndjq/ops.Indices -/
def bd39 : C :=
    (.seq
      (.reg false [⟨some 2, [], .bbox 2, [.t 0], none⟩,
        ⟨some 3, [], .bbox 3, [.t 1], none⟩,
        ⟨some 4, [], .bnew 4 [(.v (.int .i64 0)), (.v (.int .i64 0)), (.v (.string ⟨#[]⟩)), (.sl .full (some true) []), (.sl .full (some true) [])], [], none⟩,
        ⟨some 5, [], .mv, [.k (.v (.int .i64 0))], none⟩])
      (.seq
        (.reg false [⟨some 6, [], .mv, [.k (.sl .full (some true) [])], none⟩])
        (.seq
          (.block 0
            (.seq
              (.reg false [⟨some 44, [], .fa 0, [.t 2], none⟩,
                ⟨some 45, [], .bld 2 1 false false, [.t 44], none⟩,
                ⟨some 46, [], .bin .eql, [.t 45, .k (.v (.int .i64 4))], none⟩,
                ⟨some 47, [], .mv, [.t 46], none⟩,
                ⟨some 48, [], .fa 0, [.t 3], (some (47, true))⟩,
                ⟨some 49, [], .bld 3 1 false false, [.t 48], (some (47, true))⟩,
                ⟨some 50, [], .bin .eql, [.t 49, .k (.v (.int .i64 4))], (some (47, true))⟩,
                ⟨some 51, [], .pick, [.t 47, .t 50, .k (.v (.bool false))], none⟩,
                ⟨some 43, [], .mv, [.t 51], none⟩])
              (.cond (.t 43)
                (.seq
                  (.seq
                    (.reg false [⟨some 52, [], .fa 2, [.t 3], none⟩,
                      ⟨some 53, [], .bld 3 1 false false, [.t 52], none⟩,
                      ⟨some 54, [], .bin .eql, [.t 53, .k (.v (.string ⟨#[]⟩))], none⟩])
                    (.cond (.t 54)
                      (.seq
                        (.reg false [⟨some 55, [], .call true, [.k (.v (.func (.func 49) #[] #[]))], none⟩,
                          ⟨none, [], .bst 4 5 false, [.t 4, .t 55], none⟩,
                          ⟨some 5, [], .mv, [.k (.v (.int .i64 0))], none⟩])
                        .ret)
                      .skip))
                  (.seq
                    (.reg false [⟨some 7, [], .mv, [.k (.v (.int .i64 0))], none⟩,
                      ⟨some 8, [], .mv, [.k (.v (.int .i64 0))], none⟩])
                    (.block 3
                      (.loop fn39_l1))))
                (.seq
                  (.reg false [⟨some 87, [], .fa 0, [.t 2], none⟩,
                    ⟨some 88, [], .bld 2 1 false false, [.t 87], none⟩,
                    ⟨some 89, [], .bin .neq, [.t 88, .k (.v (.int .i64 5))], none⟩,
                    ⟨some 86, [], .mv, [.t 89], none⟩])
                  (.cond (.t 86)
                    (.seq
                      (.reg false [⟨some 90, [], .call true, [.k (.v (.func (.func 49) #[] #[]))], none⟩,
                        ⟨none, [], .bst 4 5 false, [.t 4, .t 90], none⟩,
                        ⟨some 5, [], .mv, [.k (.v (.int .i64 12))], none⟩])
                      .ret)
                    (.seq
                      (.reg false [⟨some 92, [], .fa 0, [.t 3], none⟩,
                        ⟨some 93, [], .bld 3 1 false false, [.t 92], none⟩,
                        ⟨some 94, [], .bin .neq, [.t 93, .k (.v (.int .i64 5))], none⟩,
                        ⟨some 91, [], .mv, [.t 94], none⟩])
                      (.cond (.t 91)
                        (.seq
                          (.reg false [⟨some 95, [], .fa 4, [.t 2], none⟩,
                            ⟨some 96, [], .bld 2 1 false false, [.t 95], none⟩,
                            ⟨some 97, [], .len, [.t 96], none⟩,
                            ⟨some 98, [], .mv, [.k (.v (.int .i64 0))], none⟩])
                          (.block 5
                            (.loop fn39_l2)))
                        (.seq
                          (.reg false [⟨some 113, [], .fa 4, [.t 3], none⟩,
                            ⟨some 114, [], .bld 3 1 false false, [.t 113], none⟩,
                            ⟨some 115, [], .len, [.t 114], none⟩,
                            ⟨some 116, [], .bin .eql, [.t 115, .k (.v (.int .i64 0))], none⟩,
                            ⟨some 112, [], .mv, [.t 116], none⟩])
                          (.cond (.t 112)
                            (.seq
                              (.reg false [⟨some 117, [], .call true, [.k (.v (.func (.func 49) #[] #[]))], none⟩,
                                ⟨none, [], .bst 4 5 false, [.t 4, .t 117], none⟩,
                                ⟨some 5, [], .mv, [.k (.v (.int .i64 0))], none⟩])
                              .ret)
                            (.seq
                              (.reg false [⟨some 14, [], .mv, [.k (.v (.int .i64 0))], none⟩])
                              (.block 1
                                (.loop fn39_l3))))))))))))
          (.seq
            (.reg false [⟨some 118, [], .mv, [.t 6], none⟩,
              ⟨some 119, [], .call true, [.k (.v (.func (.func 57) #[] #[])), .t 118], none⟩,
              ⟨some 120, [], .call true, [.k (.v (.func (.func 58) #[] #[])), .t 119], none⟩,
              ⟨some 121, [], .ext 0, [.t 120], none⟩,
              ⟨some 122, [], .ext 1, [.t 120], none⟩,
              ⟨none, [], .bst 4 5 false, [.t 4, .t 121], none⟩,
              ⟨some 5, [], .mv, [.t 122], none⟩])
            .ret))))
def fn39 : Fn := ⟨2, bd39, [.cell 4 5 true, .slot 5]⟩

def fn40_l1 : C :=
  (.seq
    (.reg false [⟨some 8, [], .bin .lss, [.t 7, .t 6], none⟩])
    (.seq
      (.cond (.t 8)
        .skip
        (.exit 0))
      (.seq
        (.block 1
          (.seq
            (.reg false [⟨some 9, [], .ia 5, [.t 5, .t 7], none⟩,
              ⟨some 10, [], .ldel 5 true, [.t 9], none⟩,
              ⟨some 4, [], .bnew 4 [(.v (.int .i64 0)), (.v (.int .i64 0)), (.v (.string ⟨#[]⟩)), (.sl .full (some true) []), (.sl .full (some true) [])], [], none⟩,
              ⟨none, [], .bst 4 5 false, [.t 4, .t 10], none⟩])
            (.seq
              (.reg false [⟨some 11, [], .bld 4 5 true false, [.t 4], none⟩,
                ⟨some 12, [], .call true, [.k (.v (.func (.func 18) #[] #[])), .t 11], none⟩,
                ⟨some 13, [], .un .not, [.t 12], none⟩])
              (.cond (.t 13)
                (.seq
                  (.reg false [⟨some 2, [], .mv, [.k (.v (.bool false))], none⟩])
                  .ret)
                .skip))))
        (.reg false [⟨some 14, [], .bin .add, [.t 7, .k (.v (.int .i64 1))], none⟩,
          ⟨some 7, [], .mv, [.t 14], none⟩]))))
/-- ndjq/vals.All -/
def bd40 : C :=
    (.seq
      (.reg false [⟨some 2, [], .mv, [.k (.v (.bool false))], none⟩])
      (.seq
        (.seq
          (.reg false [⟨some 5, [], .mv, [.t 0], none⟩,
            ⟨some 6, [], .len, [.t 5], none⟩,
            ⟨some 7, [], .mv, [.k (.v (.int .i64 0))], none⟩])
          (.block 0
            (.loop fn40_l1)))
        (.seq
          (.reg false [⟨some 2, [], .mv, [.k (.v (.bool true))], none⟩])
          .ret)))
def fn40 : Fn := ⟨1, bd40, [.slot 2]⟩

def fn41_l1 : C :=
  (.seq
    (.reg false [⟨some 16, [], .bin .lss, [.t 15, .t 14], none⟩])
    (.seq
      (.cond (.t 16)
        .skip
        (.exit 0))
      (.seq
        (.block 1
          (.seq
            (.reg false [⟨some 17, [], .ia 5, [.t 13, .t 15], none⟩,
              ⟨some 18, [], .ldel 5 true, [.t 17], none⟩,
              ⟨some 5, [], .bnew 5 [(.v (.int .i64 0)), (.v (.int .i64 0)), (.v (.string ⟨#[]⟩)), (.sl .full (some true) []), (.sl .full (some true) [])], [], none⟩,
              ⟨none, [], .bst 5 5 false, [.t 5, .t 18], none⟩])
            (.reg true [⟨some 19, [], .fa 4, [.t 1], none⟩,
              ⟨some 20, [], .bld 1 1 false true, [.t 19], none⟩,
              ⟨some 21, [], .bld 5 5 true false, [.t 5], none⟩,
              ⟨some 22, [], .call true, [.k (.v (.func (.func 41) #[] #[])), .t 21], none⟩,
              ⟨some 23, [], .bsl 5, [.t 22], none⟩,
              ⟨some 24, [20], .app 5 80, [.t 20, .t 23], none⟩,
              ⟨some 25, [], .fa 4, [.t 1], none⟩,
              ⟨none, [24], .bst 1 1 true, [.t 25, .t 24], none⟩])))
        (.reg false [⟨some 26, [], .bin .add, [.t 15, .k (.v (.int .i64 1))], none⟩,
          ⟨some 15, [], .mv, [.t 26], none⟩]))))
/-- ndjq/vals.Copy -/
def bd41 : C :=
    (.seq
      (.reg false [⟨some 1, [], .bbox 1, [.t 0], none⟩,
        ⟨some 2, [], .bnew 2 [(.v (.int .i64 0)), (.v (.int .i64 0)), (.v (.string ⟨#[]⟩)), (.sl .full (some true) []), (.sl .full (some true) [])], [], none⟩])
      (.seq
        (.reg false [⟨some 6, [], .fa 3, [.t 1], none⟩,
          ⟨some 7, [], .bld 1 1 false false, [.t 6], none⟩,
          ⟨some 8, [], .call true, [.k (.v (.func (.func 59) #[] #[])), .t 7], none⟩,
          ⟨some 9, [], .fa 3, [.t 1], none⟩,
          ⟨none, [], .bst 1 1 false, [.t 9, .t 8], none⟩])
        (.seq
          (.reg false [⟨some 10, [], .fa 4, [.t 1], none⟩,
            ⟨some 11, [], .bld 1 1 false false, [.t 10], none⟩,
            ⟨some 3, [], .mv, [.t 11], none⟩])
          (.seq
            (.reg false [⟨some 12, [], .fa 4, [.t 1], none⟩,
              ⟨none, [], .bst 1 1 false, [.t 12, .k (.sl .full (some true) [])], none⟩])
            (.seq
              (.seq
                (.reg false [⟨some 13, [], .mv, [.t 3], none⟩,
                  ⟨some 14, [], .len, [.t 13], none⟩,
                  ⟨some 15, [], .mv, [.k (.v (.int .i64 0))], none⟩])
                (.block 0
                  (.loop fn41_l1)))
              (.seq
                (.reg false [⟨some 27, [], .bld 1 5 true false, [.t 1], none⟩,
                  ⟨none, [], .bst 2 5 false, [.t 2, .t 27], none⟩])
                .ret))))))
def fn41 : Fn := ⟨1, bd41, [.cell 2 5 true]⟩

/-- (ndjq/ops.pair).tests -/
def bd42 : C :=
    (.seq
      (.reg false [⟨some 2, [], .bbox 2, [.t 0], none⟩,
        ⟨some 4, [], .bnew 4 [(.v (.int .i64 0)), (.v (.int .i64 0)), (.v (.string ⟨#[]⟩)), (.sl .full (some true) []), (.sl .full (some true) [])], [], none⟩,
        ⟨some 5, [], .mv, [.k (.v (.int .i64 0))], none⟩])
      (.seq
        (.seq
          (.reg false [⟨some 6, [], .bld 2 10 true false, [.t 2], none⟩,
            ⟨some 7, [], .call true, [.k (.v (.func (.func 60) #[] #[])), .t 6], none⟩,
            ⟨some 8, [], .un .not, [.t 7], none⟩])
          (.cond (.t 8)
            (.seq
              (.reg false [⟨some 9, [], .call true, [.k (.v (.func (.func 49) #[] #[]))], none⟩,
                ⟨none, [], .bst 4 5 false, [.t 4, .t 9], none⟩,
                ⟨some 5, [], .mv, [.k (.v (.int .i64 12))], none⟩])
              .ret)
            .skip))
        (.seq
          (.reg false [⟨some 10, [], .mv, [.t 1], none⟩,
            ⟨some 11, [], .fa 0, [.t 2], none⟩,
            ⟨some 12, [], .fa 2, [.t 11], none⟩,
            ⟨some 13, [], .bld 2 1 false false, [.t 12], none⟩,
            ⟨some 14, [], .fa 5, [.t 2], none⟩,
            ⟨some 15, [], .fa 2, [.t 14], none⟩,
            ⟨some 16, [], .bld 2 1 false false, [.t 15], none⟩,
            ⟨some 17, [], .call true, [.t 10, .t 13, .t 16], none⟩,
            ⟨some 18, [], .call true, [.k (.v (.func (.func 61) #[] #[])), .t 17], none⟩,
            ⟨none, [], .bst 4 5 false, [.t 4, .t 18], none⟩,
            ⟨some 5, [], .mv, [.k (.v (.int .i64 0))], none⟩])
          .ret)))
def fn42 : Fn := ⟨2, bd42, [.cell 4 5 true, .slot 5]⟩

/-- strings.HasPrefix -/
def bd43 : C :=
    (.seq
      (.reg false [⟨some 4, [], .mv, [.k (.v (.bool false))], none⟩])
      (.seq
        (.reg false [⟨some 5, [], .mv, [.t 0], none⟩,
          ⟨some 6, [], .mv, [.t 1], none⟩,
          ⟨some 7, [], .call true, [.k (.v (.func (.func 62) #[] #[])), .t 5, .t 6], none⟩,
          ⟨some 4, [], .mv, [.t 7], none⟩])
        .ret))
def fn43 : Fn := ⟨2, bd43, [.slot 4]⟩

/-- strings.HasSuffix -/
def bd44 : C :=
    (.seq
      (.reg false [⟨some 4, [], .mv, [.k (.v (.bool false))], none⟩])
      (.seq
        (.reg false [⟨some 5, [], .mv, [.t 0], none⟩,
          ⟨some 6, [], .mv, [.t 1], none⟩,
          ⟨some 7, [], .call true, [.k (.v (.func (.func 63) #[] #[])), .t 5, .t 6], none⟩,
          ⟨some 4, [], .mv, [.t 7], none⟩])
        .ret))
def fn44 : Fn := ⟨2, bd44, [.slot 4]⟩

/-- (ndjq/ops.pair).cut -/
def bd45 : C :=
    (.seq
      (.reg false [⟨some 2, [], .bbox 2, [.t 0], none⟩,
        ⟨some 4, [], .bnew 4 [(.v (.int .i64 0)), (.v (.int .i64 0)), (.v (.string ⟨#[]⟩)), (.sl .full (some true) []), (.sl .full (some true) [])], [], none⟩,
        ⟨some 5, [], .mv, [.k (.v (.int .i64 0))], none⟩])
      (.seq
        (.seq
          (.reg false [⟨some 6, [], .bld 2 10 true false, [.t 2], none⟩,
            ⟨some 7, [], .call true, [.k (.v (.func (.func 60) #[] #[])), .t 6], none⟩,
            ⟨some 8, [], .un .not, [.t 7], none⟩])
          (.cond (.t 8)
            (.seq
              (.reg false [⟨some 9, [], .fa 0, [.t 2], none⟩,
                ⟨some 10, [], .bld 2 5 true false, [.t 9], none⟩,
                ⟨none, [], .bst 4 5 false, [.t 4, .t 10], none⟩,
                ⟨some 5, [], .mv, [.k (.v (.int .i64 0))], none⟩])
              .ret)
            .skip))
        (.seq
          (.reg false [⟨some 11, [], .mv, [.t 1], none⟩,
            ⟨some 12, [], .fa 0, [.t 2], none⟩,
            ⟨some 13, [], .fa 2, [.t 12], none⟩,
            ⟨some 14, [], .bld 2 1 false false, [.t 13], none⟩,
            ⟨some 15, [], .fa 5, [.t 2], none⟩,
            ⟨some 16, [], .fa 2, [.t 15], none⟩,
            ⟨some 17, [], .bld 2 1 false false, [.t 16], none⟩,
            ⟨some 18, [], .call true, [.t 11, .t 14, .t 17], none⟩,
            ⟨some 19, [], .call true, [.k (.v (.func (.func 52) #[] #[])), .t 18], none⟩,
            ⟨none, [], .bst 4 5 false, [.t 4, .t 19], none⟩,
            ⟨some 5, [], .mv, [.k (.v (.int .i64 0))], none⟩])
          .ret)))
def fn45 : Fn := ⟨2, bd45, [.cell 4 5 true, .slot 5]⟩

/-- strings.TrimPrefix -/
def bd46 : C :=
    (.seq
      (.reg false [⟨some 4, [], .mv, [.k (.v (.string ⟨#[]⟩))], none⟩])
      (.seq
        (.reg false [⟨some 5, [], .mv, [.t 0], none⟩,
          ⟨some 6, [], .mv, [.t 1], none⟩,
          ⟨some 7, [], .call true, [.k (.v (.func (.func 64) #[] #[])), .t 5, .t 6], none⟩,
          ⟨some 4, [], .mv, [.t 7], none⟩])
        .ret))
def fn46 : Fn := ⟨2, bd46, [.slot 4]⟩

/-- strings.TrimSuffix -/
def bd47 : C :=
    (.seq
      (.reg false [⟨some 4, [], .mv, [.k (.v (.string ⟨#[]⟩))], none⟩])
      (.seq
        (.reg false [⟨some 5, [], .mv, [.t 0], none⟩,
          ⟨some 6, [], .mv, [.t 1], none⟩,
          ⟨some 7, [], .call true, [.k (.v (.func (.func 65) #[] #[])), .t 5, .t 6], none⟩,
          ⟨some 4, [], .mv, [.t 7], none⟩])
        .ret))
def fn47 : Fn := ⟨2, bd47, [.slot 4]⟩

def fn48_l1 : C :=
  (.seq
    (.reg false [⟨some 21, [], .bin .lss, [.t 20, .t 19], none⟩])
    (.seq
      (.cond (.t 21)
        .skip
        (.exit 0))
      (.seq
        (.block 1
          (.seq
            (.reg false [⟨some 22, [], .mv, [.t 20], none⟩,
              ⟨some 23, [], .ia 1, [.t 18, .t 20], none⟩,
              ⟨some 24, [], .gld 1 false false, [.t 23], none⟩,
              ⟨some 9, [], .mv, [.t 22], none⟩,
              ⟨some 10, [], .mv, [.t 24], none⟩])
            (.seq
              (.reg false [⟨some 25, [], .mv, [.t 10], none⟩,
                ⟨some 26, [], .mv, [.t 1], none⟩,
                ⟨some 27, [], .bin .geq, [.t 25, .t 26], none⟩,
                ⟨some 28, [], .mv, [.t 27], none⟩,
                ⟨some 29, [], .mv, [.t 10], (some (28, true))⟩,
                ⟨some 30, [], .mv, [.t 1], (some (28, true))⟩,
                ⟨some 31, [], .bin .add, [.t 30, .k (.v (.int .u8 26))], (some (28, true))⟩,
                ⟨some 32, [], .bin .lss, [.t 29, .t 31], (some (28, true))⟩,
                ⟨some 33, [], .pick, [.t 28, .t 32, .k (.v (.bool false))], none⟩])
              (.cond (.t 33)
                (.reg false [⟨some 34, [], .mv, [.t 8], none⟩,
                  ⟨some 35, [], .mv, [.t 9], none⟩,
                  ⟨some 36, [], .mv, [.t 10], none⟩,
                  ⟨some 37, [], .cvi .i64, [.t 36], none⟩,
                  ⟨some 38, [], .mv, [.t 2], none⟩,
                  ⟨some 39, [], .bin .add, [.t 37, .t 38], none⟩,
                  ⟨some 40, [], .cvi .u8, [.t 39], none⟩,
                  ⟨some 41, [], .ia 1, [.t 34, .t 35], none⟩,
                  ⟨none, [], .gst 1 false, [.t 41, .t 40], none⟩])
                .skip))))
        (.reg false [⟨some 42, [], .bin .add, [.t 20, .k (.v (.int .i64 1))], none⟩,
          ⟨some 20, [], .mv, [.t 42], none⟩]))))
/-- ndjq/ops.cased -/
def bd48 : C :=
    (.seq
      (.reg false [⟨some 3, [], .bbox 3, [.t 0], none⟩,
        ⟨some 6, [], .bnew 6 [(.v (.int .i64 0)), (.v (.int .i64 0)), (.v (.string ⟨#[]⟩)), (.sl .full (some true) []), (.sl .full (some true) [])], [], none⟩,
        ⟨some 7, [], .mv, [.k (.v (.int .i64 0))], none⟩])
      (.seq
        (.seq
          (.reg false [⟨some 11, [], .fa 0, [.t 3], none⟩,
            ⟨some 12, [], .bld 3 1 false false, [.t 11], none⟩,
            ⟨some 13, [], .bin .neq, [.t 12, .k (.v (.int .i64 4))], none⟩])
          (.cond (.t 13)
            (.seq
              (.reg false [⟨some 14, [], .call true, [.k (.v (.func (.func 49) #[] #[]))], none⟩,
                ⟨none, [], .bst 6 5 false, [.t 6, .t 14], none⟩,
                ⟨some 7, [], .mv, [.k (.v (.int .i64 12))], none⟩])
              .ret)
            .skip))
        (.seq
          (.reg false [⟨some 15, [], .fa 2, [.t 3], none⟩,
            ⟨some 16, [], .bld 3 1 false false, [.t 15], none⟩,
            ⟨some 17, [], .os2b, [.t 16], none⟩,
            ⟨some 8, [], .mv, [.t 17], none⟩])
          (.seq
            (.seq
              (.reg false [⟨some 18, [], .mv, [.t 8], none⟩,
                ⟨some 19, [], .len, [.t 18], none⟩,
                ⟨some 20, [], .mv, [.k (.v (.int .i64 0))], none⟩])
              (.block 0
                (.loop fn48_l1)))
            (.seq
              (.reg false [⟨some 43, [], .mv, [.t 8], none⟩,
                ⟨some 44, [], .ob2s, [.t 43], none⟩,
                ⟨some 45, [], .call true, [.k (.v (.func (.func 52) #[] #[])), .t 44], none⟩,
                ⟨none, [], .bst 6 5 false, [.t 6, .t 45], none⟩,
                ⟨some 7, [], .mv, [.k (.v (.int .i64 0))], none⟩])
              .ret)))))
def fn48 : Fn := ⟨3, bd48, [.cell 6 5 true, .slot 7]⟩

/-- ndjq/ops.none -/
def bd49 : C :=
    (.seq
      (.reg false [⟨some 0, [], .bnew 0 [(.v (.int .i64 0)), (.v (.int .i64 0)), (.v (.string ⟨#[]⟩)), (.sl .full (some true) []), (.sl .full (some true) [])], [], none⟩])
      (.seq
        (.reg false [⟨some 1, [], .build [(.v (.int .i64 0)), (.v (.int .i64 0)), (.v (.string ⟨#[]⟩)), (.sl .full (some true) []), (.sl .full (some true) [])] [], [], none⟩,
          ⟨none, [], .bst 0 5 false, [.t 0, .t 1], none⟩])
        .ret))
def fn49 : Fn := ⟨0, bd49, [.cell 0 5 true]⟩

def fn50_l1 : C :=
  (.seq
    (.seq
      (.reg false [⟨some 8, [], .mv, [.t 1], none⟩,
        ⟨some 9, [], .mv, [.t 0], none⟩,
        ⟨some 10, [], .slen, [.t 9], none⟩,
        ⟨some 11, [], .bin .lss, [.t 8, .t 10], none⟩,
        ⟨some 12, [], .mv, [.t 11], none⟩,
        ⟨some 13, [], .mv, [.t 0], (some (12, true))⟩,
        ⟨some 14, [], .mv, [.t 1], (some (12, true))⟩,
        ⟨some 15, [], .ix, [.t 13, .t 14], (some (12, true))⟩,
        ⟨some 16, [], .call true, [.k (.v (.func (.func 51) #[] #[])), .t 15], (some (12, true))⟩,
        ⟨some 17, [], .pick, [.t 12, .t 16, .k (.v (.bool false))], none⟩])
      (.cond (.t 17)
        .skip
        (.exit 0)))
    (.block 1
      (.reg false [⟨some 18, [], .mv, [.t 1], none⟩,
        ⟨some 19, [], .bin .add, [.t 18, .k (.v (.int .i64 1))], none⟩,
        ⟨some 1, [], .mv, [.t 19], none⟩])))
/-- ndjq/jsonlex.Skip -/
def bd50 : C :=
    (.seq
      (.reg false [⟨some 4, [], .mv, [.k (.v (.int .i64 0))], none⟩])
      (.seq
        (.seq
          (.reg false [⟨some 5, [], .mv, [.t 1], none⟩,
            ⟨some 6, [], .bin .lss, [.t 5, .k (.v (.int .i64 0))], none⟩])
          (.cond (.t 6)
            (.seq
              (.reg false [⟨some 7, [], .mv, [.t 1], none⟩,
                ⟨some 4, [], .mv, [.t 7], none⟩])
              .ret)
            .skip))
        (.seq
          (.block 0
            (.loop fn50_l1))
          (.seq
            (.reg false [⟨some 20, [], .mv, [.t 1], none⟩,
              ⟨some 4, [], .mv, [.t 20], none⟩])
            .ret))))
def fn50 : Fn := ⟨2, bd50, [.slot 4]⟩

/-- ndjq/jsonlex.Blank -/
def bd51 : C :=
    (.seq
      (.reg false [⟨some 2, [], .mv, [.k (.v (.bool false))], none⟩])
      (.seq
        (.reg false [⟨some 3, [], .mv, [.t 0], none⟩,
          ⟨some 4, [], .bin .eql, [.t 3, .k (.v (.int .u8 32))], none⟩,
          ⟨some 5, [], .mv, [.t 4], none⟩,
          ⟨some 6, [], .mv, [.t 0], (some (5, false))⟩,
          ⟨some 7, [], .bin .eql, [.t 6, .k (.v (.int .u8 9))], (some (5, false))⟩,
          ⟨some 8, [], .pick, [.t 5, .k (.v (.bool true)), .t 7], none⟩,
          ⟨some 9, [], .mv, [.t 8], none⟩,
          ⟨some 10, [], .mv, [.t 0], (some (9, false))⟩,
          ⟨some 11, [], .bin .eql, [.t 10, .k (.v (.int .u8 10))], (some (9, false))⟩,
          ⟨some 12, [], .pick, [.t 9, .k (.v (.bool true)), .t 11], none⟩,
          ⟨some 13, [], .mv, [.t 12], none⟩,
          ⟨some 14, [], .mv, [.t 0], (some (13, false))⟩,
          ⟨some 15, [], .bin .eql, [.t 14, .k (.v (.int .u8 13))], (some (13, false))⟩,
          ⟨some 16, [], .pick, [.t 13, .k (.v (.bool true)), .t 15], none⟩,
          ⟨some 2, [], .mv, [.t 16], none⟩])
        .ret))
def fn51 : Fn := ⟨1, bd51, [.slot 2]⟩

/-- ndjq/vals.Str -/
def bd52 : C :=
    (.seq
      (.reg false [⟨some 2, [], .bnew 2 [(.v (.int .i64 0)), (.v (.int .i64 0)), (.v (.string ⟨#[]⟩)), (.sl .full (some true) []), (.sl .full (some true) [])], [], none⟩])
      (.seq
        (.reg false [⟨some 3, [], .mv, [.t 0], none⟩,
          ⟨some 4, [], .build [(.v (.int .i64 0)), (.v (.int .i64 0)), (.v (.string ⟨#[]⟩)), (.sl .full (some true) []), (.sl .full (some true) [])] [(0, 1), (2, 1)], [.k (.v (.int .i64 4)), .t 3], none⟩,
          ⟨none, [], .bst 2 5 false, [.t 2, .t 4], none⟩])
        .ret))
def fn52 : Fn := ⟨1, bd52, [.cell 2 5 true]⟩

def fn53_l1 : C :=
  (.seq
    (.reg false [⟨some 71, [], .bin .lss, [.t 70, .t 69], none⟩])
    (.seq
      (.cond (.t 71)
        .skip
        (.exit 0))
      (.seq
        (.block 1
          (.seq
            (.reg false [⟨some 72, [], .mv, [.t 70], none⟩,
              ⟨some 73, [], .ia 1, [.t 68, .t 70], none⟩,
              ⟨some 74, [], .ldel 1 false, [.t 73], none⟩,
              ⟨some 3, [], .mv, [.t 72], none⟩,
              ⟨some 4, [], .mv, [.t 74], none⟩])
            (.seq
              (.reg false [⟨some 75, [], .mv, [.t 4], none⟩,
                ⟨some 76, [], .slen, [.t 75], none⟩,
                ⟨some 77, [], .bin .gtr, [.t 76, .k (.v (.int .i64 4096))], none⟩,
                ⟨some 78, [], .mv, [.t 77], none⟩,
                ⟨some 79, [], .mv, [.t 4], (some (78, false))⟩,
                ⟨some 80, [], .call true, [.k (.v (.func (.func 66) #[] #[])), .t 79], (some (78, false))⟩,
                ⟨some 81, [], .un .not, [.t 80], (some (78, false))⟩,
                ⟨some 82, [], .pick, [.t 78, .k (.v (.bool true)), .t 81], none⟩,
                ⟨some 83, [], .mv, [.t 82], none⟩,
                ⟨some 84, [], .mv, [.t 3], (some (83, false))⟩,
                ⟨some 85, [], .bin .gtr, [.t 84, .k (.v (.int .i64 0))], (some (83, false))⟩,
                ⟨some 86, [], .mv, [.t 85], (some (83, false))⟩,
                ⟨some 87, [], .mv, [.t 4], (some (86, true))⟩,
                ⟨some 88, [], .fa 3, [.t 1], (some (86, true))⟩,
                ⟨some 89, [], .bld 1 1 false false, [.t 88], (some (86, true))⟩,
                ⟨some 90, [], .mv, [.t 3], (some (86, true))⟩,
                ⟨some 91, [], .bin .sub, [.t 90, .k (.v (.int .i64 1))], (some (86, true))⟩,
                ⟨some 92, [], .ia 1, [.t 89, .t 91], (some (86, true))⟩,
                ⟨some 93, [], .ldel 1 false, [.t 92], (some (86, true))⟩,
                ⟨some 94, [], .bin .leq, [.t 87, .t 93], (some (86, true))⟩,
                ⟨some 95, [], .pick, [.t 86, .t 94, .k (.v (.bool false))], (some (83, false))⟩,
                ⟨some 96, [], .pick, [.t 83, .k (.v (.bool true)), .t 95], none⟩])
              (.cond (.t 96)
                (.seq
                  (.reg false [⟨some 2, [], .mv, [.k (.v (.bool false))], none⟩])
                  .ret)
                .skip))))
        (.reg false [⟨some 97, [], .bin .add, [.t 70, .k (.v (.int .i64 1))], none⟩,
          ⟨some 70, [], .mv, [.t 97], none⟩]))))
/-- ndjq/vals.formed -/
def bd53 : C :=
    (.seq
      (.reg false [⟨some 1, [], .bbox 1, [.t 0], none⟩,
        ⟨some 2, [], .mv, [.k (.v (.bool false))], none⟩])
      (.seq
        (.seq
          (.reg false [⟨some 5, [], .fa 0, [.t 1], none⟩,
            ⟨some 6, [], .bld 1 1 false false, [.t 5], none⟩,
            ⟨some 7, [], .bin .neq, [.t 6, .k (.v (.int .i64 3))], none⟩,
            ⟨some 8, [], .mv, [.t 7], none⟩,
            ⟨some 9, [], .fa 1, [.t 1], (some (8, true))⟩,
            ⟨some 10, [], .bld 1 1 false false, [.t 9], (some (8, true))⟩,
            ⟨some 11, [], .bin .neq, [.t 10, .k (.v (.int .i64 0))], (some (8, true))⟩,
            ⟨some 12, [], .pick, [.t 8, .t 11, .k (.v (.bool false))], none⟩,
            ⟨some 13, [], .mv, [.t 12], none⟩,
            ⟨some 14, [], .fa 0, [.t 1], (some (13, false))⟩,
            ⟨some 15, [], .bld 1 1 false false, [.t 14], (some (13, false))⟩,
            ⟨some 16, [], .bin .neq, [.t 15, .k (.v (.int .i64 4))], (some (13, false))⟩,
            ⟨some 17, [], .mv, [.t 16], (some (13, false))⟩,
            ⟨some 18, [], .fa 2, [.t 1], (some (17, true))⟩,
            ⟨some 19, [], .bld 1 1 false false, [.t 18], (some (17, true))⟩,
            ⟨some 20, [], .bin .neq, [.t 19, .k (.v (.string ⟨#[]⟩))], (some (17, true))⟩,
            ⟨some 21, [], .pick, [.t 17, .t 20, .k (.v (.bool false))], (some (13, false))⟩,
            ⟨some 22, [], .pick, [.t 13, .k (.v (.bool true)), .t 21], none⟩,
            ⟨some 23, [], .mv, [.t 22], none⟩,
            ⟨some 24, [], .fa 0, [.t 1], (some (23, false))⟩,
            ⟨some 25, [], .bld 1 1 false false, [.t 24], (some (23, false))⟩,
            ⟨some 26, [], .bin .neq, [.t 25, .k (.v (.int .i64 6))], (some (23, false))⟩,
            ⟨some 27, [], .mv, [.t 26], (some (23, false))⟩,
            ⟨some 28, [], .fa 3, [.t 1], (some (27, true))⟩,
            ⟨some 29, [], .bld 1 1 false false, [.t 28], (some (27, true))⟩,
            ⟨some 30, [], .len, [.t 29], (some (27, true))⟩,
            ⟨some 31, [], .bin .gtr, [.t 30, .k (.v (.int .i64 0))], (some (27, true))⟩,
            ⟨some 32, [], .pick, [.t 27, .t 31, .k (.v (.bool false))], (some (23, false))⟩,
            ⟨some 33, [], .pick, [.t 23, .k (.v (.bool true)), .t 32], none⟩,
            ⟨some 34, [], .mv, [.t 33], none⟩,
            ⟨some 35, [], .fa 0, [.t 1], (some (34, false))⟩,
            ⟨some 36, [], .bld 1 1 false false, [.t 35], (some (34, false))⟩,
            ⟨some 37, [], .bin .lss, [.t 36, .k (.v (.int .i64 5))], (some (34, false))⟩,
            ⟨some 38, [], .mv, [.t 37], (some (34, false))⟩,
            ⟨some 39, [], .fa 4, [.t 1], (some (38, true))⟩,
            ⟨some 40, [], .bld 1 1 false false, [.t 39], (some (38, true))⟩,
            ⟨some 41, [], .len, [.t 40], (some (38, true))⟩,
            ⟨some 42, [], .bin .gtr, [.t 41, .k (.v (.int .i64 0))], (some (38, true))⟩,
            ⟨some 43, [], .pick, [.t 38, .t 42, .k (.v (.bool false))], (some (34, false))⟩,
            ⟨some 44, [], .pick, [.t 34, .k (.v (.bool true)), .t 43], none⟩,
            ⟨some 45, [], .mv, [.t 44], none⟩,
            ⟨some 46, [], .fa 2, [.t 1], (some (45, false))⟩,
            ⟨some 47, [], .bld 1 1 false false, [.t 46], (some (45, false))⟩,
            ⟨some 48, [], .call true, [.k (.v (.func (.func 66) #[] #[])), .t 47], (some (45, false))⟩,
            ⟨some 49, [], .un .not, [.t 48], (some (45, false))⟩,
            ⟨some 50, [], .pick, [.t 45, .k (.v (.bool true)), .t 49], none⟩])
          (.cond (.t 50)
            (.seq
              (.reg false [⟨some 2, [], .mv, [.k (.v (.bool false))], none⟩])
              .ret)
            .skip))
        (.seq
          (.seq
            (.reg false [⟨some 51, [], .fa 0, [.t 1], none⟩,
              ⟨some 52, [], .bld 1 1 false false, [.t 51], none⟩,
              ⟨some 53, [], .bin .neq, [.t 52, .k (.v (.int .i64 6))], none⟩])
            (.cond (.t 53)
              (.seq
                (.reg false [⟨some 2, [], .mv, [.k (.v (.bool true))], none⟩])
                .ret)
              .skip))
          (.seq
            (.seq
              (.reg false [⟨some 54, [], .fa 3, [.t 1], none⟩,
                ⟨some 55, [], .bld 1 1 false false, [.t 54], none⟩,
                ⟨some 56, [], .len, [.t 55], none⟩,
                ⟨some 57, [], .fa 4, [.t 1], none⟩,
                ⟨some 58, [], .bld 1 1 false false, [.t 57], none⟩,
                ⟨some 59, [], .len, [.t 58], none⟩,
                ⟨some 60, [], .bin .neq, [.t 56, .t 59], none⟩,
                ⟨some 61, [], .mv, [.t 60], none⟩,
                ⟨some 62, [], .fa 3, [.t 1], (some (61, false))⟩,
                ⟨some 63, [], .bld 1 1 false false, [.t 62], (some (61, false))⟩,
                ⟨some 64, [], .len, [.t 63], (some (61, false))⟩,
                ⟨some 65, [], .bin .gtr, [.t 64, .k (.v (.int .i64 1024))], (some (61, false))⟩,
                ⟨some 66, [], .pick, [.t 61, .k (.v (.bool true)), .t 65], none⟩])
              (.cond (.t 66)
                (.seq
                  (.reg false [⟨some 2, [], .mv, [.k (.v (.bool false))], none⟩])
                  .ret)
                .skip))
            (.seq
              (.seq
                (.reg false [⟨some 67, [], .fa 3, [.t 1], none⟩,
                  ⟨some 68, [], .bld 1 1 false false, [.t 67], none⟩,
                  ⟨some 69, [], .len, [.t 68], none⟩,
                  ⟨some 70, [], .mv, [.k (.v (.int .i64 0))], none⟩])
                (.block 0
                  (.loop fn53_l1)))
              (.seq
                (.reg false [⟨some 2, [], .mv, [.k (.v (.bool true))], none⟩])
                .ret))))))
def fn53 : Fn := ⟨1, bd53, [.slot 2]⟩

/-- ndjq/vals.Num -/
def bd54 : C :=
    (.seq
      (.reg false [⟨some 2, [], .bnew 2 [(.v (.int .i64 0)), (.v (.int .i64 0)), (.v (.string ⟨#[]⟩)), (.sl .full (some true) []), (.sl .full (some true) [])], [], none⟩])
      (.seq
        (.reg false [⟨some 3, [], .mv, [.t 0], none⟩,
          ⟨some 4, [], .build [(.v (.int .i64 0)), (.v (.int .i64 0)), (.v (.string ⟨#[]⟩)), (.sl .full (some true) []), (.sl .full (some true) [])] [(0, 1), (1, 1)], [.k (.v (.int .i64 3)), .t 3], none⟩,
          ⟨none, [], .bst 2 5 false, [.t 2, .t 4], none⟩])
        .ret))
def fn54 : Fn := ⟨1, bd54, [.cell 2 5 true]⟩

def fn55_l1 : C :=
  (.seq
    (.seq
      (.reg false [⟨some 57, [], .mv, [.t 11], none⟩,
        ⟨some 58, [], .mv, [.t 8], none⟩,
        ⟨some 59, [], .bin .lss, [.t 57, .t 58], none⟩])
      (.cond (.t 59)
        .skip
        (.exit 1)))
    (.seq
      (.block 2
        (.seq
          (.reg false [⟨some 63, [], .mv, [.t 0], none⟩,
            ⟨some 64, [], .mv, [.t 1], none⟩,
            ⟨some 65, [], .mv, [.t 11], none⟩,
            ⟨some 66, [], .bin .add, [.t 64, .t 65], none⟩,
            ⟨some 67, [], .call true, [.k (.v (.func (.func 67) #[] #[])), .t 63, .t 66], none⟩,
            ⟨some 62, [], .mv, [.t 67], none⟩,
            ⟨some 68, [], .ext 0, [.t 62], none⟩,
            ⟨some 69, [], .ext 1, [.t 62], none⟩,
            ⟨some 12, [], .mv, [.t 68], none⟩,
            ⟨some 13, [], .mv, [.t 69], none⟩])
          (.seq
            (.seq
              (.reg false [⟨some 70, [], .mv, [.t 13], none⟩,
                ⟨some 71, [], .un .not, [.t 70], none⟩])
              (.cond (.t 71)
                (.seq
                  (.reg false [⟨some 4, [], .mv, [.k (.v (.int .i64 0))], none⟩,
                    ⟨some 5, [], .mv, [.k (.v (.int .i64 0))], none⟩,
                    ⟨some 6, [], .mv, [.k (.v (.bool false))], none⟩])
                  .ret)
                .skip))
            (.reg false [⟨some 72, [], .mv, [.t 9], none⟩,
              ⟨some 73, [], .bin .shl, [.t 72, .k (.v (.int .u64 6))], none⟩,
              ⟨some 74, [], .mv, [.t 12], none⟩,
              ⟨some 75, [], .bin .or, [.t 73, .t 74], none⟩,
              ⟨some 9, [], .mv, [.t 75], none⟩]))))
      (.reg false [⟨some 60, [], .mv, [.t 11], none⟩,
        ⟨some 61, [], .bin .add, [.t 60, .k (.v (.int .i64 1))], none⟩,
        ⟨some 11, [], .mv, [.t 61], none⟩])))
/-- ndjq/utf.Decode -/
def bd55 : C :=
    (.seq
      (.reg false [⟨some 4, [], .mv, [.k (.v (.int .i64 0))], none⟩,
        ⟨some 5, [], .mv, [.k (.v (.int .i64 0))], none⟩,
        ⟨some 6, [], .mv, [.k (.v (.bool false))], none⟩])
      (.seq
        (.seq
          (.reg false [⟨some 14, [], .mv, [.t 1], none⟩,
            ⟨some 15, [], .bin .lss, [.t 14, .k (.v (.int .i64 0))], none⟩,
            ⟨some 16, [], .mv, [.t 15], none⟩,
            ⟨some 17, [], .mv, [.t 1], (some (16, false))⟩,
            ⟨some 18, [], .mv, [.t 0], (some (16, false))⟩,
            ⟨some 19, [], .slen, [.t 18], (some (16, false))⟩,
            ⟨some 20, [], .bin .geq, [.t 17, .t 19], (some (16, false))⟩,
            ⟨some 21, [], .pick, [.t 16, .k (.v (.bool true)), .t 20], none⟩])
          (.cond (.t 21)
            (.seq
              (.reg false [⟨some 4, [], .mv, [.k (.v (.int .i64 0))], none⟩,
                ⟨some 5, [], .mv, [.k (.v (.int .i64 0))], none⟩,
                ⟨some 6, [], .mv, [.k (.v (.bool false))], none⟩])
              .ret)
            .skip))
        (.seq
          (.reg false [⟨some 22, [], .mv, [.t 0], none⟩,
            ⟨some 23, [], .mv, [.t 1], none⟩,
            ⟨some 24, [], .ix, [.t 22, .t 23], none⟩,
            ⟨some 25, [], .cvi .i64, [.t 24], none⟩,
            ⟨some 7, [], .mv, [.t 25], none⟩])
          (.seq
            (.reg false [⟨some 8, [], .mv, [.k (.v (.int .i64 0))], none⟩,
              ⟨some 9, [], .mv, [.k (.v (.int .i64 0))], none⟩,
              ⟨some 10, [], .mv, [.k (.v (.int .i64 0))], none⟩])
            (.seq
              (.block 0
                (.seq
                  (.reg false [⟨some 27, [], .mv, [.t 7], none⟩,
                    ⟨some 28, [], .bin .lss, [.t 27, .k (.v (.int .i64 128))], none⟩,
                    ⟨some 26, [], .mv, [.t 28], none⟩])
                  (.cond (.t 26)
                    (.seq
                      (.reg false [⟨some 29, [], .mv, [.t 7], none⟩,
                        ⟨some 4, [], .mv, [.t 29], none⟩,
                        ⟨some 5, [], .mv, [.k (.v (.int .i64 1))], none⟩,
                        ⟨some 6, [], .mv, [.k (.v (.bool true))], none⟩])
                      .ret)
                    (.seq
                      (.reg false [⟨some 31, [], .mv, [.t 7], none⟩,
                        ⟨some 32, [], .bin .geq, [.t 31, .k (.v (.int .i64 192))], none⟩,
                        ⟨some 33, [], .mv, [.t 32], none⟩,
                        ⟨some 34, [], .mv, [.t 7], (some (33, true))⟩,
                        ⟨some 35, [], .bin .lss, [.t 34, .k (.v (.int .i64 224))], (some (33, true))⟩,
                        ⟨some 36, [], .pick, [.t 33, .t 35, .k (.v (.bool false))], none⟩,
                        ⟨some 30, [], .mv, [.t 36], none⟩])
                      (.cond (.t 30)
                        (.reg false [⟨some 37, [], .mv, [.t 7], none⟩,
                          ⟨some 38, [], .bin .and, [.t 37, .k (.v (.int .i64 31))], none⟩,
                          ⟨some 8, [], .mv, [.k (.v (.int .i64 2))], none⟩,
                          ⟨some 9, [], .mv, [.t 38], none⟩,
                          ⟨some 10, [], .mv, [.k (.v (.int .i64 128))], none⟩])
                        (.seq
                          (.reg false [⟨some 40, [], .mv, [.t 7], none⟩,
                            ⟨some 41, [], .bin .geq, [.t 40, .k (.v (.int .i64 224))], none⟩,
                            ⟨some 42, [], .mv, [.t 41], none⟩,
                            ⟨some 43, [], .mv, [.t 7], (some (42, true))⟩,
                            ⟨some 44, [], .bin .lss, [.t 43, .k (.v (.int .i64 240))], (some (42, true))⟩,
                            ⟨some 45, [], .pick, [.t 42, .t 44, .k (.v (.bool false))], none⟩,
                            ⟨some 39, [], .mv, [.t 45], none⟩])
                          (.cond (.t 39)
                            (.reg false [⟨some 46, [], .mv, [.t 7], none⟩,
                              ⟨some 47, [], .bin .and, [.t 46, .k (.v (.int .i64 15))], none⟩,
                              ⟨some 8, [], .mv, [.k (.v (.int .i64 3))], none⟩,
                              ⟨some 9, [], .mv, [.t 47], none⟩,
                              ⟨some 10, [], .mv, [.k (.v (.int .i64 2048))], none⟩])
                            (.seq
                              (.reg false [⟨some 49, [], .mv, [.t 7], none⟩,
                                ⟨some 50, [], .bin .geq, [.t 49, .k (.v (.int .i64 240))], none⟩,
                                ⟨some 51, [], .mv, [.t 50], none⟩,
                                ⟨some 52, [], .mv, [.t 7], (some (51, true))⟩,
                                ⟨some 53, [], .bin .lss, [.t 52, .k (.v (.int .i64 248))], (some (51, true))⟩,
                                ⟨some 54, [], .pick, [.t 51, .t 53, .k (.v (.bool false))], none⟩,
                                ⟨some 48, [], .mv, [.t 54], none⟩])
                              (.cond (.t 48)
                                (.reg false [⟨some 55, [], .mv, [.t 7], none⟩,
                                  ⟨some 56, [], .bin .and, [.t 55, .k (.v (.int .i64 7))], none⟩,
                                  ⟨some 8, [], .mv, [.k (.v (.int .i64 4))], none⟩,
                                  ⟨some 9, [], .mv, [.t 56], none⟩,
                                  ⟨some 10, [], .mv, [.k (.v (.int .i64 65536))], none⟩])
                                (.seq
                                  (.reg false [⟨some 4, [], .mv, [.k (.v (.int .i64 0))], none⟩,
                                    ⟨some 5, [], .mv, [.k (.v (.int .i64 0))], none⟩,
                                    ⟨some 6, [], .mv, [.k (.v (.bool false))], none⟩])
                                  .ret))))))))))
              (.seq
                (.seq
                  (.reg false [⟨some 11, [], .mv, [.k (.v (.int .i64 1))], none⟩])
                  (.block 1
                    (.loop fn55_l1)))
                (.seq
                  (.seq
                    (.reg false [⟨some 76, [], .mv, [.t 9], none⟩,
                      ⟨some 77, [], .mv, [.t 10], none⟩,
                      ⟨some 78, [], .bin .lss, [.t 76, .t 77], none⟩,
                      ⟨some 79, [], .mv, [.t 78], none⟩,
                      ⟨some 80, [], .mv, [.t 9], (some (79, false))⟩,
                      ⟨some 81, [], .call true, [.k (.v (.func (.func 68) #[] #[])), .t 80], (some (79, false))⟩,
                      ⟨some 82, [], .un .not, [.t 81], (some (79, false))⟩,
                      ⟨some 83, [], .pick, [.t 79, .k (.v (.bool true)), .t 82], none⟩])
                    (.cond (.t 83)
                      (.seq
                        (.reg false [⟨some 4, [], .mv, [.k (.v (.int .i64 0))], none⟩,
                          ⟨some 5, [], .mv, [.k (.v (.int .i64 0))], none⟩,
                          ⟨some 6, [], .mv, [.k (.v (.bool false))], none⟩])
                        .ret)
                      .skip))
                  (.seq
                    (.reg false [⟨some 84, [], .mv, [.t 9], none⟩,
                      ⟨some 85, [], .mv, [.t 8], none⟩,
                      ⟨some 4, [], .mv, [.t 84], none⟩,
                      ⟨some 5, [], .mv, [.t 85], none⟩,
                      ⟨some 6, [], .mv, [.k (.v (.bool true))], none⟩])
                    .ret))))))))
def fn55 : Fn := ⟨2, bd55, [.slot 4, .slot 5, .slot 6]⟩

/-- ndjq/vals.Arr -/
def bd57 : C :=
    (.seq
      (.reg false [⟨some 2, [], .bnew 2 [(.v (.int .i64 0)), (.v (.int .i64 0)), (.v (.string ⟨#[]⟩)), (.sl .full (some true) []), (.sl .full (some true) [])], [], none⟩])
      (.seq
        (.reg false [⟨some 3, [], .mv, [.t 0], none⟩,
          ⟨some 4, [], .build [(.v (.int .i64 0)), (.v (.int .i64 0)), (.v (.string ⟨#[]⟩)), (.sl .full (some true) []), (.sl .full (some true) [])] [(0, 1), (4, 1)], [.k (.v (.int .i64 5)), .t 3], none⟩,
          ⟨none, [], .bst 2 5 false, [.t 2, .t 4], none⟩])
        .ret))
def fn57 : Fn := ⟨1, bd57, [.cell 2 5 true]⟩

/-- ndjq/vals.Fit -/
def bd58 : C :=
    (.seq
      (.reg false [⟨some 1, [], .bbox 1, [.t 0], none⟩,
        ⟨some 2, [], .bnew 2 [(.v (.int .i64 0)), (.v (.int .i64 0)), (.v (.string ⟨#[]⟩)), (.sl .full (some true) []), (.sl .full (some true) [])], [], none⟩,
        ⟨some 3, [], .mv, [.k (.v (.int .i64 0))], none⟩])
      (.seq
        (.seq
          (.reg false [⟨some 4, [], .gnew [(.v (.int .i64 0)), (.v (.int .i64 0))], [], none⟩,
            ⟨some 5, [], .bld 1 5 true false, [.t 1], none⟩,
            ⟨some 6, [], .call false, [.k (.v (.func (.func 37) #[] #[])), .t 4, .t 5, .k (.v (.int .i64 0)), .k (.v (.bool false))], none⟩,
            ⟨some 7, [], .un .not, [.t 6], none⟩])
          (.cond (.t 7)
            (.seq
              (.reg false [⟨some 8, [], .build [(.v (.int .i64 0)), (.v (.int .i64 0)), (.v (.string ⟨#[]⟩)), (.sl .full (some true) []), (.sl .full (some true) [])] [], [], none⟩,
                ⟨none, [], .bst 2 5 false, [.t 2, .t 8], none⟩,
                ⟨some 3, [], .mv, [.k (.v (.int .i64 2))], none⟩])
              .ret)
            .skip))
        (.seq
          (.reg false [⟨some 9, [], .bld 1 5 true false, [.t 1], none⟩,
            ⟨none, [], .bst 2 5 false, [.t 2, .t 9], none⟩,
            ⟨some 3, [], .mv, [.k (.v (.int .i64 0))], none⟩])
          .ret)))
def fn58 : Fn := ⟨1, bd58, [.cell 2 5 true, .slot 3]⟩

/-- slices.Clone[[]string,string] -/
def bd59 : C :=
    (.seq
      (.reg false [⟨some 2, [], .mv, [.k (.sl .full (some true) [])], none⟩])
      (.seq
        (.seq
          (.reg false [⟨some 3, [], .mv, [.t 0], none⟩,
            ⟨some 4, [], .isnil false, [.t 3, .k (.sl .full (some true) [])], none⟩])
          (.cond (.t 4)
            (.seq
              (.reg false [⟨some 2, [], .mv, [.k (.sl .full (some true) [])], none⟩])
              .ret)
            .skip))
        (.seq
          (.reg false [⟨some 5, [], .bsl 1, [], none⟩,
            ⟨some 6, [], .mv, [.t 0], none⟩,
            ⟨some 7, [5], .app 1 16, [.t 5, .t 6], none⟩,
            ⟨some 2, [7], .mvx, [.t 7], none⟩])
          .ret)))
def fn59 : Fn := ⟨1, bd59, [.slot 2]⟩

/-- (ndjq/ops.pair).strings -/
def bd60 : C :=
    (.seq
      (.reg false [⟨some 1, [], .bbox 1, [.t 0], none⟩,
        ⟨some 2, [], .mv, [.k (.v (.bool false))], none⟩])
      (.seq
        (.reg false [⟨some 3, [], .fa 0, [.t 1], none⟩,
          ⟨some 4, [], .fa 0, [.t 3], none⟩,
          ⟨some 5, [], .bld 1 1 false false, [.t 4], none⟩,
          ⟨some 6, [], .bin .eql, [.t 5, .k (.v (.int .i64 4))], none⟩,
          ⟨some 7, [], .mv, [.t 6], none⟩,
          ⟨some 8, [], .fa 5, [.t 1], (some (7, true))⟩,
          ⟨some 9, [], .fa 0, [.t 8], (some (7, true))⟩,
          ⟨some 10, [], .bld 1 1 false false, [.t 9], (some (7, true))⟩,
          ⟨some 11, [], .bin .eql, [.t 10, .k (.v (.int .i64 4))], (some (7, true))⟩,
          ⟨some 12, [], .pick, [.t 7, .t 11, .k (.v (.bool false))], none⟩,
          ⟨some 2, [], .mv, [.t 12], none⟩])
        .ret))
def fn60 : Fn := ⟨1, bd60, [.slot 2]⟩

/-- ndjq/vals.Bool -/
def bd61 : C :=
    (.seq
      (.reg false [⟨some 2, [], .bnew 2 [(.v (.int .i64 0)), (.v (.int .i64 0)), (.v (.string ⟨#[]⟩)), (.sl .full (some true) []), (.sl .full (some true) [])], [], none⟩])
      (.seq
        (.seq
          (.reg false [⟨some 3, [], .mv, [.t 0], none⟩])
          (.cond (.t 3)
            (.seq
              (.reg false [⟨some 4, [], .build [(.v (.int .i64 0)), (.v (.int .i64 0)), (.v (.string ⟨#[]⟩)), (.sl .full (some true) []), (.sl .full (some true) [])] [(0, 1)], [.k (.v (.int .i64 2))], none⟩,
                ⟨none, [], .bst 2 5 false, [.t 2, .t 4], none⟩])
              .ret)
            .skip))
        (.seq
          (.reg false [⟨some 5, [], .build [(.v (.int .i64 0)), (.v (.int .i64 0)), (.v (.string ⟨#[]⟩)), (.sl .full (some true) []), (.sl .full (some true) [])] [(0, 1)], [.k (.v (.int .i64 1))], none⟩,
            ⟨none, [], .bst 2 5 false, [.t 2, .t 5], none⟩])
          .ret)))
def fn61 : Fn := ⟨1, bd61, [.cell 2 5 true]⟩

/-- internal/stringslite.HasPrefix -/
def bd62 : C :=
    (.seq
      (.reg false [⟨some 4, [], .mv, [.k (.v (.bool false))], none⟩])
      (.seq
        (.reg false [⟨some 5, [], .mv, [.t 0], none⟩,
          ⟨some 6, [], .slen, [.t 5], none⟩,
          ⟨some 7, [], .mv, [.t 1], none⟩,
          ⟨some 8, [], .slen, [.t 7], none⟩,
          ⟨some 9, [], .bin .geq, [.t 6, .t 8], none⟩,
          ⟨some 10, [], .mv, [.t 9], none⟩,
          ⟨some 11, [], .mv, [.t 0], (some (10, true))⟩,
          ⟨some 12, [], .mv, [.t 1], (some (10, true))⟩,
          ⟨some 13, [], .slen, [.t 12], (some (10, true))⟩,
          ⟨some 14, [], .sslice false true, [.t 11, .t 13], (some (10, true))⟩,
          ⟨some 15, [], .mv, [.t 1], (some (10, true))⟩,
          ⟨some 16, [], .bin .eql, [.t 14, .t 15], (some (10, true))⟩,
          ⟨some 17, [], .pick, [.t 10, .t 16, .k (.v (.bool false))], none⟩,
          ⟨some 4, [], .mv, [.t 17], none⟩])
        .ret))
def fn62 : Fn := ⟨2, bd62, [.slot 4]⟩

/-- internal/stringslite.HasSuffix -/
def bd63 : C :=
    (.seq
      (.reg false [⟨some 4, [], .mv, [.k (.v (.bool false))], none⟩])
      (.seq
        (.reg false [⟨some 5, [], .mv, [.t 0], none⟩,
          ⟨some 6, [], .slen, [.t 5], none⟩,
          ⟨some 7, [], .mv, [.t 1], none⟩,
          ⟨some 8, [], .slen, [.t 7], none⟩,
          ⟨some 9, [], .bin .geq, [.t 6, .t 8], none⟩,
          ⟨some 10, [], .mv, [.t 9], none⟩,
          ⟨some 11, [], .mv, [.t 0], (some (10, true))⟩,
          ⟨some 12, [], .mv, [.t 0], (some (10, true))⟩,
          ⟨some 13, [], .slen, [.t 12], (some (10, true))⟩,
          ⟨some 14, [], .mv, [.t 1], (some (10, true))⟩,
          ⟨some 15, [], .slen, [.t 14], (some (10, true))⟩,
          ⟨some 16, [], .bin .sub, [.t 13, .t 15], (some (10, true))⟩,
          ⟨some 17, [], .sslice true false, [.t 11, .t 16], (some (10, true))⟩,
          ⟨some 18, [], .mv, [.t 1], (some (10, true))⟩,
          ⟨some 19, [], .bin .eql, [.t 17, .t 18], (some (10, true))⟩,
          ⟨some 20, [], .pick, [.t 10, .t 19, .k (.v (.bool false))], none⟩,
          ⟨some 4, [], .mv, [.t 20], none⟩])
        .ret))
def fn63 : Fn := ⟨2, bd63, [.slot 4]⟩

/-- internal/stringslite.TrimPrefix -/
def bd64 : C :=
    (.seq
      (.reg false [⟨some 4, [], .mv, [.k (.v (.string ⟨#[]⟩))], none⟩])
      (.seq
        (.seq
          (.reg false [⟨some 5, [], .mv, [.t 0], none⟩,
            ⟨some 6, [], .mv, [.t 1], none⟩,
            ⟨some 7, [], .call true, [.k (.v (.func (.func 62) #[] #[])), .t 5, .t 6], none⟩])
          (.cond (.t 7)
            (.seq
              (.reg false [⟨some 8, [], .mv, [.t 0], none⟩,
                ⟨some 9, [], .mv, [.t 1], none⟩,
                ⟨some 10, [], .slen, [.t 9], none⟩,
                ⟨some 11, [], .sslice true false, [.t 8, .t 10], none⟩,
                ⟨some 4, [], .mv, [.t 11], none⟩])
              .ret)
            .skip))
        (.seq
          (.reg false [⟨some 12, [], .mv, [.t 0], none⟩,
            ⟨some 4, [], .mv, [.t 12], none⟩])
          .ret)))
def fn64 : Fn := ⟨2, bd64, [.slot 4]⟩

/-- internal/stringslite.TrimSuffix -/
def bd65 : C :=
    (.seq
      (.reg false [⟨some 4, [], .mv, [.k (.v (.string ⟨#[]⟩))], none⟩])
      (.seq
        (.seq
          (.reg false [⟨some 5, [], .mv, [.t 0], none⟩,
            ⟨some 6, [], .mv, [.t 1], none⟩,
            ⟨some 7, [], .call true, [.k (.v (.func (.func 63) #[] #[])), .t 5, .t 6], none⟩])
          (.cond (.t 7)
            (.seq
              (.reg false [⟨some 8, [], .mv, [.t 0], none⟩,
                ⟨some 9, [], .mv, [.t 0], none⟩,
                ⟨some 10, [], .slen, [.t 9], none⟩,
                ⟨some 11, [], .mv, [.t 1], none⟩,
                ⟨some 12, [], .slen, [.t 11], none⟩,
                ⟨some 13, [], .bin .sub, [.t 10, .t 12], none⟩,
                ⟨some 14, [], .sslice false true, [.t 8, .t 13], none⟩,
                ⟨some 4, [], .mv, [.t 14], none⟩])
              .ret)
            .skip))
        (.seq
          (.reg false [⟨some 15, [], .mv, [.t 0], none⟩,
            ⟨some 4, [], .mv, [.t 15], none⟩])
          .ret)))
def fn65 : Fn := ⟨2, bd65, [.slot 4]⟩

/-- ndjq/utf.Valid -/
def bd66 : C :=
    (.seq
      (.reg false [⟨some 2, [], .mv, [.k (.v (.bool false))], none⟩])
      (.seq
        (.reg false [⟨some 6, [], .mv, [.t 0], none⟩,
          ⟨some 7, [], .call true, [.k (.v (.func (.func 70) #[] #[])), .t 6], none⟩,
          ⟨some 5, [], .mv, [.t 7], none⟩,
          ⟨some 8, [], .ext 0, [.t 5], none⟩,
          ⟨some 9, [], .ext 1, [.t 5], none⟩,
          ⟨some 3, [], .mv, [.t 8], none⟩,
          ⟨some 4, [], .mv, [.t 9], none⟩])
        (.seq
          (.reg false [⟨some 10, [], .mv, [.t 4], none⟩,
            ⟨some 2, [], .mv, [.t 10], none⟩])
          .ret)))
def fn66 : Fn := ⟨1, bd66, [.slot 2]⟩

/-- ndjq/utf.next -/
def bd67 : C :=
    (.seq
      (.reg false [⟨some 4, [], .mv, [.k (.v (.int .i64 0))], none⟩,
        ⟨some 5, [], .mv, [.k (.v (.bool false))], none⟩])
      (.seq
        (.seq
          (.reg false [⟨some 6, [], .mv, [.t 1], none⟩,
            ⟨some 7, [], .mv, [.t 0], none⟩,
            ⟨some 8, [], .slen, [.t 7], none⟩,
            ⟨some 9, [], .bin .geq, [.t 6, .t 8], none⟩,
            ⟨some 10, [], .mv, [.t 9], none⟩,
            ⟨some 11, [], .mv, [.t 0], (some (10, false))⟩,
            ⟨some 12, [], .mv, [.t 1], (some (10, false))⟩,
            ⟨some 13, [], .ix, [.t 11, .t 12], (some (10, false))⟩,
            ⟨some 14, [], .bin .and, [.t 13, .k (.v (.int .u8 192))], (some (10, false))⟩,
            ⟨some 15, [], .bin .neq, [.t 14, .k (.v (.int .u8 128))], (some (10, false))⟩,
            ⟨some 16, [], .pick, [.t 10, .k (.v (.bool true)), .t 15], none⟩])
          (.cond (.t 16)
            (.seq
              (.reg false [⟨some 4, [], .mv, [.k (.v (.int .i64 0))], none⟩,
                ⟨some 5, [], .mv, [.k (.v (.bool false))], none⟩])
              .ret)
            .skip))
        (.seq
          (.reg false [⟨some 17, [], .mv, [.t 0], none⟩,
            ⟨some 18, [], .mv, [.t 1], none⟩,
            ⟨some 19, [], .ix, [.t 17, .t 18], none⟩,
            ⟨some 20, [], .bin .and, [.t 19, .k (.v (.int .u8 63))], none⟩,
            ⟨some 21, [], .cvi .i64, [.t 20], none⟩,
            ⟨some 4, [], .mv, [.t 21], none⟩,
            ⟨some 5, [], .mv, [.k (.v (.bool true))], none⟩])
          .ret)))
def fn67 : Fn := ⟨2, bd67, [.slot 4, .slot 5]⟩

/-- ndjq/utf.point -/
def bd68 : C :=
    (.seq
      (.reg false [⟨some 2, [], .mv, [.k (.v (.bool false))], none⟩])
      (.seq
        (.reg false [⟨some 3, [], .mv, [.t 0], none⟩,
          ⟨some 4, [], .bin .geq, [.t 3, .k (.v (.int .i64 0))], none⟩,
          ⟨some 5, [], .mv, [.t 4], none⟩,
          ⟨some 6, [], .mv, [.t 0], (some (5, true))⟩,
          ⟨some 7, [], .bin .leq, [.t 6, .k (.v (.int .i64 1114111))], (some (5, true))⟩,
          ⟨some 8, [], .pick, [.t 5, .t 7, .k (.v (.bool false))], none⟩,
          ⟨some 9, [], .mv, [.t 8], none⟩,
          ⟨some 10, [], .mv, [.t 0], (some (9, true))⟩,
          ⟨some 11, [], .bin .lss, [.t 10, .k (.v (.int .i64 55296))], (some (9, true))⟩,
          ⟨some 12, [], .mv, [.t 11], (some (9, true))⟩,
          ⟨some 13, [], .mv, [.t 0], (some (12, false))⟩,
          ⟨some 14, [], .bin .gtr, [.t 13, .k (.v (.int .i64 57343))], (some (12, false))⟩,
          ⟨some 15, [], .pick, [.t 12, .k (.v (.bool true)), .t 14], (some (9, true))⟩,
          ⟨some 16, [], .pick, [.t 9, .t 15, .k (.v (.bool false))], none⟩,
          ⟨some 2, [], .mv, [.t 16], none⟩])
        .ret))
def fn68 : Fn := ⟨1, bd68, [.slot 2]⟩

def fn70_l1 : C :=
  (.seq
    (.seq
      (.reg false [⟨some 9, [], .mv, [.t 5], none⟩,
        ⟨some 10, [], .mv, [.t 0], none⟩,
        ⟨some 11, [], .slen, [.t 10], none⟩,
        ⟨some 12, [], .bin .lss, [.t 9, .t 11], none⟩])
      (.cond (.t 12)
        .skip
        (.exit 0)))
    (.seq
      (.block 1
        (.seq
          (.reg false [⟨some 16, [], .mv, [.t 0], none⟩,
            ⟨some 17, [], .mv, [.t 5], none⟩,
            ⟨some 18, [], .call true, [.k (.v (.func (.func 55) #[] #[])), .t 16, .t 17], none⟩,
            ⟨some 15, [], .mv, [.t 18], none⟩,
            ⟨some 19, [], .ext 0, [.t 15], none⟩,
            ⟨some 20, [], .ext 1, [.t 15], none⟩,
            ⟨some 21, [], .ext 2, [.t 15], none⟩,
            ⟨some 6, [], .mv, [.t 19], none⟩,
            ⟨some 7, [], .mv, [.t 20], none⟩,
            ⟨some 8, [], .mv, [.t 21], none⟩])
          (.seq
            (.seq
              (.reg false [⟨some 22, [], .mv, [.t 8], none⟩,
                ⟨some 23, [], .un .not, [.t 22], none⟩])
              (.cond (.t 23)
                (.seq
                  (.reg false [⟨some 2, [], .mv, [.k (.v (.int .i64 0))], none⟩,
                    ⟨some 3, [], .mv, [.k (.v (.bool false))], none⟩])
                  .ret)
                .skip))
            (.reg false [⟨some 24, [], .mv, [.t 5], none⟩,
              ⟨some 25, [], .mv, [.t 7], none⟩,
              ⟨some 26, [], .bin .add, [.t 24, .t 25], none⟩,
              ⟨some 5, [], .mv, [.t 26], none⟩]))))
      (.reg false [⟨some 13, [], .mv, [.t 4], none⟩,
        ⟨some 14, [], .bin .add, [.t 13, .k (.v (.int .i64 1))], none⟩,
        ⟨some 4, [], .mv, [.t 14], none⟩])))
/-- ndjq/utf.Count -/
def bd70 : C :=
    (.seq
      (.reg false [⟨some 2, [], .mv, [.k (.v (.int .i64 0))], none⟩,
        ⟨some 3, [], .mv, [.k (.v (.bool false))], none⟩])
      (.seq
        (.reg false [⟨some 4, [], .mv, [.k (.v (.int .i64 0))], none⟩])
        (.seq
          (.seq
            (.reg false [⟨some 5, [], .mv, [.k (.v (.int .i64 0))], none⟩])
            (.block 0
              (.loop fn70_l1)))
          (.seq
            (.reg false [⟨some 27, [], .mv, [.t 4], none⟩,
              ⟨some 2, [], .mv, [.t 27], none⟩,
              ⟨some 3, [], .mv, [.k (.v (.bool true))], none⟩])
            .ret))))
def fn70 : Fn := ⟨1, bd70, [.slot 2, .slot 3]⟩

end Go.Pv.Try
