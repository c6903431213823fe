/- The typed form of each function, by program (printir.py), checked by the kernel. -/
import Derived.Test.YtgebiedochlhmaaDenL
import Derived.Test.YtgebiedochlhmaaProg
import Derived.KernelRfl
set_option maxRecDepth 100000
namespace Go.Proofs.Ytgebiedochlhmaa

/- pumice/pumicelaw08.BackEither -/
def ir3 : FIR := ⟨113,
 (.seq
  (.ops [⟨(some 8), none, (.p .mv), [.const (.bool false)]⟩])
  (.seq
   (.ops [⟨(some 22), none, (.call 8), []⟩,
     ⟨(some 9), none, (.p .mv), [.tmp 22]⟩])
   (.seq
    (.ops [⟨(some 24), none, (.call 9), [.const (.int .i64 10)]⟩,
      ⟨(some 23), none, (.p .mv), [.tmp 24]⟩,
      ⟨(some 25), none, (.p (.ext 0)), [.tmp 23]⟩,
      ⟨(some 26), none, (.p (.ext 1)), [.tmp 23]⟩,
      ⟨(some 10), none, (.p .mv), [.tmp 25]⟩,
      ⟨(some 11), none, (.p .mv), [.tmp 26]⟩])
    (.seq
     (.seq
      (.ops [⟨(some 27), none, (.p .mv), [.tmp 10]⟩,
        ⟨(some 28), none, (.p (.isnil false)), [.tmp 27, .const (.pointer none)]⟩,
        ⟨(some 29), none, (.p .mv), [.tmp 28]⟩,
        ⟨(some 30), (some (29, false)), (.p .mv), [.tmp 11]⟩,
        ⟨(some 31), (some (29, false)), (.p (.cmp .neq)), [.tmp 30, .const (.int .i64 0)]⟩,
        ⟨(some 32), none, (.p .pick), [.tmp 29, .const (.bool true), .tmp 31]⟩])
      (.cond (.tmp 32)
       (.seq
        (.ops [⟨(some 8), none, (.p .mv), [.const (.bool false)]⟩])
        .ret)
       .skip))
     (.seq
      (.seq
       (.ops [⟨(some 33), none, (.p .mv), [.tmp 0]⟩,
         ⟨(some 34), none, (.call 10), [.tmp 33]⟩,
         ⟨(some 35), none, (.p .lenS), [.tmp 34]⟩,
         ⟨(some 36), none, (.p .mv), [.const (.int .i64 0)]⟩])
       (.block 0
        (.loop
         (.seq
          (.ops [⟨(some 37), none, (.p (.cmp .lss)), [.tmp 36, .tmp 35]⟩])
          (.seq
           (.cond (.tmp 37)
            .skip
            (.exit 0))
           (.seq
            (.block 1
             (.seq
              (.ops [⟨(some 38), none, (.p (.iaddrS 6)), [.tmp 34, .tmp 36]⟩,
                ⟨(some 39), none, (.loadN 6), [.tmp 38]⟩,
                ⟨(some 13), none, (.alloc 31 #[(.int .u8 0), (.int .i64 0), (.int .i64 0), (.int .u8 0), (.bool false), (.int .u64 0)]), []⟩,
                ⟨none, none, (.storeN 6), [.tmp 13, .tmp 39]⟩])
              (.ops [⟨(some 40), none, (.p .mv), [.tmp 10]⟩,
                ⟨(some 41), none, (.loadN 6), [.tmp 13]⟩,
                ⟨(some 42), none, (.call 11), [.tmp 40, .tmp 41]⟩])))
            (.ops [⟨(some 43), none, (.p (.bin .add)), [.tmp 36, .const (.int .i64 1)]⟩,
              ⟨(some 36), none, (.p .mv), [.tmp 43]⟩])))))))
      (.seq
       (.ops [⟨(some 44), none, (.p .mv), [.tmp 10]⟩,
         ⟨(some 45), none, (.call 12), [.tmp 44, .const (.int .u64 0)]⟩])
       (.seq
        (.ops [⟨(some 46), none, (.p .mv), [.tmp 1]⟩,
          ⟨(some 47), none, (.p (.bin .rem)), [.tmp 46, .const (.int .u8 10)]⟩,
          ⟨(some 48), none, (.p (.conv .i64)), [.tmp 47]⟩,
          ⟨(some 14), none, (.p .mv), [.tmp 48]⟩])
        (.seq
         (.ops [⟨(some 15), none, (.alloc 34 (Array.replicate 10 (.string ⟨#[]⟩))), []⟩])
         (.seq
          (.seq
           (.ops [⟨(some 49), none, (.p .mv), [.const (.int .i64 0)]⟩])
           (.block 2
            (.loop
             (.seq
              (.ops [⟨(some 50), none, (.p (.cmp .lss)), [.tmp 49, .const (.int .i64 10)]⟩])
              (.seq
               (.cond (.tmp 50)
                .skip
                (.exit 2))
               (.seq
                (.block 3
                 (.seq
                  (.ops [⟨(some 51), none, (.p .mv), [.tmp 49]⟩,
                    ⟨(some 16), none, (.p .mv), [.tmp 51]⟩])
                  (.seq
                   (.ops [⟨(some 53), none, (.p .mv), [.tmp 10]⟩,
                     ⟨(some 54), none, (.p .mv), [.tmp 16]⟩,
                     ⟨(some 55), none, (.call 13), [.tmp 53, .tmp 54]⟩,
                     ⟨(some 52), none, (.p .mv), [.tmp 55]⟩,
                     ⟨(some 56), none, (.p (.ext 0)), [.tmp 52]⟩,
                     ⟨(some 57), none, (.p (.ext 1)), [.tmp 52]⟩,
                     ⟨(some 17), none, (.p .mv), [.tmp 56]⟩,
                     ⟨(some 18), none, (.p .mv), [.tmp 57]⟩])
                   (.seq
                    (.seq
                     (.ops [⟨(some 58), none, (.p .mv), [.tmp 18]⟩,
                       ⟨(some 59), none, (.p (.cmp .neq)), [.tmp 58, .const (.int .i64 0)]⟩])
                     (.cond (.tmp 59)
                      (.seq
                       (.ops [⟨(some 8), none, (.p .mv), [.const (.bool false)]⟩])
                       .ret)
                      .skip))
                    (.ops [⟨(some 60), none, (.p .mv), [.tmp 16]⟩,
                      ⟨(some 61), none, (.p .mv), [.tmp 17]⟩,
                      ⟨(some 62), none, .b2s, [.tmp 61]⟩,
                      ⟨(some 63), none, (.p (.iaddrA 10 1)), [.tmp 15, .tmp 60]⟩,
                      ⟨none, none, .store1, [.tmp 63, .tmp 62]⟩])))))
                (.ops [⟨(some 64), none, (.p (.bin .add)), [.tmp 49, .const (.int .i64 1)]⟩,
                  ⟨(some 49), none, (.p .mv), [.tmp 64]⟩])))))))
          (.seq
           (.seq
            (.ops [⟨(some 65), none, (.p .mv), [.tmp 10]⟩,
              ⟨(some 66), none, (.p .mv), [.tmp 14]⟩,
              ⟨(some 67), none, (.p .mv), [.tmp 2]⟩,
              ⟨(some 68), none, (.call 15), [.tmp 67]⟩,
              ⟨(some 69), none, (.call 14), [.tmp 65, .tmp 66, .tmp 68]⟩,
              ⟨(some 70), none, (.p (.cmp .neq)), [.tmp 69, .const (.int .i64 0)]⟩])
            (.cond (.tmp 70)
             (.seq
              (.ops [⟨(some 8), none, (.p .mv), [.const (.bool false)]⟩])
              .ret)
             .skip))
           (.seq
            (.ops [⟨(some 71), none, (.p .mv), [.tmp 10]⟩,
              ⟨(some 72), none, (.p .mv), [.tmp 3]⟩,
              ⟨(some 73), none, (.call 12), [.tmp 71, .tmp 72]⟩])
            (.seq
             (.seq
              (.ops [⟨(some 74), none, (.p .mv), [.const (.int .i64 0)]⟩])
              (.block 4
               (.loop
                (.seq
                 (.ops [⟨(some 75), none, (.p (.cmp .lss)), [.tmp 74, .const (.int .i64 10)]⟩])
                 (.seq
                  (.cond (.tmp 75)
                   .skip
                   (.exit 4))
                  (.seq
                   (.block 5
                    (.seq
                     (.ops [⟨(some 76), none, (.p .mv), [.tmp 74]⟩,
                       ⟨(some 19), none, (.p .mv), [.tmp 76]⟩])
                     (.seq
                      (.ops [⟨(some 78), none, (.p .mv), [.tmp 10]⟩,
                        ⟨(some 79), none, (.p .mv), [.tmp 19]⟩,
                        ⟨(some 80), none, (.call 13), [.tmp 78, .tmp 79]⟩,
                        ⟨(some 77), none, (.p .mv), [.tmp 80]⟩,
                        ⟨(some 81), none, (.p (.ext 0)), [.tmp 77]⟩,
                        ⟨(some 82), none, (.p (.ext 1)), [.tmp 77]⟩,
                        ⟨(some 20), none, (.p .mv), [.tmp 81]⟩,
                        ⟨(some 21), none, (.p .mv), [.tmp 82]⟩])
                      (.seq
                       (.draw [⟨(some 83), none, (.p .mv), [.tmp 21]⟩,
                         ⟨(some 84), none, (.p (.cmp .neq)), [.tmp 83, .const (.int .i64 0)]⟩,
                         ⟨(some 85), none, (.p .mv), [.tmp 84]⟩,
                         ⟨(some 86), (some (85, false)), (.p .mv), [.tmp 20]⟩,
                         ⟨(some 87), (some (85, false)), .b2s, [.tmp 86]⟩,
                         ⟨(some 88), (some (85, false)), (.p .mv), [.tmp 19]⟩,
                         ⟨(some 89), (some (85, false)), (.p (.iaddrA 10 1)), [.tmp 15, .tmp 88]⟩,
                         ⟨(some 90), (some (85, false)), .load1, [.tmp 89]⟩,
                         ⟨(some 91), (some (85, false)), (.p (.seq true)), [.tmp 87, .tmp 90]⟩,
                         ⟨(some 92), (some (85, false)), (.p .mv), [.tmp 91]⟩,
                         ⟨(some 93), (some (92, true)), (.p .mv), [.tmp 19]⟩,
                         ⟨(some 94), (some (92, true)), (.p .mv), [.tmp 14]⟩,
                         ⟨(some 95), (some (92, true)), (.p (.cmp .neq)), [.tmp 93, .tmp 94]⟩,
                         ⟨(some 96), (some (92, true)), (.p .mv), [.tmp 95]⟩,
                         ⟨(some 97), (some (96, false)), (.p .mv), [.tmp 20]⟩,
                         ⟨(some 98), (some (96, false)), .b2s, [.tmp 97]⟩,
                         ⟨(some 99), (some (96, false)), (.p .mv), [.tmp 2]⟩,
                         ⟨(some 100), (some (96, false)), (.call 15), [.tmp 99]⟩,
                         ⟨(some 101), (some (96, false)), .b2s, [.tmp 100]⟩,
                         ⟨(some 102), (some (96, false)), (.p (.seq true)), [.tmp 98, .tmp 101]⟩,
                         ⟨(some 103), (some (92, true)), (.p .pick), [.tmp 96, .const (.bool true), .tmp 102]⟩,
                         ⟨(some 104), (some (92, true)), (.p .mv), [.tmp 103]⟩,
                         ⟨(some 105), (some (104, false)), (.p .mv), [.tmp 3]⟩,
                         ⟨(some 106), (some (104, false)), (.p (.bin .rem)), [.tmp 105, .const (.int .u64 2)]⟩,
                         ⟨(some 107), (some (104, false)), (.p (.cmp .eql)), [.tmp 106, .const (.int .u64 0)]⟩,
                         ⟨(some 108), (some (92, true)), (.p .pick), [.tmp 104, .const (.bool true), .tmp 107]⟩,
                         ⟨(some 109), (some (85, false)), (.p .pick), [.tmp 92, .tmp 108, .const (.bool false)]⟩,
                         ⟨(some 110), none, (.p .pick), [.tmp 85, .const (.bool true), .tmp 109]⟩] (.pu 0 (.pu 1 (.pu 2 (.pu 3 (.pu 5 (.pu 6 (.fl 7 (.act true 4 [2, 3] (.pu 8 (.pu 9 (.pu 10 (.pu 11 (.pu 12 (.pu 13 (.pu 14 (.pu 16 (.act true 15 [13, 14] (.act true 17 [13, 16] (.act true 18 [13, 17] (.pu 19 (.pu 20 (.pu 21 (.pu 22 (.pu 23 (.pu 24 (.pu 25 (.pu 26 (.pu 27 .done))))))))) .stop) .stop) (.act false 17 [13, 16] (.act true 15 [13, 14] (.act true 18 [13, 17] (.pu 19 (.pu 20 (.pu 21 (.pu 22 (.pu 23 (.pu 24 (.pu 25 (.pu 26 (.pu 27 .done))))))))) .stop) (.act false 18 [13, 17] (.act true 15 [13, 14] (.pu 19 (.pu 20 (.pu 21 (.pu 22 (.pu 23 (.pu 24 (.pu 25 (.pu 26 (.pu 27 .done))))))))) .stop) .stop)) .stop)))))))))) .stop)))))))))
                       (.cond (.tmp 110)
                        (.seq
                         (.ops [⟨(some 8), none, (.p .mv), [.const (.bool false)]⟩])
                         .ret)
                        .skip)))))
                   (.ops [⟨(some 111), none, (.p (.bin .add)), [.tmp 74, .const (.int .i64 1)]⟩,
                     ⟨(some 74), none, (.p .mv), [.tmp 111]⟩])))))))
             (.seq
              (.ops [⟨(some 112), none, (.p .mv), [.tmp 9]⟩,
                ⟨(some 8), none, (.p .mv), [.tmp 112]⟩])
              .ret))))))))))))),
 [.t 8]⟩
theorem ir3_ok : cFn Try.prog Try.f3 = some ir3 := by kernel_rfl

/- pumice/pumicelaw08.BackLast -/
def ir4 : FIR := ⟨97,
 (.seq
  (.ops [⟨(some 2), none, (.p .mv), [.const (.bool false)]⟩])
  (.seq
   (.ops [⟨(some 14), none, (.call 8), []⟩,
     ⟨(some 3), none, (.p .mv), [.tmp 14]⟩])
   (.seq
    (.ops [⟨(some 16), none, (.call 9), [.const (.int .i64 10)]⟩,
      ⟨(some 15), none, (.p .mv), [.tmp 16]⟩,
      ⟨(some 17), none, (.p (.ext 0)), [.tmp 15]⟩,
      ⟨(some 18), none, (.p (.ext 1)), [.tmp 15]⟩,
      ⟨(some 4), none, (.p .mv), [.tmp 17]⟩,
      ⟨(some 5), none, (.p .mv), [.tmp 18]⟩])
    (.seq
     (.seq
      (.ops [⟨(some 19), none, (.p .mv), [.tmp 4]⟩,
        ⟨(some 20), none, (.p (.isnil false)), [.tmp 19, .const (.pointer none)]⟩,
        ⟨(some 21), none, (.p .mv), [.tmp 20]⟩,
        ⟨(some 22), (some (21, false)), (.p .mv), [.tmp 5]⟩,
        ⟨(some 23), (some (21, false)), (.p (.cmp .neq)), [.tmp 22, .const (.int .i64 0)]⟩,
        ⟨(some 24), none, (.p .pick), [.tmp 21, .const (.bool true), .tmp 23]⟩])
      (.cond (.tmp 24)
       (.seq
        (.ops [⟨(some 2), none, (.p .mv), [.const (.bool false)]⟩])
        .ret)
       .skip))
     (.seq
      (.ops [⟨(some 6), none, (.alloc 34 (Array.replicate 10 (.string ⟨#[]⟩))), []⟩])
      (.seq
       (.seq
        (.ops [⟨(some 25), none, (.p .mv), [.const (.int .i64 0)]⟩])
        (.block 0
         (.loop
          (.seq
           (.ops [⟨(some 26), none, (.p (.cmp .lss)), [.tmp 25, .const (.int .i64 10)]⟩])
           (.seq
            (.cond (.tmp 26)
             .skip
             (.exit 0))
            (.seq
             (.block 1
              (.seq
               (.ops [⟨(some 27), none, (.p .mv), [.tmp 25]⟩,
                 ⟨(some 7), none, (.p .mv), [.tmp 27]⟩])
               (.ops [⟨(some 28), none, (.p .mv), [.tmp 7]⟩,
                 ⟨(some 29), none, (.call 15), [.const (.int .u8 0)]⟩,
                 ⟨(some 30), none, .b2s, [.tmp 29]⟩,
                 ⟨(some 31), none, (.p (.iaddrA 10 1)), [.tmp 6, .tmp 28]⟩,
                 ⟨none, none, .store1, [.tmp 31, .tmp 30]⟩])))
             (.ops [⟨(some 32), none, (.p (.bin .add)), [.tmp 25, .const (.int .i64 1)]⟩,
               ⟨(some 25), none, (.p .mv), [.tmp 32]⟩])))))))
       (.seq
        (.seq
         (.ops [⟨(some 33), none, (.p .mv), [.tmp 0]⟩,
           ⟨(some 34), none, (.call 10), [.tmp 33]⟩,
           ⟨(some 35), none, (.p .lenS), [.tmp 34]⟩,
           ⟨(some 36), none, (.p .mv), [.const (.int .i64 0)]⟩])
         (.block 2
          (.loop
           (.seq
            (.ops [⟨(some 37), none, (.p (.cmp .lss)), [.tmp 36, .tmp 35]⟩])
            (.seq
             (.cond (.tmp 37)
              .skip
              (.exit 2))
             (.seq
              (.block 3
               (.seq
                (.ops [⟨(some 38), none, (.p (.iaddrS 6)), [.tmp 34, .tmp 36]⟩,
                  ⟨(some 39), none, (.loadN 6), [.tmp 38]⟩,
                  ⟨(some 9), none, (.alloc 31 #[(.int .u8 0), (.int .i64 0), (.int .i64 0), (.int .u8 0), (.bool false), (.int .u64 0)]), []⟩,
                  ⟨none, none, (.storeN 6), [.tmp 9, .tmp 39]⟩])
                (.seq
                 (.seq
                  (.ops [⟨(some 40), none, (.p (.faddr 0)), [.tmp 9]⟩,
                    ⟨(some 41), none, .load1, [.tmp 40]⟩,
                    ⟨(some 42), none, (.p (.bin .rem)), [.tmp 41, .const (.int .u8 5)]⟩,
                    ⟨(some 43), none, (.p (.cmp .gtr)), [.tmp 42, .const (.int .u8 1)]⟩])
                  (.cond (.tmp 43)
                   (.exit 3)
                   .skip))
                 (.seq
                  (.ops [⟨(some 44), none, (.p .mv), [.tmp 4]⟩,
                    ⟨(some 45), none, (.loadN 6), [.tmp 9]⟩,
                    ⟨(some 46), none, (.call 11), [.tmp 44, .tmp 45]⟩,
                    ⟨(some 10), none, (.p .mv), [.tmp 46]⟩])
                  (.seq
                   (.seq
                    (.ops [⟨(some 47), none, (.p .mv), [.tmp 10]⟩,
                      ⟨(some 48), none, (.p (.cmp .neq)), [.tmp 47, .const (.int .i64 0)]⟩,
                      ⟨(some 49), none, (.p .mv), [.tmp 48]⟩,
                      ⟨(some 50), (some (49, true)), (.p .mv), [.tmp 10]⟩,
                      ⟨(some 51), (some (49, true)), (.p (.cmp .neq)), [.tmp 50, .const (.int .i64 1)]⟩,
                      ⟨(some 52), none, (.p .pick), [.tmp 49, .tmp 51, .const (.bool false)]⟩])
                    (.cond (.tmp 52)
                     (.seq
                      (.ops [⟨(some 2), none, (.p .mv), [.const (.bool false)]⟩])
                      .ret)
                     .skip))
                   (.seq
                    (.ops [⟨(some 53), none, (.p .mv), [.tmp 10]⟩,
                      ⟨(some 54), none, (.p (.cmp .eql)), [.tmp 53, .const (.int .i64 0)]⟩,
                      ⟨(some 55), none, (.p .mv), [.tmp 54]⟩,
                      ⟨(some 56), (some (55, true)), (.p (.faddr 0)), [.tmp 9]⟩,
                      ⟨(some 57), (some (55, true)), .load1, [.tmp 56]⟩,
                      ⟨(some 58), (some (55, true)), (.p (.bin .rem)), [.tmp 57, .const (.int .u8 5)]⟩,
                      ⟨(some 59), (some (55, true)), (.p (.cmp .eql)), [.tmp 58, .const (.int .u8 0)]⟩,
                      ⟨(some 60), none, (.p .pick), [.tmp 55, .tmp 59, .const (.bool false)]⟩])
                    (.cond (.tmp 60)
                     (.seq
                      (.seq
                       (.ops [⟨(some 61), none, (.p (.faddr 1)), [.tmp 9]⟩,
                         ⟨(some 62), none, .load1, [.tmp 61]⟩,
                         ⟨(some 63), none, (.p (.cmp .lss)), [.tmp 62, .const (.int .i64 0)]⟩,
                         ⟨(some 64), none, (.p .mv), [.tmp 63]⟩,
                         ⟨(some 65), (some (64, false)), (.p (.faddr 1)), [.tmp 9]⟩,
                         ⟨(some 66), (some (64, false)), .load1, [.tmp 65]⟩,
                         ⟨(some 67), (some (64, false)), (.p (.cmp .gtr)), [.tmp 66, .const (.int .i64 9)]⟩,
                         ⟨(some 68), none, (.p .pick), [.tmp 64, .const (.bool true), .tmp 67]⟩])
                       (.cond (.tmp 68)
                        (.seq
                         (.ops [⟨(some 2), none, (.p .mv), [.const (.bool false)]⟩])
                         .ret)
                        .skip))
                      (.draw [⟨(some 69), none, (.p (.faddr 1)), [.tmp 9]⟩,
                        ⟨(some 70), none, .load1, [.tmp 69]⟩,
                        ⟨(some 71), none, (.loadN 6), [.tmp 9]⟩,
                        ⟨(some 72), none, (.call 16), [.tmp 71]⟩,
                        ⟨(some 73), none, .b2s, [.tmp 72]⟩,
                        ⟨(some 74), none, (.p (.iaddrA 10 1)), [.tmp 6, .tmp 70]⟩,
                        ⟨none, none, .store1, [.tmp 74, .tmp 73]⟩] (.pu 0 (.fl 1 (.fl 2 (.act true 3 [2] (.act true 4 [3] (.pu 5 (.act true 6 [0, 1, 2, 3, 4, 5] .done .stop)) .stop) .stop))))))
                     .skip)))))))
              (.ops [⟨(some 75), none, (.p (.bin .add)), [.tmp 36, .const (.int .i64 1)]⟩,
                ⟨(some 36), none, (.p .mv), [.tmp 75]⟩])))))))
        (.seq
         (.seq
          (.ops [⟨(some 76), none, (.p .mv), [.const (.int .i64 0)]⟩])
          (.block 4
           (.loop
            (.seq
             (.ops [⟨(some 77), none, (.p (.cmp .lss)), [.tmp 76, .const (.int .i64 10)]⟩])
             (.seq
              (.cond (.tmp 77)
               .skip
               (.exit 4))
              (.seq
               (.block 5
                (.seq
                 (.ops [⟨(some 78), none, (.p .mv), [.tmp 76]⟩,
                   ⟨(some 11), none, (.p .mv), [.tmp 78]⟩])
                 (.seq
                  (.ops [⟨(some 80), none, (.p .mv), [.tmp 4]⟩,
                    ⟨(some 81), none, (.p .mv), [.tmp 11]⟩,
                    ⟨(some 82), none, (.call 13), [.tmp 80, .tmp 81]⟩,
                    ⟨(some 79), none, (.p .mv), [.tmp 82]⟩,
                    ⟨(some 83), none, (.p (.ext 0)), [.tmp 79]⟩,
                    ⟨(some 84), none, (.p (.ext 1)), [.tmp 79]⟩,
                    ⟨(some 12), none, (.p .mv), [.tmp 83]⟩,
                    ⟨(some 13), none, (.p .mv), [.tmp 84]⟩])
                  (.seq
                   (.draw [⟨(some 85), none, (.p .mv), [.tmp 13]⟩,
                     ⟨(some 86), none, (.p (.cmp .neq)), [.tmp 85, .const (.int .i64 0)]⟩,
                     ⟨(some 87), none, (.p .mv), [.tmp 86]⟩,
                     ⟨(some 88), (some (87, false)), (.p .mv), [.tmp 12]⟩,
                     ⟨(some 89), (some (87, false)), .b2s, [.tmp 88]⟩,
                     ⟨(some 90), (some (87, false)), (.p .mv), [.tmp 11]⟩,
                     ⟨(some 91), (some (87, false)), (.p (.iaddrA 10 1)), [.tmp 6, .tmp 90]⟩,
                     ⟨(some 92), (some (87, false)), .load1, [.tmp 91]⟩,
                     ⟨(some 93), (some (87, false)), (.p (.seq true)), [.tmp 89, .tmp 92]⟩,
                     ⟨(some 94), none, (.p .pick), [.tmp 87, .const (.bool true), .tmp 93]⟩] (.pu 0 (.pu 1 (.pu 2 (.pu 3 (.pu 5 (.pu 6 (.fl 7 (.act true 4 [2, 3] (.pu 8 (.pu 9 .done)) .stop)))))))))
                   (.cond (.tmp 94)
                    (.seq
                     (.ops [⟨(some 2), none, (.p .mv), [.const (.bool false)]⟩])
                     .ret)
                    .skip)))))
               (.ops [⟨(some 95), none, (.p (.bin .add)), [.tmp 76, .const (.int .i64 1)]⟩,
                 ⟨(some 76), none, (.p .mv), [.tmp 95]⟩])))))))
         (.seq
          (.ops [⟨(some 96), none, (.p .mv), [.tmp 3]⟩,
            ⟨(some 2), none, (.p .mv), [.tmp 96]⟩])
          .ret))))))))),
 [.t 2]⟩
theorem ir4_ok : cFn Try.prog Try.f4 = some ir4 := by kernel_rfl

/- pumice/pumicelaw08.BackCuts -/
def ir5 : FIR := ⟨136,
 (.seq
  (.ops [⟨(some 4), none, (.p .mv), [.const (.bool false)]⟩])
  (.seq
   (.ops [⟨(some 18), none, (.call 8), []⟩,
     ⟨(some 5), none, (.p .mv), [.tmp 18]⟩])
   (.seq
    (.ops [⟨(some 20), none, (.call 9), [.const (.int .i64 10)]⟩,
      ⟨(some 19), none, (.p .mv), [.tmp 20]⟩,
      ⟨(some 21), none, (.p (.ext 0)), [.tmp 19]⟩,
      ⟨(some 22), none, (.p (.ext 1)), [.tmp 19]⟩,
      ⟨(some 6), none, (.p .mv), [.tmp 21]⟩,
      ⟨(some 7), none, (.p .mv), [.tmp 22]⟩])
    (.seq
     (.seq
      (.ops [⟨(some 23), none, (.p .mv), [.tmp 6]⟩,
        ⟨(some 24), none, (.p (.isnil false)), [.tmp 23, .const (.pointer none)]⟩,
        ⟨(some 25), none, (.p .mv), [.tmp 24]⟩,
        ⟨(some 26), (some (25, false)), (.p .mv), [.tmp 7]⟩,
        ⟨(some 27), (some (25, false)), (.p (.cmp .neq)), [.tmp 26, .const (.int .i64 0)]⟩,
        ⟨(some 28), none, (.p .pick), [.tmp 25, .const (.bool true), .tmp 27]⟩])
      (.cond (.tmp 28)
       (.seq
        (.ops [⟨(some 4), none, (.p .mv), [.const (.bool false)]⟩])
        .ret)
       .skip))
     (.seq
      (.ops [⟨(some 29), none, (.p .mv), [.tmp 6]⟩,
        ⟨(some 30), none, (.p .mv), [.tmp 1]⟩,
        ⟨(some 31), none, (.p (.conv .i64)), [.tmp 30]⟩,
        ⟨(some 32), none, (.call 17), [.tmp 29, .tmp 31]⟩])
      (.seq
       (.ops [⟨(some 8), none, (.alloc 34 (Array.replicate 10 (.string ⟨#[]⟩))), []⟩])
       (.seq
        (.seq
         (.ops [⟨(some 33), none, (.p .mv), [.const (.int .i64 0)]⟩])
         (.block 0
          (.loop
           (.seq
            (.ops [⟨(some 34), none, (.p (.cmp .lss)), [.tmp 33, .const (.int .i64 10)]⟩])
            (.seq
             (.cond (.tmp 34)
              .skip
              (.exit 0))
             (.seq
              (.block 1
               (.seq
                (.ops [⟨(some 35), none, (.p .mv), [.tmp 33]⟩,
                  ⟨(some 9), none, (.p .mv), [.tmp 35]⟩])
                (.ops [⟨(some 36), none, (.p .mv), [.tmp 9]⟩,
                  ⟨(some 37), none, (.call 15), [.const (.int .u8 0)]⟩,
                  ⟨(some 38), none, .b2s, [.tmp 37]⟩,
                  ⟨(some 39), none, (.p (.iaddrA 10 1)), [.tmp 8, .tmp 36]⟩,
                  ⟨none, none, .store1, [.tmp 39, .tmp 38]⟩])))
              (.ops [⟨(some 40), none, (.p (.bin .add)), [.tmp 33, .const (.int .i64 1)]⟩,
                ⟨(some 33), none, (.p .mv), [.tmp 40]⟩])))))))
        (.seq
         (.ops [⟨(some 41), none, (.loadN 10), [.tmp 8]⟩,
           ⟨(some 10), none, (.alloc 34 (Array.replicate 10 (.string ⟨#[]⟩))), []⟩,
           ⟨none, none, (.storeN 10), [.tmp 10, .tmp 41]⟩])
         (.seq
          (.seq
           (.ops [⟨(some 42), none, (.p .mv), [.tmp 0]⟩,
             ⟨(some 43), none, (.call 10), [.tmp 42]⟩,
             ⟨(some 44), none, (.p .lenS), [.tmp 43]⟩,
             ⟨(some 45), none, (.p .mv), [.const (.int .i64 0)]⟩])
           (.block 2
            (.loop
             (.seq
              (.ops [⟨(some 46), none, (.p (.cmp .lss)), [.tmp 45, .tmp 44]⟩])
              (.seq
               (.cond (.tmp 46)
                .skip
                (.exit 2))
               (.seq
                (.block 3
                 (.seq
                  (.ops [⟨(some 47), none, (.p (.iaddrS 6)), [.tmp 43, .tmp 45]⟩,
                    ⟨(some 48), none, (.loadN 6), [.tmp 47]⟩,
                    ⟨(some 12), none, (.alloc 31 #[(.int .u8 0), (.int .i64 0), (.int .i64 0), (.int .u8 0), (.bool false), (.int .u64 0)]), []⟩,
                    ⟨none, none, (.storeN 6), [.tmp 12, .tmp 48]⟩])
                  (.seq
                   (.seq
                    (.ops [⟨(some 49), none, (.p (.faddr 0)), [.tmp 12]⟩,
                      ⟨(some 50), none, .load1, [.tmp 49]⟩,
                      ⟨(some 51), none, (.p (.bin .rem)), [.tmp 50, .const (.int .u8 5)]⟩,
                      ⟨(some 52), none, (.p (.cmp .gtr)), [.tmp 51, .const (.int .u8 1)]⟩])
                    (.cond (.tmp 52)
                     (.exit 3)
                     .skip))
                   (.seq
                    (.ops [⟨(some 53), none, (.p .mv), [.tmp 6]⟩,
                      ⟨(some 54), none, (.call 18), [.tmp 53]⟩,
                      ⟨(some 13), none, (.p .mv), [.tmp 54]⟩])
                    (.seq
                     (.ops [⟨(some 55), none, (.p .mv), [.tmp 6]⟩,
                       ⟨(some 56), none, (.loadN 6), [.tmp 12]⟩,
                       ⟨(some 57), none, (.call 11), [.tmp 55, .tmp 56]⟩,
                       ⟨(some 14), none, (.p .mv), [.tmp 57]⟩])
                     (.seq
                      (.seq
                       (.ops [⟨(some 58), none, (.p .mv), [.tmp 14]⟩,
                         ⟨(some 59), none, (.p (.cmp .eql)), [.tmp 58, .const (.int .i64 0)]⟩,
                         ⟨(some 60), none, (.p .mv), [.tmp 6]⟩,
                         ⟨(some 61), none, (.call 18), [.tmp 60]⟩,
                         ⟨(some 62), none, (.p .mv), [.tmp 13]⟩,
                         ⟨(some 63), none, (.p (.bin .add)), [.tmp 62, .const (.int .i64 1)]⟩,
                         ⟨(some 64), none, (.p (.cmp .eql)), [.tmp 61, .tmp 63]⟩,
                         ⟨(some 65), none, (.p (.beq true)), [.tmp 59, .tmp 64]⟩,
                         ⟨(some 66), none, (.p .mv), [.tmp 65]⟩,
                         ⟨(some 67), (some (66, false)), (.p .mv), [.tmp 6]⟩,
                         ⟨(some 68), (some (66, false)), (.call 18), [.tmp 67]⟩,
                         ⟨(some 69), (some (66, false)), (.p .mv), [.tmp 1]⟩,
                         ⟨(some 70), (some (66, false)), (.p (.conv .i64)), [.tmp 69]⟩,
                         ⟨(some 71), (some (66, false)), (.p (.cmp .gtr)), [.tmp 68, .tmp 70]⟩,
                         ⟨(some 72), none, (.p .pick), [.tmp 66, .const (.bool true), .tmp 71]⟩,
                         ⟨(some 73), none, (.p .mv), [.tmp 72]⟩,
                         ⟨(some 74), (some (73, false)), (.p .mv), [.tmp 14]⟩,
                         ⟨(some 75), (some (73, false)), (.p (.cmp .eql)), [.tmp 74, .const (.int .i64 6)]⟩,
                         ⟨(some 76), (some (73, false)), (.p .mv), [.tmp 75]⟩,
                         ⟨(some 77), (some (76, true)), (.p .mv), [.tmp 6]⟩,
                         ⟨(some 78), (some (76, true)), (.call 18), [.tmp 77]⟩,
                         ⟨(some 79), (some (76, true)), (.p .mv), [.tmp 1]⟩,
                         ⟨(some 80), (some (76, true)), (.p (.conv .i64)), [.tmp 79]⟩,
                         ⟨(some 81), (some (76, true)), (.p (.cmp .neq)), [.tmp 78, .tmp 80]⟩,
                         ⟨(some 82), (some (76, true)), (.p .mv), [.tmp 81]⟩,
                         ⟨(some 83), (some (82, false)), (.p .mv), [.tmp 6]⟩,
                         ⟨(some 84), (some (82, false)), (.call 19), [.tmp 83]⟩,
                         ⟨(some 85), (some (82, false)), (.p .not), [.tmp 84]⟩,
                         ⟨(some 86), (some (76, true)), (.p .pick), [.tmp 82, .const (.bool true), .tmp 85]⟩,
                         ⟨(some 87), (some (73, false)), (.p .pick), [.tmp 76, .tmp 86, .const (.bool false)]⟩,
                         ⟨(some 88), none, (.p .pick), [.tmp 73, .const (.bool true), .tmp 87]⟩])
                       (.cond (.tmp 88)
                        (.seq
                         (.ops [⟨(some 4), none, (.p .mv), [.const (.bool false)]⟩])
                         .ret)
                        .skip))
                      (.seq
                       (.seq
                        (.ops [⟨(some 89), none, (.p .mv), [.tmp 14]⟩,
                          ⟨(some 90), none, (.p (.cmp .eql)), [.tmp 89, .const (.int .i64 0)]⟩,
                          ⟨(some 91), none, (.p .mv), [.tmp 90]⟩,
                          ⟨(some 92), (some (91, true)), (.p (.faddr 0)), [.tmp 12]⟩,
                          ⟨(some 93), (some (91, true)), .load1, [.tmp 92]⟩,
                          ⟨(some 94), (some (91, true)), (.p (.bin .rem)), [.tmp 93, .const (.int .u8 5)]⟩,
                          ⟨(some 95), (some (91, true)), (.p (.cmp .eql)), [.tmp 94, .const (.int .u8 0)]⟩,
                          ⟨(some 96), none, (.p .pick), [.tmp 91, .tmp 95, .const (.bool false)]⟩])
                        (.cond (.tmp 96)
                         (.draw [⟨(some 97), none, (.p (.faddr 1)), [.tmp 12]⟩,
                           ⟨(some 98), none, .load1, [.tmp 97]⟩,
                           ⟨(some 99), none, (.loadN 6), [.tmp 12]⟩,
                           ⟨(some 100), none, (.call 16), [.tmp 99]⟩,
                           ⟨(some 101), none, .b2s, [.tmp 100]⟩,
                           ⟨(some 102), none, (.p (.iaddrA 10 1)), [.tmp 10, .tmp 98]⟩,
                           ⟨none, none, .store1, [.tmp 102, .tmp 101]⟩] (.pu 0 (.fl 1 (.fl 2 (.act true 3 [2] (.act true 4 [3] (.pu 5 (.act true 6 [0, 1, 2, 3, 4, 5] .done .stop)) .stop) .stop)))))
                         .skip))
                       (.seq
                        (.ops [⟨(some 103), none, (.p .mv), [.tmp 14]⟩,
                          ⟨(some 104), none, (.p (.cmp .eql)), [.tmp 103, .const (.int .i64 0)]⟩,
                          ⟨(some 105), none, (.p .mv), [.tmp 104]⟩,
                          ⟨(some 106), (some (105, true)), (.p (.faddr 0)), [.tmp 12]⟩,
                          ⟨(some 107), (some (105, true)), .load1, [.tmp 106]⟩,
                          ⟨(some 108), (some (105, true)), (.p (.bin .rem)), [.tmp 107, .const (.int .u8 5)]⟩,
                          ⟨(some 109), (some (105, true)), (.p (.cmp .eql)), [.tmp 108, .const (.int .u8 1)]⟩,
                          ⟨(some 110), none, (.p .pick), [.tmp 105, .tmp 109, .const (.bool false)]⟩])
                        (.cond (.tmp 110)
                         (.ops [⟨(some 111), none, (.loadN 10), [.tmp 10]⟩,
                           ⟨none, none, (.storeN 10), [.tmp 8, .tmp 111]⟩])
                         .skip)))))))))
                (.ops [⟨(some 112), none, (.p (.bin .add)), [.tmp 45, .const (.int .i64 1)]⟩,
                  ⟨(some 45), none, (.p .mv), [.tmp 112]⟩])))))))
          (.seq
           (.ops [⟨(some 113), none, (.p .mv), [.tmp 6]⟩,
             ⟨(some 114), none, (.call 12), [.tmp 113, .const (.int .u64 0)]⟩])
           (.seq
            (.seq
             (.ops [⟨(some 115), none, (.p .mv), [.const (.int .i64 0)]⟩])
             (.block 4
              (.loop
               (.seq
                (.ops [⟨(some 116), none, (.p (.cmp .lss)), [.tmp 115, .const (.int .i64 10)]⟩])
                (.seq
                 (.cond (.tmp 116)
                  .skip
                  (.exit 4))
                 (.seq
                  (.block 5
                   (.seq
                    (.ops [⟨(some 117), none, (.p .mv), [.tmp 115]⟩,
                      ⟨(some 15), none, (.p .mv), [.tmp 117]⟩])
                    (.seq
                     (.ops [⟨(some 119), none, (.p .mv), [.tmp 6]⟩,
                       ⟨(some 120), none, (.p .mv), [.tmp 15]⟩,
                       ⟨(some 121), none, (.call 13), [.tmp 119, .tmp 120]⟩,
                       ⟨(some 118), none, (.p .mv), [.tmp 121]⟩,
                       ⟨(some 122), none, (.p (.ext 0)), [.tmp 118]⟩,
                       ⟨(some 123), none, (.p (.ext 1)), [.tmp 118]⟩,
                       ⟨(some 16), none, (.p .mv), [.tmp 122]⟩,
                       ⟨(some 17), none, (.p .mv), [.tmp 123]⟩])
                     (.seq
                      (.draw [⟨(some 124), none, (.p .mv), [.tmp 17]⟩,
                        ⟨(some 125), none, (.p (.cmp .neq)), [.tmp 124, .const (.int .i64 0)]⟩,
                        ⟨(some 126), none, (.p .mv), [.tmp 125]⟩,
                        ⟨(some 127), (some (126, false)), (.p .mv), [.tmp 16]⟩,
                        ⟨(some 128), (some (126, false)), .b2s, [.tmp 127]⟩,
                        ⟨(some 129), (some (126, false)), (.p .mv), [.tmp 15]⟩,
                        ⟨(some 130), (some (126, false)), (.p (.iaddrA 10 1)), [.tmp 8, .tmp 129]⟩,
                        ⟨(some 131), (some (126, false)), .load1, [.tmp 130]⟩,
                        ⟨(some 132), (some (126, false)), (.p (.seq true)), [.tmp 128, .tmp 131]⟩,
                        ⟨(some 133), none, (.p .pick), [.tmp 126, .const (.bool true), .tmp 132]⟩] (.pu 0 (.pu 1 (.pu 2 (.pu 3 (.pu 5 (.pu 6 (.fl 7 (.act true 4 [2, 3] (.pu 8 (.pu 9 .done)) .stop)))))))))
                      (.cond (.tmp 133)
                       (.seq
                        (.ops [⟨(some 4), none, (.p .mv), [.const (.bool false)]⟩])
                        .ret)
                       .skip)))))
                  (.ops [⟨(some 134), none, (.p (.bin .add)), [.tmp 115, .const (.int .i64 1)]⟩,
                    ⟨(some 115), none, (.p .mv), [.tmp 134]⟩])))))))
            (.seq
             (.ops [⟨(some 135), none, (.p .mv), [.tmp 5]⟩,
               ⟨(some 4), none, (.p .mv), [.tmp 135]⟩])
             .ret)))))))))))),
 [.t 4]⟩
theorem ir5_ok : cFn Try.prog Try.f5 = some ir5 := by kernel_rfl

/- pumice/pumicelaw08.BackPlays -/
def ir6 : FIR := ⟨152,
 (.seq
  (.ops [⟨(some 4), none, (.p .mv), [.const (.bool false)]⟩])
  (.seq
   (.ops [⟨(some 19), none, (.call 8), []⟩,
     ⟨(some 5), none, (.p .mv), [.tmp 19]⟩])
   (.seq
    (.ops [⟨(some 21), none, (.p .mv), [.tmp 0]⟩,
      ⟨(some 22), none, (.call 9), [.tmp 21]⟩,
      ⟨(some 20), none, (.p .mv), [.tmp 22]⟩,
      ⟨(some 23), none, (.p (.ext 0)), [.tmp 20]⟩,
      ⟨(some 24), none, (.p (.ext 1)), [.tmp 20]⟩,
      ⟨(some 6), none, (.p .mv), [.tmp 23]⟩,
      ⟨(some 7), none, (.p .mv), [.tmp 24]⟩])
    (.seq
     (.ops [⟨(some 26), none, (.p .mv), [.tmp 0]⟩,
       ⟨(some 27), none, (.call 20), [.tmp 26]⟩,
       ⟨(some 25), none, (.p .mv), [.tmp 27]⟩,
       ⟨(some 28), none, (.p (.ext 0)), [.tmp 25]⟩,
       ⟨(some 29), none, (.p (.ext 1)), [.tmp 25]⟩,
       ⟨(some 8), none, (.p .mv), [.tmp 28]⟩,
       ⟨(some 9), none, (.p .mv), [.tmp 29]⟩])
     (.seq
      (.seq
       (.ops [⟨(some 30), none, (.p .mv), [.tmp 9]⟩,
         ⟨(some 31), none, (.p (.cmp .neq)), [.tmp 30, .const (.int .i64 0)]⟩])
       (.cond (.tmp 31)
        (.seq
         (.ops [⟨(some 32), none, (.p .mv), [.tmp 5]⟩,
           ⟨(some 33), none, (.p .mv), [.tmp 32]⟩,
           ⟨(some 34), (some (33, true)), (.p .mv), [.tmp 7]⟩,
           ⟨(some 35), (some (33, true)), (.p .mv), [.tmp 9]⟩,
           ⟨(some 36), (some (33, true)), (.p (.cmp .eql)), [.tmp 34, .tmp 35]⟩,
           ⟨(some 37), none, (.p .pick), [.tmp 33, .tmp 36, .const (.bool false)]⟩,
           ⟨(some 38), none, (.p .mv), [.tmp 37]⟩,
           ⟨(some 39), (some (38, true)), (.p .mv), [.tmp 6]⟩,
           ⟨(some 40), (some (38, true)), (.p (.isnil false)), [.tmp 39, .const (.pointer none)]⟩,
           ⟨(some 41), none, (.p .pick), [.tmp 38, .tmp 40, .const (.bool false)]⟩,
           ⟨(some 4), none, (.p .mv), [.tmp 41]⟩])
         .ret)
        .skip))
      (.seq
       (.seq
        (.ops [⟨(some 42), none, (.p .mv), [.tmp 7]⟩,
          ⟨(some 43), none, (.p .mv), [.tmp 9]⟩,
          ⟨(some 44), none, (.p (.cmp .neq)), [.tmp 42, .tmp 43]⟩,
          ⟨(some 45), none, (.p .mv), [.tmp 44]⟩,
          ⟨(some 46), (some (45, false)), (.p .mv), [.tmp 6]⟩,
          ⟨(some 47), (some (45, false)), (.p (.isnil false)), [.tmp 46, .const (.pointer none)]⟩,
          ⟨(some 48), none, (.p .pick), [.tmp 45, .const (.bool true), .tmp 47]⟩])
        (.cond (.tmp 48)
         (.seq
          (.ops [⟨(some 4), none, (.p .mv), [.const (.bool false)]⟩])
          .ret)
         .skip))
       (.seq
        (.seq
         (.ops [⟨(some 49), none, (.p .mv), [.tmp 1]⟩,
           ⟨(some 50), none, (.call 10), [.tmp 49]⟩,
           ⟨(some 51), none, (.p .lenS), [.tmp 50]⟩,
           ⟨(some 52), none, (.p .mv), [.const (.int .i64 0)]⟩])
         (.block 0
          (.loop
           (.seq
            (.ops [⟨(some 53), none, (.p (.cmp .lss)), [.tmp 52, .tmp 51]⟩])
            (.seq
             (.cond (.tmp 53)
              .skip
              (.exit 0))
             (.seq
              (.block 1
               (.seq
                (.ops [⟨(some 54), none, (.p (.iaddrS 6)), [.tmp 50, .tmp 52]⟩,
                  ⟨(some 55), none, (.loadN 6), [.tmp 54]⟩,
                  ⟨(some 11), none, (.alloc 31 #[(.int .u8 0), (.int .i64 0), (.int .i64 0), (.int .u8 0), (.bool false), (.int .u64 0)]), []⟩,
                  ⟨none, none, (.storeN 6), [.tmp 11, .tmp 55]⟩])
                (.seq
                 (.seq
                  (.ops [⟨(some 56), none, (.p (.faddr 0)), [.tmp 11]⟩,
                    ⟨(some 57), none, .load1, [.tmp 56]⟩,
                    ⟨(some 58), none, (.p (.bin .rem)), [.tmp 57, .const (.int .u8 5)]⟩,
                    ⟨(some 59), none, (.p (.cmp .eql)), [.tmp 58, .const (.int .u8 4)]⟩])
                  (.cond (.tmp 59)
                   (.seq
                    (.ops [⟨(some 60), none, (.p .mv), [.tmp 6]⟩,
                      ⟨(some 61), none, (.call 21), [.tmp 60]⟩,
                      ⟨(some 12), none, (.p .mv), [.tmp 61]⟩])
                    (.seq
                     (.ops [⟨(some 62), none, (.p .mv), [.tmp 6]⟩,
                       ⟨(some 63), none, (.call 12), [.tmp 62, .const (.int .u64 0)]⟩])
                     (.seq
                      (.ops [⟨(some 64), none, (.p .mv), [.tmp 6]⟩,
                        ⟨(some 65), none, (.call 15), [.const (.int .u8 9)]⟩,
                        ⟨(some 66), none, (.call 14), [.tmp 64, .const (.int .i64 0), .tmp 65]⟩])
                      (.ops [⟨(some 67), none, (.p .mv), [.tmp 12]⟩,
                        ⟨(some 6), none, (.p .mv), [.tmp 67]⟩]))))
                   .skip))
                 (.seq
                  (.seq
                   (.draw [⟨(some 68), none, (.p .mv), [.tmp 6]⟩,
                     ⟨(some 69), none, (.p (.isnil false)), [.tmp 68, .const (.pointer none)]⟩,
                     ⟨(some 70), none, (.p .mv), [.tmp 69]⟩,
                     ⟨(some 71), (some (70, false)), (.p .mv), [.tmp 6]⟩,
                     ⟨(some 72), (some (70, false)), (.loadN 6), [.tmp 11]⟩,
                     ⟨(some 73), (some (70, false)), (.call 11), [.tmp 71, .tmp 72]⟩,
                     ⟨(some 74), (some (70, false)), (.p .mv), [.tmp 8]⟩,
                     ⟨(some 75), (some (70, false)), (.loadN 6), [.tmp 11]⟩,
                     ⟨(some 76), (some (70, false)), (.call 22), [.tmp 74, .tmp 75]⟩,
                     ⟨(some 77), (some (70, false)), (.p (.cmp .neq)), [.tmp 73, .tmp 76]⟩,
                     ⟨(some 78), none, (.p .pick), [.tmp 70, .const (.bool true), .tmp 77]⟩,
                     ⟨(some 79), none, (.p .mv), [.tmp 78]⟩,
                     ⟨(some 80), (some (79, false)), (.p .mv), [.tmp 6]⟩,
                     ⟨(some 81), (some (79, false)), (.call 23), [.tmp 80]⟩,
                     ⟨(some 82), (some (79, false)), (.p .mv), [.tmp 8]⟩,
                     ⟨(some 83), (some (79, false)), (.p .nilchk), [.tmp 82]⟩,
                     ⟨(some 84), (some (79, false)), (.p (.faddr 0)), [.tmp 83]⟩,
                     ⟨(some 85), (some (79, false)), .load1, [.tmp 84]⟩,
                     ⟨(some 86), (some (79, false)), (.p .lenS), [.tmp 85]⟩,
                     ⟨(some 87), (some (79, false)), (.p (.cmp .neq)), [.tmp 81, .tmp 86]⟩,
                     ⟨(some 88), none, (.p .pick), [.tmp 79, .const (.bool true), .tmp 87]⟩,
                     ⟨(some 89), none, (.p .mv), [.tmp 88]⟩,
                     ⟨(some 90), (some (89, false)), (.p .mv), [.tmp 6]⟩,
                     ⟨(some 91), (some (89, false)), (.call 19), [.tmp 90]⟩,
                     ⟨(some 92), (some (89, false)), (.p .mv), [.tmp 8]⟩,
                     ⟨(some 93), (some (89, false)), (.p .nilchk), [.tmp 92]⟩,
                     ⟨(some 94), (some (89, false)), (.p (.faddr 2)), [.tmp 93]⟩,
                     ⟨(some 95), (some (89, false)), .load1, [.tmp 94]⟩,
                     ⟨(some 96), (some (89, false)), (.p (.beq true)), [.tmp 91, .tmp 95]⟩,
                     ⟨(some 97), none, (.p .pick), [.tmp 89, .const (.bool true), .tmp 96]⟩,
                     ⟨(some 98), none, (.p .mv), [.tmp 97]⟩,
                     ⟨(some 99), (some (98, false)), (.p .mv), [.tmp 6]⟩,
                     ⟨(some 100), (some (98, false)), (.call 18), [.tmp 99]⟩,
                     ⟨(some 101), (some (98, false)), (.p .mv), [.tmp 8]⟩,
                     ⟨(some 102), (some (98, false)), (.p .nilchk), [.tmp 101]⟩,
                     ⟨(some 103), (some (98, false)), (.p (.faddr 4)), [.tmp 102]⟩,
                     ⟨(some 104), (some (98, false)), .load1, [.tmp 103]⟩,
                     ⟨(some 105), (some (98, false)), (.p (.cmp .neq)), [.tmp 100, .tmp 104]⟩,
                     ⟨(some 106), none, (.p .pick), [.tmp 98, .const (.bool true), .tmp 105]⟩] (.pu 0 (.pu 1 (.pu 2 (.pu 3 (.pu 6 (.fl 4 (.fl 7 (.act true 5 [2, 3, 4] (.act true 8 [2, 5, 6, 7] (.pu 9 (.pu 10 (.pu 11 (.pu 12 (.pu 14 (.pu 15 (.pu 16 (.fl 17 (.pu 18 (.act true 13 [11, 12] (.pu 19 (.pu 20 (.pu 21 (.pu 22 (.pu 24 (.pu 25 (.pu 26 (.fl 27 (.act true 23 [21, 22] (.pu 28 (.pu 29 (.pu 30 (.pu 31 (.pu 33 (.pu 34 (.pu 35 (.fl 36 (.act true 32 [30, 31] (.pu 37 (.pu 38 .done)) .stop))))))))) .stop))))))))) .stop)))))))))) .stop) .stop)))))))))
                   (.cond (.tmp 106)
                    (.seq
                     (.ops [⟨(some 4), none, (.p .mv), [.const (.bool false)]⟩])
                     .ret)
                    .skip))
                  (.seq
                   (.ops [⟨(some 13), none, (.p .mv), [.const (.int .i64 (-1))]⟩])
                   (.block 2
                    (.loop
                     (.seq
                      (.seq
                       (.ops [⟨(some 107), none, (.p .mv), [.tmp 13]⟩,
                         ⟨(some 108), none, (.p .mv), [.tmp 8]⟩,
                         ⟨(some 109), none, (.p .nilchk), [.tmp 108]⟩,
                         ⟨(some 110), none, (.p (.faddr 0)), [.tmp 109]⟩,
                         ⟨(some 111), none, .load1, [.tmp 110]⟩,
                         ⟨(some 112), none, (.p .lenS), [.tmp 111]⟩,
                         ⟨(some 113), none, (.p .min), [.const (.int .i64 10), .tmp 112]⟩,
                         ⟨(some 114), none, (.p (.cmp .leq)), [.tmp 107, .tmp 113]⟩])
                       (.cond (.tmp 114)
                        .skip
                        (.exit 2)))
                      (.seq
                       (.block 3
                        (.seq
                         (.ops [⟨(some 118), none, (.p .mv), [.tmp 6]⟩,
                           ⟨(some 119), none, (.p .mv), [.tmp 13]⟩,
                           ⟨(some 120), none, (.call 13), [.tmp 118, .tmp 119]⟩,
                           ⟨(some 117), none, (.p .mv), [.tmp 120]⟩,
                           ⟨(some 121), none, (.p (.ext 0)), [.tmp 117]⟩,
                           ⟨(some 122), none, (.p (.ext 1)), [.tmp 117]⟩,
                           ⟨(some 14), none, (.p .mv), [.tmp 121]⟩,
                           ⟨(some 15), none, (.p .mv), [.tmp 122]⟩])
                         (.seq
                          (.ops [⟨(some 124), none, (.p .mv), [.tmp 8]⟩,
                            ⟨(some 125), none, (.p .mv), [.tmp 13]⟩,
                            ⟨(some 126), none, (.call 24), [.tmp 124, .tmp 125]⟩,
                            ⟨(some 123), none, (.p .mv), [.tmp 126]⟩,
                            ⟨(some 127), none, (.p (.ext 0)), [.tmp 123]⟩,
                            ⟨(some 128), none, (.p (.ext 1)), [.tmp 123]⟩,
                            ⟨(some 16), none, (.p .mv), [.tmp 127]⟩,
                            ⟨(some 17), none, (.p .mv), [.tmp 128]⟩])
                          (.seq
                           (.seq
                            (.ops [⟨(some 129), none, (.p .mv), [.tmp 14]⟩,
                              ⟨(some 130), none, .b2s, [.tmp 129]⟩,
                              ⟨(some 131), none, (.p .mv), [.tmp 16]⟩,
                              ⟨(some 132), none, (.p (.seq true)), [.tmp 130, .tmp 131]⟩,
                              ⟨(some 133), none, (.p .mv), [.tmp 132]⟩,
                              ⟨(some 134), (some (133, false)), (.p .mv), [.tmp 15]⟩,
                              ⟨(some 135), (some (133, false)), (.p .mv), [.tmp 17]⟩,
                              ⟨(some 136), (some (133, false)), (.p (.cmp .neq)), [.tmp 134, .tmp 135]⟩,
                              ⟨(some 137), none, (.p .pick), [.tmp 133, .const (.bool true), .tmp 136]⟩])
                            (.cond (.tmp 137)
                             (.seq
                              (.ops [⟨(some 4), none, (.p .mv), [.const (.bool false)]⟩])
                              .ret)
                             .skip))
                           (.seq
                            (.ops [⟨(some 138), none, (.p .mv), [.tmp 14]⟩,
                              ⟨(some 139), none, (.p .lenS), [.tmp 138]⟩,
                              ⟨(some 140), none, (.p .mv), [.const (.int .i64 0)]⟩])
                            (.block 4
                             (.loop
                              (.seq
                               (.ops [⟨(some 141), none, (.p (.cmp .lss)), [.tmp 140, .tmp 139]⟩])
                               (.seq
                                (.cond (.tmp 141)
                                 .skip
                                 (.exit 4))
                                (.seq
                                 (.block 5
                                  (.seq
                                   (.ops [⟨(some 142), none, (.p .mv), [.tmp 140]⟩,
                                     ⟨(some 18), none, (.p .mv), [.tmp 142]⟩])
                                   (.ops [⟨(some 143), none, (.p .mv), [.tmp 14]⟩,
                                     ⟨(some 144), none, (.p .mv), [.tmp 18]⟩,
                                     ⟨(some 145), none, (.p (.iaddrS 1)), [.tmp 143, .tmp 144]⟩,
                                     ⟨(some 146), none, .load1, [.tmp 145]⟩,
                                     ⟨(some 147), none, (.p (.bin .xor)), [.tmp 146, .const (.int .u8 255)]⟩,
                                     ⟨(some 148), none, (.p (.iaddrS 1)), [.tmp 143, .tmp 144]⟩,
                                     ⟨none, none, .store1, [.tmp 148, .tmp 147]⟩])))
                                 (.ops [⟨(some 149), none, (.p (.bin .add)), [.tmp 140, .const (.int .i64 1)]⟩,
                                   ⟨(some 140), none, (.p .mv), [.tmp 149]⟩])))))))))))
                       (.ops [⟨(some 115), none, (.p .mv), [.tmp 13]⟩,
                         ⟨(some 116), none, (.p (.bin .add)), [.tmp 115, .const (.int .i64 1)]⟩,
                         ⟨(some 13), none, (.p .mv), [.tmp 116]⟩]))))))))))
              (.ops [⟨(some 150), none, (.p (.bin .add)), [.tmp 52, .const (.int .i64 1)]⟩,
                ⟨(some 52), none, (.p .mv), [.tmp 150]⟩])))))))
        (.seq
         (.ops [⟨(some 151), none, (.p .mv), [.tmp 5]⟩,
           ⟨(some 4), none, (.p .mv), [.tmp 151]⟩])
         .ret)))))))),
 [.t 4]⟩
theorem ir6_ok : cFn Try.prog Try.f6 = some ir6 := by kernel_rfl

/- pumice/pumicelaw08.BackNil -/
def ir7 : FIR := ⟨61,
 (.seq
  (.ops [⟨(some 1), none, (.box 31), [.tmp 0]⟩,
    ⟨(some 2), none, (.p .mv), [.const (.bool false)]⟩])
  (.seq
   (.ops [⟨(some 8), none, (.call 8), []⟩,
     ⟨(some 3), none, (.p .mv), [.tmp 8]⟩])
   (.seq
    (.ops [⟨(some 4), none, (.p .mv), [.const (.pointer none)]⟩])
    (.seq
     (.ops [⟨(some 9), none, (.p .mv), [.tmp 4]⟩,
       ⟨(some 10), none, (.loadN 6), [.tmp 1]⟩,
       ⟨(some 11), none, (.call 11), [.tmp 9, .tmp 10]⟩,
       ⟨(some 5), none, (.p .mv), [.tmp 11]⟩])
     (.seq
      (.ops [⟨(some 13), none, (.p .mv), [.tmp 4]⟩,
        ⟨(some 14), none, (.p (.faddr 1)), [.tmp 1]⟩,
        ⟨(some 15), none, .load1, [.tmp 14]⟩,
        ⟨(some 16), none, (.call 13), [.tmp 13, .tmp 15]⟩,
        ⟨(some 12), none, (.p .mv), [.tmp 16]⟩,
        ⟨(some 17), none, (.p (.ext 0)), [.tmp 12]⟩,
        ⟨(some 18), none, (.p (.ext 1)), [.tmp 12]⟩,
        ⟨(some 6), none, (.p .mv), [.tmp 17]⟩,
        ⟨(some 7), none, (.p .mv), [.tmp 18]⟩])
      (.seq
       (.ops [⟨(some 19), none, (.p .mv), [.tmp 4]⟩,
         ⟨(some 20), none, (.p (.faddr 2)), [.tmp 1]⟩,
         ⟨(some 21), none, .load1, [.tmp 20]⟩,
         ⟨(some 22), none, (.call 17), [.tmp 19, .tmp 21]⟩])
       (.seq
        (.ops [⟨(some 23), none, (.p .mv), [.tmp 4]⟩,
          ⟨(some 24), none, (.p (.faddr 5)), [.tmp 1]⟩,
          ⟨(some 25), none, .load1, [.tmp 24]⟩,
          ⟨(some 26), none, (.call 12), [.tmp 23, .tmp 25]⟩])
        (.seq
         (.ops [⟨(some 27), none, (.p .mv), [.tmp 3]⟩,
           ⟨(some 28), none, (.p .mv), [.tmp 27]⟩,
           ⟨(some 29), (some (28, true)), (.p .mv), [.tmp 5]⟩,
           ⟨(some 30), (some (28, true)), (.p (.cmp .eql)), [.tmp 29, .const (.int .i64 2)]⟩,
           ⟨(some 31), (some (28, true)), (.p (.faddr 0)), [.tmp 1]⟩,
           ⟨(some 32), (some (28, true)), .load1, [.tmp 31]⟩,
           ⟨(some 33), (some (28, true)), (.p (.bin .rem)), [.tmp 32, .const (.int .u8 5)]⟩,
           ⟨(some 34), (some (28, true)), (.p (.cmp .lss)), [.tmp 33, .const (.int .u8 2)]⟩,
           ⟨(some 35), (some (28, true)), (.p (.beq false)), [.tmp 30, .tmp 34]⟩,
           ⟨(some 36), none, (.p .pick), [.tmp 28, .tmp 35, .const (.bool false)]⟩,
           ⟨(some 37), none, (.p .mv), [.tmp 36]⟩,
           ⟨(some 38), (some (37, true)), (.p .mv), [.tmp 7]⟩,
           ⟨(some 39), (some (37, true)), (.p (.cmp .eql)), [.tmp 38, .const (.int .i64 2)]⟩,
           ⟨(some 40), none, (.p .pick), [.tmp 37, .tmp 39, .const (.bool false)]⟩,
           ⟨(some 41), none, (.p .mv), [.tmp 40]⟩,
           ⟨(some 42), (some (41, true)), (.p .mv), [.tmp 4]⟩,
           ⟨(some 43), (some (41, true)), (.call 23), [.tmp 42]⟩,
           ⟨(some 44), (some (41, true)), (.p (.cmp .eql)), [.tmp 43, .const (.int .i64 0)]⟩,
           ⟨(some 45), none, (.p .pick), [.tmp 41, .tmp 44, .const (.bool false)]⟩,
           ⟨(some 46), none, (.p .mv), [.tmp 45]⟩,
           ⟨(some 47), (some (46, true)), (.p .mv), [.tmp 4]⟩,
           ⟨(some 48), (some (46, true)), (.call 19), [.tmp 47]⟩,
           ⟨(some 49), (some (46, true)), (.p .not), [.tmp 48]⟩,
           ⟨(some 50), none, (.p .pick), [.tmp 46, .tmp 49, .const (.bool false)]⟩,
           ⟨(some 51), none, (.p .mv), [.tmp 50]⟩,
           ⟨(some 52), (some (51, true)), (.p .mv), [.tmp 4]⟩,
           ⟨(some 53), (some (51, true)), (.call 18), [.tmp 52]⟩,
           ⟨(some 54), (some (51, true)), (.p (.cmp .eql)), [.tmp 53, .const (.int .i64 0)]⟩,
           ⟨(some 55), none, (.p .pick), [.tmp 51, .tmp 54, .const (.bool false)]⟩,
           ⟨(some 56), none, (.p .mv), [.tmp 55]⟩,
           ⟨(some 57), (some (56, true)), (.p .mv), [.tmp 4]⟩,
           ⟨(some 58), (some (56, true)), (.call 21), [.tmp 57]⟩,
           ⟨(some 59), (some (56, true)), (.p (.isnil false)), [.tmp 58, .const (.pointer none)]⟩,
           ⟨(some 60), none, (.p .pick), [.tmp 56, .tmp 59, .const (.bool false)]⟩,
           ⟨(some 2), none, (.p .mv), [.tmp 60]⟩])
         .ret)))))))),
 [.t 2]⟩
theorem ir7_ok : cFn Try.prog Try.f7 = some ir7 := by kernel_rfl

/- pumice/pumicelaw08.shown -/
def ir8 : FIR := ⟨65,
 (.seq
  (.ops [⟨(some 0), none, (.p .mv), [.const (.bool false)]⟩])
  (.seq
   (.ops [⟨(some 9), none, (.call 9), [.const (.int .i64 2)]⟩,
     ⟨(some 8), none, (.p .mv), [.tmp 9]⟩,
     ⟨(some 10), none, (.p (.ext 0)), [.tmp 8]⟩,
     ⟨(some 11), none, (.p (.ext 1)), [.tmp 8]⟩,
     ⟨(some 1), none, (.p .mv), [.tmp 10]⟩,
     ⟨(some 2), none, (.p .mv), [.tmp 11]⟩])
   (.seq
    (.seq
     (.ops [⟨(some 12), none, (.p .mv), [.tmp 1]⟩,
       ⟨(some 13), none, (.p (.isnil false)), [.tmp 12, .const (.pointer none)]⟩,
       ⟨(some 14), none, (.p .mv), [.tmp 13]⟩,
       ⟨(some 15), (some (14, false)), (.p .mv), [.tmp 2]⟩,
       ⟨(some 16), (some (14, false)), (.p (.cmp .neq)), [.tmp 15, .const (.int .i64 0)]⟩,
       ⟨(some 17), none, (.p .pick), [.tmp 14, .const (.bool true), .tmp 16]⟩,
       ⟨(some 18), none, (.p .mv), [.tmp 17]⟩,
       ⟨(some 19), (some (18, false)), (.p .mv), [.tmp 1]⟩,
       ⟨(some 20), (some (18, false)), (.call 15), [.const (.int .u8 7)]⟩,
       ⟨(some 21), (some (18, false)), (.call 14), [.tmp 19, .const (.int .i64 1), .tmp 20]⟩,
       ⟨(some 22), (some (18, false)), (.p (.cmp .neq)), [.tmp 21, .const (.int .i64 0)]⟩,
       ⟨(some 23), none, (.p .pick), [.tmp 18, .const (.bool true), .tmp 22]⟩])
     (.cond (.tmp 23)
      (.seq
       (.ops [⟨(some 0), none, (.p .mv), [.const (.bool false)]⟩])
       .ret)
      .skip))
    (.seq
     (.ops [⟨(some 24), none, (.p .mv), [.tmp 1]⟩,
       ⟨(some 25), none, (.call 12), [.tmp 24, .const (.int .u64 0)]⟩])
     (.seq
      (.ops [⟨(some 27), none, (.p .mv), [.tmp 1]⟩,
        ⟨(some 28), none, (.call 13), [.tmp 27, .const (.int .i64 1)]⟩,
        ⟨(some 26), none, (.p .mv), [.tmp 28]⟩,
        ⟨(some 29), none, (.p (.ext 0)), [.tmp 26]⟩,
        ⟨(some 30), none, (.p (.ext 1)), [.tmp 26]⟩,
        ⟨(some 3), none, (.p .mv), [.tmp 29]⟩,
        ⟨(some 4), none, (.p .mv), [.tmp 30]⟩])
      (.seq
       (.ops [⟨(some 31), none, (.p .mv), [.tmp 1]⟩,
         ⟨(some 32), none, (.call 15), [.const (.int .u8 7)]⟩,
         ⟨(some 33), none, (.call 14), [.tmp 31, .const (.int .i64 1), .tmp 32]⟩,
         ⟨(some 5), none, (.p .mv), [.tmp 33]⟩])
       (.seq
        (.ops [⟨(some 34), none, (.p .mv), [.tmp 1]⟩,
          ⟨(some 35), none, (.call 12), [.tmp 34, .const (.int .u64 1)]⟩])
        (.seq
         (.ops [⟨(some 37), none, (.p .mv), [.tmp 1]⟩,
           ⟨(some 38), none, (.call 13), [.tmp 37, .const (.int .i64 1)]⟩,
           ⟨(some 36), none, (.p .mv), [.tmp 38]⟩,
           ⟨(some 39), none, (.p (.ext 0)), [.tmp 36]⟩,
           ⟨(some 40), none, (.p (.ext 1)), [.tmp 36]⟩,
           ⟨(some 6), none, (.p .mv), [.tmp 39]⟩,
           ⟨(some 7), none, (.p .mv), [.tmp 40]⟩])
         (.seq
          (.draw [⟨(some 41), none, (.p .mv), [.tmp 3]⟩,
            ⟨(some 42), none, .b2s, [.tmp 41]⟩,
            ⟨(some 43), none, (.call 15), [.const (.int .u8 0)]⟩,
            ⟨(some 44), none, .b2s, [.tmp 43]⟩,
            ⟨(some 45), none, (.p (.seq false)), [.tmp 42, .tmp 44]⟩,
            ⟨(some 46), none, (.p .mv), [.tmp 45]⟩,
            ⟨(some 47), (some (46, true)), (.p .mv), [.tmp 6]⟩,
            ⟨(some 48), (some (46, true)), .b2s, [.tmp 47]⟩,
            ⟨(some 49), (some (46, true)), (.call 15), [.const (.int .u8 7)]⟩,
            ⟨(some 50), (some (46, true)), .b2s, [.tmp 49]⟩,
            ⟨(some 51), (some (46, true)), (.p (.seq false)), [.tmp 48, .tmp 50]⟩,
            ⟨(some 52), none, (.p .pick), [.tmp 46, .tmp 51, .const (.bool false)]⟩,
            ⟨(some 53), none, (.p .mv), [.tmp 52]⟩,
            ⟨(some 54), (some (53, true)), (.p .mv), [.tmp 4]⟩,
            ⟨(some 55), (some (53, true)), (.p (.cmp .eql)), [.tmp 54, .const (.int .i64 0)]⟩,
            ⟨(some 56), none, (.p .pick), [.tmp 53, .tmp 55, .const (.bool false)]⟩,
            ⟨(some 57), none, (.p .mv), [.tmp 56]⟩,
            ⟨(some 58), (some (57, true)), (.p .mv), [.tmp 5]⟩,
            ⟨(some 59), (some (57, true)), (.p (.cmp .eql)), [.tmp 58, .const (.int .i64 0)]⟩,
            ⟨(some 60), none, (.p .pick), [.tmp 57, .tmp 59, .const (.bool false)]⟩,
            ⟨(some 61), none, (.p .mv), [.tmp 60]⟩,
            ⟨(some 62), (some (61, true)), (.p .mv), [.tmp 7]⟩,
            ⟨(some 63), (some (61, true)), (.p (.cmp .eql)), [.tmp 62, .const (.int .i64 0)]⟩,
            ⟨(some 64), none, (.p .pick), [.tmp 61, .tmp 63, .const (.bool false)]⟩,
            ⟨(some 0), none, (.p .mv), [.tmp 64]⟩] (.pu 0 (.act true 1 [0] (.act true 2 [] (.act true 3 [2] (.pu 4 (.pu 5 (.pu 6 (.act true 7 [5, 6] (.act true 8 [5] (.act true 9 [5, 8] (.pu 10 (.pu 11 (.pu 12 (.pu 13 (.pu 14 (.pu 15 (.pu 16 (.pu 17 (.pu 18 (.pu 19 (.pu 20 (.pu 21 (.pu 22 (.pu 23 (.pu 24 .done))))))))))))))) .stop) .stop) (.act false 8 [5] (.act true 7 [5, 6] (.act true 9 [5, 8] (.pu 10 (.pu 11 (.pu 12 (.pu 13 (.pu 14 (.pu 15 (.pu 16 (.pu 17 (.pu 18 (.pu 19 (.pu 20 (.pu 21 (.pu 22 (.pu 23 (.pu 24 .done))))))))))))))) .stop) (.act false 9 [5, 8] (.act true 7 [5, 6] (.pu 10 (.pu 11 (.pu 12 (.pu 13 (.pu 14 (.pu 15 (.pu 16 (.pu 17 (.pu 18 (.pu 19 (.pu 20 (.pu 21 (.pu 22 (.pu 23 (.pu 24 .done))))))))))))))) .stop) .stop)) .stop))))) .stop) .stop) (.act false 2 [] (.act true 1 [0] (.act true 3 [2] (.pu 4 (.pu 5 (.pu 6 (.act true 7 [5, 6] (.act true 8 [5] (.act true 9 [5, 8] (.pu 10 (.pu 11 (.pu 12 (.pu 13 (.pu 14 (.pu 15 (.pu 16 (.pu 17 (.pu 18 (.pu 19 (.pu 20 (.pu 21 (.pu 22 (.pu 23 (.pu 24 .done))))))))))))))) .stop) .stop) (.act false 8 [5] (.act true 7 [5, 6] (.act true 9 [5, 8] (.pu 10 (.pu 11 (.pu 12 (.pu 13 (.pu 14 (.pu 15 (.pu 16 (.pu 17 (.pu 18 (.pu 19 (.pu 20 (.pu 21 (.pu 22 (.pu 23 (.pu 24 .done))))))))))))))) .stop) (.act false 9 [5, 8] (.act true 7 [5, 6] (.pu 10 (.pu 11 (.pu 12 (.pu 13 (.pu 14 (.pu 15 (.pu 16 (.pu 17 (.pu 18 (.pu 19 (.pu 20 (.pu 21 (.pu 22 (.pu 23 (.pu 24 .done))))))))))))))) .stop) .stop)) .stop))))) .stop) (.act false 3 [2] (.act true 1 [0] (.pu 4 (.pu 5 (.pu 6 (.act true 7 [5, 6] (.act true 8 [5] (.act true 9 [5, 8] (.pu 10 (.pu 11 (.pu 12 (.pu 13 (.pu 14 (.pu 15 (.pu 16 (.pu 17 (.pu 18 (.pu 19 (.pu 20 (.pu 21 (.pu 22 (.pu 23 (.pu 24 .done))))))))))))))) .stop) .stop) (.act false 8 [5] (.act true 7 [5, 6] (.act true 9 [5, 8] (.pu 10 (.pu 11 (.pu 12 (.pu 13 (.pu 14 (.pu 15 (.pu 16 (.pu 17 (.pu 18 (.pu 19 (.pu 20 (.pu 21 (.pu 22 (.pu 23 (.pu 24 .done))))))))))))))) .stop) (.act false 9 [5, 8] (.act true 7 [5, 6] (.pu 10 (.pu 11 (.pu 12 (.pu 13 (.pu 14 (.pu 15 (.pu 16 (.pu 17 (.pu 18 (.pu 19 (.pu 20 (.pu 21 (.pu 22 (.pu 23 (.pu 24 .done))))))))))))))) .stop) .stop)) .stop))))) .stop) .stop)) .stop))))
          .ret))))))))),
 [.t 0]⟩
theorem ir8_ok : cFn Try.prog Try.f8 = some ir8 := by kernel_rfl

/- pumice/back.New -/
def ir9 : FIR := ⟨16,
 (.seq
  (.ops [⟨(some 2), none, (.p .mv), [.const (.pointer none)]⟩,
    ⟨(some 3), none, (.p .mv), [.const (.int .i64 0)]⟩])
  (.seq
   (.seq
    (.ops [⟨(some 4), none, (.p .mv), [.tmp 0]⟩,
      ⟨(some 5), none, (.p (.cmp .lss)), [.tmp 4, .const (.int .i64 0)]⟩,
      ⟨(some 6), none, (.p .mv), [.tmp 5]⟩,
      ⟨(some 7), (some (6, false)), (.p .mv), [.tmp 0]⟩,
      ⟨(some 8), (some (6, false)), (.p (.cmp .gtr)), [.tmp 7, .const (.int .i64 4096)]⟩,
      ⟨(some 9), none, (.p .pick), [.tmp 6, .const (.bool true), .tmp 8]⟩])
    (.cond (.tmp 9)
     (.seq
      (.ops [⟨(some 2), none, (.p .mv), [.const (.pointer none)]⟩,
        ⟨(some 3), none, (.p .mv), [.const (.int .i64 1)]⟩])
      .ret)
     .skip))
   (.seq
    (.draw [⟨(some 10), none, (.p .mv), [.tmp 0]⟩,
      ⟨(some 11), none, (.mkS 65 256 256 (Array.replicate 256 (.int .u8 0))), [.tmp 10, .tmp 10]⟩,
      ⟨(some 12), none, (.p .mv), [.tmp 0]⟩,
      ⟨(some 13), none, (.mkS 65 256 256 (Array.replicate 256 (.int .u8 0))), [.tmp 12, .tmp 12]⟩,
      ⟨(some 14), none, (.p (.bldS #[(.slice none 0 0), (.slice none 0 0), (.slice none 0 0), (.bool false), (.int .i64 0), (.int .i64 0)] #[(0, 1), (1, 1), (2, 1), (3, 1), (4, 1), (5, 1)] [0, 1, 4])), [.tmp 11, .tmp 13, .const (.int .i64 (-1))]⟩,
      ⟨(some 15), none, (.box 62), [.tmp 14]⟩,
      ⟨(some 2), none, (.p .mv), [.tmp 15]⟩,
      ⟨(some 3), none, (.p .mv), [.const (.int .i64 0)]⟩] (.pu 0 (.pu 2 (.act true 1 [0] (.act true 3 [2] (.pu 4 (.act true 5 [4] (.pu 6 (.pu 7 .done)) .stop)) .stop) (.act false 3 [2] (.act true 1 [0] (.pu 4 (.act true 5 [4] (.pu 6 (.pu 7 .done)) .stop)) .stop) .stop)))))
    .ret))),
 [.t 2, .t 3]⟩
theorem ir9_ok : cFn Try.prog Try.f9 = some ir9 := by kernel_rfl

/- pumice/pumicelaw08.few -/
def ir10 : FIR := ⟨8,
 (.seq
  (.ops [⟨(some 2), none, (.p .mv), [.const (.slice none 0 0)]⟩])
  (.seq
   (.ops [⟨(some 3), none, (.p .mv), [.tmp 0]⟩,
     ⟨(some 4), none, (.p .mv), [.tmp 0]⟩,
     ⟨(some 5), none, (.p .lenS), [.tmp 4]⟩,
     ⟨(some 6), none, (.p .min), [.tmp 5, .const (.int .i64 100)]⟩,
     ⟨(some 7), none, (.p (.cutS 6 false true false)), [.tmp 3, .tmp 6]⟩,
     ⟨(some 2), none, (.p .mv), [.tmp 7]⟩])
   .ret)),
 [.t 2]⟩
theorem ir10_ok : cFn Try.prog Try.f10 = some ir10 := by kernel_rfl

/- pumice/pumicelaw08.does -/
def ir11 : FIR := ⟨32,
 (.seq
  (.ops [⟨(some 3), none, (.box 31), [.tmp 1]⟩,
    ⟨(some 4), none, (.p .mv), [.const (.int .i64 0)]⟩])
  (.seq
   (.seq
    (.ops [⟨(some 5), none, (.p (.faddr 0)), [.tmp 3]⟩,
      ⟨(some 6), none, .load1, [.tmp 5]⟩,
      ⟨(some 7), none, (.p (.bin .rem)), [.tmp 6, .const (.int .u8 5)]⟩])
    (.block 0
     (.seq
      (.ops [⟨(some 9), none, (.p (.cmp .eql)), [.tmp 7, .const (.int .u8 0)]⟩,
        ⟨(some 8), none, (.p .mv), [.tmp 9]⟩])
      (.cond (.tmp 8)
       (.seq
        (.draw [⟨(some 10), none, (.p .mv), [.tmp 0]⟩,
          ⟨(some 11), none, (.p (.faddr 1)), [.tmp 3]⟩,
          ⟨(some 12), none, .load1, [.tmp 11]⟩,
          ⟨(some 13), none, (.loadN 6), [.tmp 3]⟩,
          ⟨(some 14), none, (.call 16), [.tmp 13]⟩,
          ⟨(some 15), none, (.call 14), [.tmp 10, .tmp 12, .tmp 14]⟩,
          ⟨(some 4), none, (.p .mv), [.tmp 15]⟩] (.pu 0 (.pu 1 (.fl 2 (.fl 3 (.act true 4 [3] (.act true 5 [0, 2, 4] (.pu 6 .done) .stop) .stop))))))
        .ret)
       (.seq
        (.ops [⟨(some 17), none, (.p (.cmp .eql)), [.tmp 7, .const (.int .u8 1)]⟩,
          ⟨(some 16), none, (.p .mv), [.tmp 17]⟩])
        (.cond (.tmp 16)
         (.seq
          (.ops [⟨(some 18), none, (.p .mv), [.tmp 0]⟩,
            ⟨(some 19), none, (.call 25), [.tmp 18]⟩,
            ⟨(some 4), none, (.p .mv), [.tmp 19]⟩])
          .ret)
         (.seq
          (.ops [⟨(some 21), none, (.p (.cmp .eql)), [.tmp 7, .const (.int .u8 2)]⟩,
            ⟨(some 20), none, (.p .mv), [.tmp 21]⟩])
          (.cond (.tmp 20)
           (.ops [⟨(some 22), none, (.p .mv), [.tmp 0]⟩,
             ⟨(some 23), none, (.p (.faddr 2)), [.tmp 3]⟩,
             ⟨(some 24), none, .load1, [.tmp 23]⟩,
             ⟨(some 25), none, (.call 17), [.tmp 22, .tmp 24]⟩])
           (.seq
            (.ops [⟨(some 27), none, (.p (.cmp .eql)), [.tmp 7, .const (.int .u8 3)]⟩,
              ⟨(some 26), none, (.p .mv), [.tmp 27]⟩])
            (.cond (.tmp 26)
             (.ops [⟨(some 28), none, (.p .mv), [.tmp 0]⟩,
               ⟨(some 29), none, (.p (.faddr 5)), [.tmp 3]⟩,
               ⟨(some 30), none, .load1, [.tmp 29]⟩,
               ⟨(some 31), none, (.call 12), [.tmp 28, .tmp 30]⟩])
             .skip))))))))))
   (.seq
    (.ops [⟨(some 4), none, (.p .mv), [.const (.int .i64 0)]⟩])
    .ret))),
 [.t 4]⟩
theorem ir11_ok : cFn Try.prog Try.f11 = some ir11 := by kernel_rfl

/- (*pumice/back.Disk).Crash -/
def ir12 : FIR := ⟨52,
 (.seq
  (.seq
   (.ops [⟨(some 6), none, (.p .mv), [.tmp 0]⟩,
     ⟨(some 7), none, (.p (.isnil false)), [.tmp 6, .const (.pointer none)]⟩])
   (.cond (.tmp 7)
    .ret
    .skip))
  (.seq
   (.seq
    (.ops [⟨(some 8), none, (.p .mv), [.tmp 0]⟩,
      ⟨(some 9), none, (.p .nilchk), [.tmp 8]⟩,
      ⟨(some 10), none, (.p (.faddr 2)), [.tmp 9]⟩,
      ⟨(some 11), none, .load1, [.tmp 10]⟩,
      ⟨(some 12), none, (.p .lenS), [.tmp 11]⟩,
      ⟨(some 13), none, (.p .mv), [.const (.int .i64 0)]⟩])
    (.block 0
     (.loop
      (.seq
       (.ops [⟨(some 14), none, (.p (.cmp .lss)), [.tmp 13, .tmp 12]⟩])
       (.seq
        (.cond (.tmp 14)
         .skip
         (.exit 0))
        (.seq
         (.block 1
          (.seq
           (.ops [⟨(some 15), none, (.p .mv), [.tmp 13]⟩,
             ⟨(some 16), none, (.p (.iaddrS 257)), [.tmp 11, .tmp 13]⟩,
             ⟨(some 17), none, (.loadN 257), [.tmp 16]⟩,
             ⟨(some 5), none, (.alloc 67 (#[(.int .i64 0)] ++ Array.replicate 256 (.int .u8 0))), []⟩,
             ⟨(some 4), none, (.p .mv), [.tmp 15]⟩,
             ⟨none, none, (.storeN 257), [.tmp 5, .tmp 17]⟩])
           (.seq
            (.ops [⟨(some 18), none, (.p .mv), [.tmp 1]⟩,
              ⟨(some 19), none, (.p .mv), [.tmp 4]⟩,
              ⟨(some 20), none, (.p (.bin .and)), [.tmp 19, .const (.int .i64 63)]⟩,
              ⟨(some 21), none, (.p (.bin .shr)), [.tmp 18, .tmp 20]⟩,
              ⟨(some 22), none, (.p (.bin .and)), [.tmp 21, .const (.int .u64 1)]⟩,
              ⟨(some 23), none, (.p (.cmp .eql)), [.tmp 22, .const (.int .u64 1)]⟩])
            (.cond (.tmp 23)
             (.draw [⟨(some 24), none, (.p .mv), [.tmp 0]⟩,
               ⟨(some 25), none, (.p .nilchk), [.tmp 24]⟩,
               ⟨(some 26), none, (.p (.faddr 1)), [.tmp 25]⟩,
               ⟨(some 27), none, .load1, [.tmp 26]⟩,
               ⟨(some 28), none, (.p (.faddr 0)), [.tmp 5]⟩,
               ⟨(some 29), none, .load1, [.tmp 28]⟩,
               ⟨(some 30), none, (.p (.faddr 1)), [.tmp 5]⟩,
               ⟨(some 31), none, (.loadN 256), [.tmp 30]⟩,
               ⟨(some 32), none, (.p (.iaddrS 256)), [.tmp 27, .tmp 29]⟩,
               ⟨none, none, (.storeN 256), [.tmp 32, .tmp 31]⟩] (.pu 0 (.pu 1 (.pu 2 (.pu 4 (.pu 6 (.fl 3 (.fl 5 (.fl 7 (.pu 8 (.act true 9 [0, 1, 2, 3, 4, 5, 6, 7, 8] .done .stop)))))))))))
             .skip))))
         (.ops [⟨(some 33), none, (.p (.bin .add)), [.tmp 13, .const (.int .i64 1)]⟩,
           ⟨(some 13), none, (.p .mv), [.tmp 33]⟩])))))))
   (.seq
    (.draw [⟨(some 34), none, (.p .mv), [.tmp 0]⟩,
      ⟨(some 35), none, (.p .nilchk), [.tmp 34]⟩,
      ⟨(some 36), none, (.p (.faddr 0)), [.tmp 35]⟩,
      ⟨(some 37), none, .load1, [.tmp 36]⟩,
      ⟨(some 38), none, (.p .mv), [.tmp 0]⟩,
      ⟨(some 39), none, (.p .nilchk), [.tmp 38]⟩,
      ⟨(some 40), none, (.p (.faddr 1)), [.tmp 39]⟩,
      ⟨(some 41), none, .load1, [.tmp 40]⟩,
      ⟨(some 42), none, (.cpy 59 256), [.tmp 37, .tmp 41]⟩] (.pu 0 (.pu 1 (.pu 2 (.pu 4 (.pu 5 (.pu 6 (.fl 3 (.fl 7 (.act true 8 [3, 7] .done .stop))))))))))
    (.ops [⟨(some 43), none, (.p .mv), [.tmp 0]⟩,
      ⟨(some 44), none, (.p .mv), [.tmp 0]⟩,
      ⟨(some 45), none, (.p .mv), [.tmp 0]⟩,
      ⟨(some 46), none, (.p .nilchk), [.tmp 43]⟩,
      ⟨(some 47), none, (.p (.faddr 2)), [.tmp 46]⟩,
      ⟨none, none, .store1, [.tmp 47, .const (.slice none 0 0)]⟩,
      ⟨(some 48), none, (.p .nilchk), [.tmp 44]⟩,
      ⟨(some 49), none, (.p (.faddr 3)), [.tmp 48]⟩,
      ⟨none, none, .store1, [.tmp 49, .const (.bool false)]⟩,
      ⟨(some 50), none, (.p .nilchk), [.tmp 45]⟩,
      ⟨(some 51), none, (.p (.faddr 4)), [.tmp 50]⟩,
      ⟨none, none, .store1, [.tmp 51, .const (.int .i64 (-1))]⟩])))),
 []⟩
theorem ir12_ok : cFn Try.prog Try.f12 = some ir12 := by kernel_rfl

/- (*pumice/back.Disk).Read -/
def ir13 : FIR := ⟨27,
 (.seq
  (.ops [⟨(some 4), none, (.p .mv), [.const (.slice none 0 0)]⟩,
    ⟨(some 5), none, (.p .mv), [.const (.int .i64 0)]⟩])
  (.seq
   (.ops [⟨(some 7), none, (.p .mv), [.tmp 0]⟩,
     ⟨(some 8), none, (.p .mv), [.tmp 1]⟩,
     ⟨(some 9), none, (.call 26), [.tmp 7, .tmp 8]⟩,
     ⟨(some 6), none, (.p .mv), [.tmp 9]⟩])
   (.seq
    (.block 0
     (.seq
      (.ops [⟨(some 11), none, (.p .mv), [.tmp 6]⟩,
        ⟨(some 12), none, (.p (.cmp .neq)), [.tmp 11, .const (.int .i64 0)]⟩,
        ⟨(some 10), none, (.p .mv), [.tmp 12]⟩])
      (.cond (.tmp 10)
       (.seq
        (.ops [⟨(some 13), none, (.p .mv), [.tmp 6]⟩,
          ⟨(some 4), none, (.p .mv), [.const (.slice none 0 0)]⟩,
          ⟨(some 5), none, (.p .mv), [.tmp 13]⟩])
        .ret)
       (.seq
        (.ops [⟨(some 15), none, (.p .mv), [.tmp 0]⟩,
          ⟨(some 16), none, (.p .nilchk), [.tmp 15]⟩,
          ⟨(some 17), none, (.p (.faddr 3)), [.tmp 16]⟩,
          ⟨(some 18), none, .load1, [.tmp 17]⟩,
          ⟨(some 14), none, (.p .mv), [.tmp 18]⟩])
        (.cond (.tmp 14)
         (.seq
          (.ops [⟨(some 4), none, (.p .mv), [.const (.slice none 0 0)]⟩,
            ⟨(some 5), none, (.p .mv), [.const (.int .i64 6)]⟩])
          .ret)
         .skip)))))
    (.seq
     (.ops [⟨(some 19), none, (.p .mv), [.tmp 0]⟩,
       ⟨(some 20), none, (.p .nilchk), [.tmp 19]⟩,
       ⟨(some 21), none, (.p (.faddr 0)), [.tmp 20]⟩,
       ⟨(some 22), none, .load1, [.tmp 21]⟩,
       ⟨(some 23), none, (.p .mv), [.tmp 1]⟩,
       ⟨(some 24), none, (.p (.iaddrS 256)), [.tmp 22, .tmp 23]⟩,
       ⟨(some 25), none, (.p (.cutA 256 1 false false false)), [.tmp 24]⟩,
       ⟨(some 26), none, (.call 27), [.tmp 25]⟩,
       ⟨(some 4), none, (.p .mv), [.tmp 26]⟩,
       ⟨(some 5), none, (.p .mv), [.const (.int .i64 0)]⟩])
     .ret)))),
 [.t 4, .t 5]⟩
theorem ir13_ok : cFn Try.prog Try.f13 = some ir13 := by kernel_rfl

/- (*pumice/back.Disk).Write -/
def ir14 : FIR := ⟨48,
 (.seq
  (.ops [⟨(some 6), none, (.p .mv), [.const (.int .i64 0)]⟩])
  (.seq
   (.ops [⟨(some 9), none, (.p .mv), [.tmp 0]⟩,
     ⟨(some 10), none, (.p .mv), [.tmp 1]⟩,
     ⟨(some 11), none, (.call 26), [.tmp 9, .tmp 10]⟩,
     ⟨(some 7), none, (.p .mv), [.tmp 11]⟩])
   (.seq
    (.block 0
     (.seq
      (.ops [⟨(some 13), none, (.p .mv), [.tmp 7]⟩,
        ⟨(some 14), none, (.p (.cmp .neq)), [.tmp 13, .const (.int .i64 0)]⟩,
        ⟨(some 12), none, (.p .mv), [.tmp 14]⟩])
      (.cond (.tmp 12)
       (.seq
        (.ops [⟨(some 15), none, (.p .mv), [.tmp 7]⟩,
          ⟨(some 6), none, (.p .mv), [.tmp 15]⟩])
        .ret)
       (.seq
        (.ops [⟨(some 17), none, (.p .mv), [.tmp 2]⟩,
          ⟨(some 18), none, (.p .lenS), [.tmp 17]⟩,
          ⟨(some 19), none, (.p (.cmp .neq)), [.tmp 18, .const (.int .i64 256)]⟩,
          ⟨(some 16), none, (.p .mv), [.tmp 19]⟩])
        (.cond (.tmp 16)
         (.seq
          (.ops [⟨(some 6), none, (.p .mv), [.const (.int .i64 1)]⟩])
          .ret)
         .skip)))))
    (.seq
     (.seq
      (.ops [⟨(some 20), none, (.p .mv), [.tmp 0]⟩,
        ⟨(some 21), none, (.call 28), [.tmp 20]⟩,
        ⟨(some 8), none, (.p .mv), [.tmp 21]⟩])
      (.seq
       (.ops [⟨(some 22), none, (.p .mv), [.tmp 8]⟩,
         ⟨(some 23), none, (.p (.cmp .neq)), [.tmp 22, .const (.int .i64 0)]⟩])
       (.cond (.tmp 23)
        (.seq
         (.ops [⟨(some 24), none, (.p .mv), [.tmp 8]⟩,
           ⟨(some 6), none, (.p .mv), [.tmp 24]⟩])
         .ret)
        .skip)))
     (.seq
      (.draw [⟨(some 25), none, (.p .mv), [.tmp 0]⟩,
        ⟨(some 26), none, (.p .nilchk), [.tmp 25]⟩,
        ⟨(some 27), none, (.p (.faddr 0)), [.tmp 26]⟩,
        ⟨(some 28), none, .load1, [.tmp 27]⟩,
        ⟨(some 29), none, (.p .mv), [.tmp 1]⟩,
        ⟨(some 30), none, (.p .mv), [.tmp 2]⟩,
        ⟨(some 31), none, (.p (.toArr 256)), [.tmp 30]⟩,
        ⟨(some 32), none, (.loadN 256), [.tmp 31]⟩,
        ⟨(some 33), none, (.p (.iaddrS 256)), [.tmp 28, .tmp 29]⟩,
        ⟨none, none, (.storeN 256), [.tmp 33, .tmp 32]⟩] (.pu 0 (.pu 1 (.pu 2 (.pu 4 (.pu 5 (.pu 6 (.fl 3 (.fl 7 (.pu 8 (.act true 9 [0, 1, 2, 3, 4, 5, 6, 7, 8] .done .stop)))))))))))
      (.seq
       (.draw [⟨(some 34), none, (.p .mv), [.tmp 0]⟩,
         ⟨(some 35), none, (.p .mv), [.tmp 0]⟩,
         ⟨(some 36), none, (.p .nilchk), [.tmp 35]⟩,
         ⟨(some 37), none, (.p (.faddr 2)), [.tmp 36]⟩,
         ⟨(some 38), none, .load1, [.tmp 37]⟩,
         ⟨(some 39), none, (.p .mv), [.tmp 1]⟩,
         ⟨(some 40), none, (.p .mv), [.tmp 2]⟩,
         ⟨(some 41), none, (.p (.toArr 256)), [.tmp 40]⟩,
         ⟨(some 42), none, (.loadN 256), [.tmp 41]⟩,
         ⟨(some 43), none, (.p (.bldS (#[(.int .i64 0)] ++ Array.replicate 256 (.int .u8 0)) #[(0, 1), (1, 256)] [0, 1])), [.tmp 39, .tmp 42]⟩,
         ⟨(some 44), none, (.bldSl 67 1 257 (#[(.int .i64 0)] ++ Array.replicate 256 (.int .u8 0)) [0]), [.tmp 43]⟩,
         ⟨(some 45), none, (.app 60 67 257 264 (#[(.int .i64 0)] ++ Array.replicate 256 (.int .u8 0))), [.tmp 38, .tmp 44]⟩,
         ⟨(some 46), none, (.p .nilchk), [.tmp 34]⟩,
         ⟨(some 47), none, (.p (.faddr 2)), [.tmp 46]⟩,
         ⟨none, none, .store1, [.tmp 47, .tmp 45]⟩] (.pu 0 (.pu 1 (.pu 2 (.pu 3 (.pu 5 (.pu 6 (.pu 7 (.fl 4 (.fl 8 (.pu 9 (.act true 10 [9] (.act true 11 [4, 10] (.pu 12 (.pu 13 (.act true 14 [0, 1, 2, 3, 4, 5, 6, 7, 8, 9, 10, 11, 13] .done .stop))) .stop) .stop))))))))))))
       (.seq
        (.ops [⟨(some 6), none, (.p .mv), [.const (.int .i64 0)]⟩])
        .ret))))))),
 [.t 6]⟩
theorem ir14_ok : cFn Try.prog Try.f14 = some ir14 := by kernel_rfl

/- pumice/pumicelaw08.block -/
def ir15 : FIR := ⟨17,
 (.seq
  (.ops [⟨(some 2), none, (.p .mv), [.const (.slice none 0 0)]⟩])
  (.seq
   (.ops [⟨(some 5), none, (.mkS 5 1 1 #[(.int .u8 0)]), [.const (.int .i64 256), .const (.int .i64 256)]⟩,
     ⟨(some 3), none, (.p .mv), [.tmp 5]⟩])
   (.seq
    (.seq
     (.ops [⟨(some 6), none, (.p .mv), [.tmp 3]⟩,
       ⟨(some 7), none, (.p .lenS), [.tmp 6]⟩,
       ⟨(some 8), none, (.p .mv), [.const (.int .i64 0)]⟩])
     (.block 0
      (.loop
       (.seq
        (.ops [⟨(some 9), none, (.p (.cmp .lss)), [.tmp 8, .tmp 7]⟩])
        (.seq
         (.cond (.tmp 9)
          .skip
          (.exit 0))
         (.seq
          (.block 1
           (.seq
            (.ops [⟨(some 10), none, (.p .mv), [.tmp 8]⟩,
              ⟨(some 4), none, (.p .mv), [.tmp 10]⟩])
            (.ops [⟨(some 11), none, (.p .mv), [.tmp 3]⟩,
              ⟨(some 12), none, (.p .mv), [.tmp 4]⟩,
              ⟨(some 13), none, (.p .mv), [.tmp 0]⟩,
              ⟨(some 14), none, (.p (.iaddrS 1)), [.tmp 11, .tmp 12]⟩,
              ⟨none, none, .store1, [.tmp 14, .tmp 13]⟩])))
          (.ops [⟨(some 15), none, (.p (.bin .add)), [.tmp 8, .const (.int .i64 1)]⟩,
            ⟨(some 8), none, (.p .mv), [.tmp 15]⟩])))))))
    (.seq
     (.ops [⟨(some 16), none, (.p .mv), [.tmp 3]⟩,
       ⟨(some 2), none, (.p .mv), [.tmp 16]⟩])
     .ret)))),
 [.t 2]⟩
theorem ir15_ok : cFn Try.prog Try.f15 = some ir15 := by kernel_rfl

/- pumice/pumicelaw08.bytes -/
def ir16 : FIR := ⟨12,
 (.seq
  (.ops [⟨(some 1), none, (.box 31), [.tmp 0]⟩,
    ⟨(some 2), none, (.p .mv), [.const (.slice none 0 0)]⟩])
  (.seq
   (.seq
    (.ops [⟨(some 3), none, (.p (.faddr 4)), [.tmp 1]⟩,
      ⟨(some 4), none, .load1, [.tmp 3]⟩])
    (.cond (.tmp 4)
     (.seq
      (.ops [⟨(some 5), none, (.p (.faddr 3)), [.tmp 1]⟩,
        ⟨(some 6), none, .load1, [.tmp 5]⟩,
        ⟨(some 7), none, (.call 15), [.tmp 6]⟩,
        ⟨(some 8), none, (.p (.cutS 1 true false false)), [.tmp 7, .const (.int .i64 1)]⟩,
        ⟨(some 2), none, (.p .mv), [.tmp 8]⟩])
      .ret)
     .skip))
   (.seq
    (.ops [⟨(some 9), none, (.p (.faddr 3)), [.tmp 1]⟩,
      ⟨(some 10), none, .load1, [.tmp 9]⟩,
      ⟨(some 11), none, (.call 15), [.tmp 10]⟩,
      ⟨(some 2), none, (.p .mv), [.tmp 11]⟩])
    .ret))),
 [.t 2]⟩
theorem ir16_ok : cFn Try.prog Try.f16 = some ir16 := by kernel_rfl

/- (*pumice/back.Disk).Cut -/
def ir17 : FIR := ⟨18,
 (.seq
  (.ops [⟨(some 4), none, (.p .mv), [.tmp 0]⟩,
    ⟨(some 5), none, (.p (.isnil true)), [.tmp 4, .const (.pointer none)]⟩,
    ⟨(some 6), none, (.p .mv), [.tmp 5]⟩,
    ⟨(some 7), (some (6, true)), (.p .mv), [.tmp 0]⟩,
    ⟨(some 8), (some (6, true)), (.p .nilchk), [.tmp 7]⟩,
    ⟨(some 9), (some (6, true)), (.p (.faddr 3)), [.tmp 8]⟩,
    ⟨(some 10), (some (6, true)), .load1, [.tmp 9]⟩,
    ⟨(some 11), (some (6, true)), (.p .not), [.tmp 10]⟩,
    ⟨(some 12), none, (.p .pick), [.tmp 6, .tmp 11, .const (.bool false)]⟩])
  (.cond (.tmp 12)
   (.ops [⟨(some 13), none, (.p .mv), [.tmp 0]⟩,
     ⟨(some 14), none, (.p .mv), [.tmp 1]⟩,
     ⟨(some 15), none, (.p .max), [.tmp 14, .const (.int .i64 (-1))]⟩,
     ⟨(some 16), none, (.p .nilchk), [.tmp 13]⟩,
     ⟨(some 17), none, (.p (.faddr 4)), [.tmp 16]⟩,
     ⟨none, none, .store1, [.tmp 17, .tmp 15]⟩])
   .skip)),
 []⟩
theorem ir17_ok : cFn Try.prog Try.f17 = some ir17 := by kernel_rfl

/- (*pumice/back.Disk).Done -/
def ir18 : FIR := ⟨9,
 (.seq
  (.ops [⟨(some 2), none, (.p .mv), [.const (.int .i64 0)]⟩])
  (.seq
   (.seq
    (.ops [⟨(some 3), none, (.p .mv), [.tmp 0]⟩,
      ⟨(some 4), none, (.p (.isnil false)), [.tmp 3, .const (.pointer none)]⟩])
    (.cond (.tmp 4)
     (.seq
      (.ops [⟨(some 2), none, (.p .mv), [.const (.int .i64 0)]⟩])
      .ret)
     .skip))
   (.seq
    (.ops [⟨(some 5), none, (.p .mv), [.tmp 0]⟩,
      ⟨(some 6), none, (.p .nilchk), [.tmp 5]⟩,
      ⟨(some 7), none, (.p (.faddr 5)), [.tmp 6]⟩,
      ⟨(some 8), none, .load1, [.tmp 7]⟩,
      ⟨(some 2), none, (.p .mv), [.tmp 8]⟩])
    .ret))),
 [.t 2]⟩
theorem ir18_ok : cFn Try.prog Try.f18 = some ir18 := by kernel_rfl

/- (*pumice/back.Disk).Dead -/
def ir19 : FIR := ⟨11,
 (.seq
  (.ops [⟨(some 2), none, (.p .mv), [.const (.bool false)]⟩])
  (.seq
   (.ops [⟨(some 3), none, (.p .mv), [.tmp 0]⟩,
     ⟨(some 4), none, (.p (.isnil true)), [.tmp 3, .const (.pointer none)]⟩,
     ⟨(some 5), none, (.p .mv), [.tmp 4]⟩,
     ⟨(some 6), (some (5, true)), (.p .mv), [.tmp 0]⟩,
     ⟨(some 7), (some (5, true)), (.p .nilchk), [.tmp 6]⟩,
     ⟨(some 8), (some (5, true)), (.p (.faddr 3)), [.tmp 7]⟩,
     ⟨(some 9), (some (5, true)), .load1, [.tmp 8]⟩,
     ⟨(some 10), none, (.p .pick), [.tmp 5, .tmp 9, .const (.bool false)]⟩,
     ⟨(some 2), none, (.p .mv), [.tmp 10]⟩])
   .ret)),
 [.t 2]⟩
theorem ir19_ok : cFn Try.prog Try.f19 = some ir19 := by kernel_rfl

/- pumice/pumiceref08.New -/
def ir20 : FIR := ⟨31,
 (.seq
  (.ops [⟨(some 2), none, (.p .mv), [.const (.pointer none)]⟩,
    ⟨(some 3), none, (.p .mv), [.const (.int .i64 0)]⟩])
  (.seq
   (.seq
    (.ops [⟨(some 6), none, (.p .mv), [.tmp 0]⟩,
      ⟨(some 7), none, (.p (.cmp .lss)), [.tmp 6, .const (.int .i64 0)]⟩,
      ⟨(some 8), none, (.p .mv), [.tmp 7]⟩,
      ⟨(some 9), (some (8, false)), (.p .mv), [.tmp 0]⟩,
      ⟨(some 10), (some (8, false)), (.p (.cmp .gtr)), [.tmp 9, .const (.int .i64 4096)]⟩,
      ⟨(some 11), none, (.p .pick), [.tmp 8, .const (.bool true), .tmp 10]⟩])
    (.cond (.tmp 11)
     (.seq
      (.ops [⟨(some 2), none, (.p .mv), [.const (.pointer none)]⟩,
        ⟨(some 3), none, (.p .mv), [.const (.int .i64 1)]⟩])
      .ret)
     .skip))
   (.seq
    (.ops [⟨(some 12), none, (.p (.bldS #[(.slice none 0 0), (.slice none 0 0), (.bool false), (.int .i64 0), (.int .i64 0)] #[(0, 1), (1, 1), (2, 1), (3, 1), (4, 1)] [3])), [.const (.int .i64 (-1))]⟩,
      ⟨(some 13), none, (.box 54), [.tmp 12]⟩,
      ⟨(some 4), none, (.p .mv), [.tmp 13]⟩])
    (.seq
     (.seq
      (.ops [⟨(some 5), none, (.p .mv), [.const (.int .i64 0)]⟩])
      (.block 0
       (.loop
        (.seq
         (.seq
          (.ops [⟨(some 14), none, (.p .mv), [.tmp 5]⟩,
            ⟨(some 15), none, (.p .mv), [.tmp 0]⟩,
            ⟨(some 16), none, (.p (.cmp .lss)), [.tmp 14, .tmp 15]⟩])
          (.cond (.tmp 16)
           .skip
           (.exit 0)))
         (.seq
          (.block 1
           (.draw [⟨(some 19), none, (.p .mv), [.tmp 4]⟩,
             ⟨(some 20), none, (.p .mv), [.tmp 4]⟩,
             ⟨(some 21), none, (.p .nilchk), [.tmp 20]⟩,
             ⟨(some 22), none, (.p (.faddr 0)), [.tmp 21]⟩,
             ⟨(some 23), none, .load1, [.tmp 22]⟩,
             ⟨(some 24), none, (.mkS 5 1 1 #[(.int .u8 0)]), [.const (.int .i64 256), .const (.int .i64 256)]⟩,
             ⟨(some 25), none, .b2s, [.tmp 24]⟩,
             ⟨(some 26), none, (.bldSl 9 1 1 #[(.string ⟨#[]⟩)] [0]), [.tmp 25]⟩,
             ⟨(some 27), none, (.app 51 9 1 16 #[(.string ⟨#[]⟩)]), [.tmp 23, .tmp 26]⟩,
             ⟨(some 28), none, (.p .nilchk), [.tmp 19]⟩,
             ⟨(some 29), none, (.p (.faddr 0)), [.tmp 28]⟩,
             ⟨none, none, .store1, [.tmp 29, .tmp 27]⟩] (.pu 0 (.pu 1 (.pu 2 (.pu 3 (.fl 4 (.act true 5 [] (.act true 6 [5] (.act true 7 [6] (.act true 8 [4, 7] (.pu 9 (.pu 10 (.act true 11 [0, 1, 2, 3, 4, 5, 6, 7, 8, 10] .done .stop))) .stop) .stop) .stop) .stop))))))))
          (.ops [⟨(some 17), none, (.p .mv), [.tmp 5]⟩,
            ⟨(some 18), none, (.p (.bin .add)), [.tmp 17, .const (.int .i64 1)]⟩,
            ⟨(some 5), none, (.p .mv), [.tmp 18]⟩]))))))
     (.seq
      (.ops [⟨(some 30), none, (.p .mv), [.tmp 4]⟩,
        ⟨(some 2), none, (.p .mv), [.tmp 30]⟩,
        ⟨(some 3), none, (.p .mv), [.const (.int .i64 0)]⟩])
      .ret))))),
 [.t 2, .t 3]⟩
theorem ir20_ok : cFn Try.prog Try.f20 = some ir20 := by kernel_rfl

/- (*pumice/back.Disk).Copy -/
def ir21 : FIR := ⟨27,
 (.seq
  (.ops [⟨(some 2), none, (.p .mv), [.const (.pointer none)]⟩])
  (.seq
   (.seq
    (.ops [⟨(some 4), none, (.p .mv), [.tmp 0]⟩,
      ⟨(some 5), none, (.p (.isnil false)), [.tmp 4, .const (.pointer none)]⟩])
    (.cond (.tmp 5)
     (.seq
      (.ops [⟨(some 2), none, (.p .mv), [.const (.pointer none)]⟩])
      .ret)
     .skip))
   (.seq
    (.ops [⟨(some 6), none, (.p .mv), [.tmp 0]⟩,
      ⟨(some 7), none, (.p .nilchk), [.tmp 6]⟩,
      ⟨(some 8), none, (.loadN 6), [.tmp 7]⟩,
      ⟨(some 3), none, (.alloc 62 #[(.slice none 0 0), (.slice none 0 0), (.slice none 0 0), (.bool false), (.int .i64 0), (.int .i64 0)]), []⟩,
      ⟨none, none, (.storeN 6), [.tmp 3, .tmp 8]⟩])
    (.seq
     (.draw [⟨(some 9), none, (.p .mv), [.tmp 0]⟩,
       ⟨(some 10), none, (.p .nilchk), [.tmp 9]⟩,
       ⟨(some 11), none, (.p (.faddr 0)), [.tmp 10]⟩,
       ⟨(some 12), none, .load1, [.tmp 11]⟩,
       ⟨(some 13), none, (.call 29), [.tmp 12]⟩,
       ⟨(some 14), none, (.p .mv), [.tmp 0]⟩,
       ⟨(some 15), none, (.p .nilchk), [.tmp 14]⟩,
       ⟨(some 16), none, (.p (.faddr 1)), [.tmp 15]⟩,
       ⟨(some 17), none, .load1, [.tmp 16]⟩,
       ⟨(some 18), none, (.call 29), [.tmp 17]⟩,
       ⟨(some 19), none, (.p .mv), [.tmp 0]⟩,
       ⟨(some 20), none, (.p .nilchk), [.tmp 19]⟩,
       ⟨(some 21), none, (.p (.faddr 2)), [.tmp 20]⟩,
       ⟨(some 22), none, .load1, [.tmp 21]⟩,
       ⟨(some 23), none, (.call 30), [.tmp 22]⟩,
       ⟨(some 24), none, (.p (.faddr 0)), [.tmp 3]⟩,
       ⟨none, none, .store1, [.tmp 24, .tmp 13]⟩,
       ⟨(some 25), none, (.p (.faddr 1)), [.tmp 3]⟩,
       ⟨none, none, .store1, [.tmp 25, .tmp 18]⟩,
       ⟨(some 26), none, (.p (.faddr 2)), [.tmp 3]⟩,
       ⟨none, none, .store1, [.tmp 26, .tmp 23]⟩] (.pu 0 (.pu 1 (.pu 2 (.pu 5 (.pu 6 (.pu 7 (.pu 10 (.pu 11 (.pu 12 (.fl 3 (.fl 8 (.fl 13 (.act true 4 [3] (.act true 9 [4, 8] (.act true 14 [9, 13] (.pu 15 (.act true 16 [0, 1, 2, 3, 4, 8, 9, 13, 14, 15] (.pu 17 (.act true 18 [0, 1, 2, 3, 4, 5, 6, 7, 8, 9, 13, 14, 15, 16, 17] (.pu 19 (.act true 20 [0, 1, 2, 3, 4, 5, 6, 7, 8, 9, 10, 11, 12, 13, 14, 15, 16, 17, 18, 19] .done .stop)) .stop)) .stop)) .stop) .stop) .stop))))))))))))))
     (.seq
      (.ops [⟨(some 2), none, (.p .mv), [.tmp 3]⟩])
      .ret))))),
 [.t 2]⟩
theorem ir21_ok : cFn Try.prog Try.f21 = some ir21 := by kernel_rfl

/- pumice/pumicelaw08.model -/
def ir22 : FIR := ⟨33,
 (.seq
  (.ops [⟨(some 3), none, (.box 31), [.tmp 1]⟩,
    ⟨(some 4), none, (.p .mv), [.const (.int .i64 0)]⟩])
  (.seq
   (.seq
    (.ops [⟨(some 5), none, (.p (.faddr 0)), [.tmp 3]⟩,
      ⟨(some 6), none, .load1, [.tmp 5]⟩,
      ⟨(some 7), none, (.p (.bin .rem)), [.tmp 6, .const (.int .u8 5)]⟩])
    (.block 0
     (.seq
      (.ops [⟨(some 9), none, (.p (.cmp .eql)), [.tmp 7, .const (.int .u8 0)]⟩,
        ⟨(some 8), none, (.p .mv), [.tmp 9]⟩])
      (.cond (.tmp 8)
       (.seq
        (.draw [⟨(some 10), none, (.p .mv), [.tmp 0]⟩,
          ⟨(some 11), none, (.p (.faddr 1)), [.tmp 3]⟩,
          ⟨(some 12), none, .load1, [.tmp 11]⟩,
          ⟨(some 13), none, (.loadN 6), [.tmp 3]⟩,
          ⟨(some 14), none, (.call 16), [.tmp 13]⟩,
          ⟨(some 15), none, .b2s, [.tmp 14]⟩,
          ⟨(some 16), none, (.call 31), [.tmp 10, .tmp 12, .tmp 15]⟩,
          ⟨(some 4), none, (.p .mv), [.tmp 16]⟩] (.pu 0 (.pu 1 (.fl 2 (.fl 3 (.act true 4 [3] (.act true 5 [4] (.act true 6 [0, 2, 4, 5] (.pu 7 .done) .stop) .stop) .stop))))))
        .ret)
       (.seq
        (.ops [⟨(some 18), none, (.p (.cmp .eql)), [.tmp 7, .const (.int .u8 1)]⟩,
          ⟨(some 17), none, (.p .mv), [.tmp 18]⟩])
        (.cond (.tmp 17)
         (.seq
          (.ops [⟨(some 19), none, (.p .mv), [.tmp 0]⟩,
            ⟨(some 20), none, (.call 32), [.tmp 19]⟩,
            ⟨(some 4), none, (.p .mv), [.tmp 20]⟩])
          .ret)
         (.seq
          (.ops [⟨(some 22), none, (.p (.cmp .eql)), [.tmp 7, .const (.int .u8 2)]⟩,
            ⟨(some 21), none, (.p .mv), [.tmp 22]⟩])
          (.cond (.tmp 21)
           (.ops [⟨(some 23), none, (.p .mv), [.tmp 0]⟩,
             ⟨(some 24), none, (.p (.faddr 2)), [.tmp 3]⟩,
             ⟨(some 25), none, .load1, [.tmp 24]⟩,
             ⟨(some 26), none, (.call 33), [.tmp 23, .tmp 25]⟩])
           (.seq
            (.ops [⟨(some 28), none, (.p (.cmp .eql)), [.tmp 7, .const (.int .u8 3)]⟩,
              ⟨(some 27), none, (.p .mv), [.tmp 28]⟩])
            (.cond (.tmp 27)
             (.ops [⟨(some 29), none, (.p .mv), [.tmp 0]⟩,
               ⟨(some 30), none, (.p (.faddr 5)), [.tmp 3]⟩,
               ⟨(some 31), none, .load1, [.tmp 30]⟩,
               ⟨(some 32), none, (.call 34), [.tmp 29, .tmp 31]⟩])
             .skip))))))))))
   (.seq
    (.ops [⟨(some 4), none, (.p .mv), [.const (.int .i64 0)]⟩])
    .ret))),
 [.t 4]⟩
theorem ir22_ok : cFn Try.prog Try.f22 = some ir22 := by kernel_rfl

/- (*pumice/back.Disk).Blocks -/
def ir23 : FIR := ⟨10,
 (.seq
  (.ops [⟨(some 2), none, (.p .mv), [.const (.int .i64 0)]⟩])
  (.seq
   (.seq
    (.ops [⟨(some 3), none, (.p .mv), [.tmp 0]⟩,
      ⟨(some 4), none, (.p (.isnil false)), [.tmp 3, .const (.pointer none)]⟩])
    (.cond (.tmp 4)
     (.seq
      (.ops [⟨(some 2), none, (.p .mv), [.const (.int .i64 0)]⟩])
      .ret)
     .skip))
   (.seq
    (.ops [⟨(some 5), none, (.p .mv), [.tmp 0]⟩,
      ⟨(some 6), none, (.p .nilchk), [.tmp 5]⟩,
      ⟨(some 7), none, (.p (.faddr 0)), [.tmp 6]⟩,
      ⟨(some 8), none, .load1, [.tmp 7]⟩,
      ⟨(some 9), none, (.p .lenS), [.tmp 8]⟩,
      ⟨(some 2), none, (.p .mv), [.tmp 9]⟩])
    .ret))),
 [.t 2]⟩
theorem ir23_ok : cFn Try.prog Try.f23 = some ir23 := by kernel_rfl

/- (*pumice/pumiceref08.Disk).Read -/
def ir24 : FIR := ⟨57,
 (.seq
  (.ops [⟨(some 4), none, (.p .mv), [.const (.string ⟨#[]⟩)]⟩,
    ⟨(some 5), none, (.p .mv), [.const (.int .i64 0)]⟩])
  (.seq
   (.seq
    (.ops [⟨(some 7), none, (.p .mv), [.tmp 1]⟩,
      ⟨(some 8), none, (.p (.cmp .lss)), [.tmp 7, .const (.int .i64 0)]⟩,
      ⟨(some 9), none, (.p .mv), [.tmp 8]⟩,
      ⟨(some 10), (some (9, false)), (.p .mv), [.tmp 1]⟩,
      ⟨(some 11), (some (9, false)), (.p .mv), [.tmp 0]⟩,
      ⟨(some 12), (some (9, false)), (.p .nilchk), [.tmp 11]⟩,
      ⟨(some 13), (some (9, false)), (.p (.faddr 0)), [.tmp 12]⟩,
      ⟨(some 14), (some (9, false)), .load1, [.tmp 13]⟩,
      ⟨(some 15), (some (9, false)), (.p .lenS), [.tmp 14]⟩,
      ⟨(some 16), (some (9, false)), (.p (.cmp .geq)), [.tmp 10, .tmp 15]⟩,
      ⟨(some 17), none, (.p .pick), [.tmp 9, .const (.bool true), .tmp 16]⟩])
    (.cond (.tmp 17)
     (.seq
      (.ops [⟨(some 4), none, (.p .mv), [.const (.string ⟨#[]⟩)]⟩,
        ⟨(some 5), none, (.p .mv), [.const (.int .i64 1)]⟩])
      .ret)
     .skip))
   (.seq
    (.seq
     (.ops [⟨(some 18), none, (.p .mv), [.tmp 0]⟩,
       ⟨(some 19), none, (.p .nilchk), [.tmp 18]⟩,
       ⟨(some 20), none, (.p (.faddr 2)), [.tmp 19]⟩,
       ⟨(some 21), none, .load1, [.tmp 20]⟩])
     (.cond (.tmp 21)
      (.seq
       (.ops [⟨(some 4), none, (.p .mv), [.const (.string ⟨#[]⟩)]⟩,
         ⟨(some 5), none, (.p .mv), [.const (.int .i64 6)]⟩])
       .ret)
      .skip))
    (.seq
     (.seq
      (.ops [⟨(some 22), none, (.p .mv), [.tmp 0]⟩,
        ⟨(some 23), none, (.p .nilchk), [.tmp 22]⟩,
        ⟨(some 24), none, (.p (.faddr 1)), [.tmp 23]⟩,
        ⟨(some 25), none, .load1, [.tmp 24]⟩,
        ⟨(some 26), none, (.p .lenS), [.tmp 25]⟩,
        ⟨(some 27), none, (.p (.bin .sub)), [.tmp 26, .const (.int .i64 1)]⟩,
        ⟨(some 6), none, (.p .mv), [.tmp 27]⟩])
      (.block 0
       (.loop
        (.seq
         (.seq
          (.ops [⟨(some 28), none, (.p .mv), [.tmp 6]⟩,
            ⟨(some 29), none, (.p (.cmp .geq)), [.tmp 28, .const (.int .i64 0)]⟩])
          (.cond (.tmp 29)
           .skip
           (.exit 0)))
         (.seq
          (.block 1
           (.seq
            (.ops [⟨(some 32), none, (.p .mv), [.tmp 0]⟩,
              ⟨(some 33), none, (.p .nilchk), [.tmp 32]⟩,
              ⟨(some 34), none, (.p (.faddr 1)), [.tmp 33]⟩,
              ⟨(some 35), none, .load1, [.tmp 34]⟩,
              ⟨(some 36), none, (.p .mv), [.tmp 6]⟩,
              ⟨(some 37), none, (.p (.iaddrS 2)), [.tmp 35, .tmp 36]⟩,
              ⟨(some 38), none, (.p (.faddr 0)), [.tmp 37]⟩,
              ⟨(some 39), none, .load1, [.tmp 38]⟩,
              ⟨(some 40), none, (.p .mv), [.tmp 1]⟩,
              ⟨(some 41), none, (.p (.cmp .eql)), [.tmp 39, .tmp 40]⟩])
            (.cond (.tmp 41)
             (.seq
              (.ops [⟨(some 42), none, (.p .mv), [.tmp 0]⟩,
                ⟨(some 43), none, (.p .nilchk), [.tmp 42]⟩,
                ⟨(some 44), none, (.p (.faddr 1)), [.tmp 43]⟩,
                ⟨(some 45), none, .load1, [.tmp 44]⟩,
                ⟨(some 46), none, (.p .mv), [.tmp 6]⟩,
                ⟨(some 47), none, (.p (.iaddrS 2)), [.tmp 45, .tmp 46]⟩,
                ⟨(some 48), none, (.p (.faddr 1)), [.tmp 47]⟩,
                ⟨(some 49), none, .load1, [.tmp 48]⟩,
                ⟨(some 4), none, (.p .mv), [.tmp 49]⟩,
                ⟨(some 5), none, (.p .mv), [.const (.int .i64 0)]⟩])
              .ret)
             .skip)))
          (.ops [⟨(some 30), none, (.p .mv), [.tmp 6]⟩,
            ⟨(some 31), none, (.p (.bin .sub)), [.tmp 30, .const (.int .i64 1)]⟩,
            ⟨(some 6), none, (.p .mv), [.tmp 31]⟩]))))))
     (.seq
      (.ops [⟨(some 50), none, (.p .mv), [.tmp 0]⟩,
        ⟨(some 51), none, (.p .nilchk), [.tmp 50]⟩,
        ⟨(some 52), none, (.p (.faddr 0)), [.tmp 51]⟩,
        ⟨(some 53), none, .load1, [.tmp 52]⟩,
        ⟨(some 54), none, (.p .mv), [.tmp 1]⟩,
        ⟨(some 55), none, (.p (.iaddrS 1)), [.tmp 53, .tmp 54]⟩,
        ⟨(some 56), none, .load1, [.tmp 55]⟩,
        ⟨(some 4), none, (.p .mv), [.tmp 56]⟩,
        ⟨(some 5), none, (.p .mv), [.const (.int .i64 0)]⟩])
      .ret))))),
 [.t 4, .t 5]⟩
theorem ir24_ok : cFn Try.prog Try.f24 = some ir24 := by kernel_rfl

/- (*pumice/back.Disk).Barrier -/
def ir25 : FIR := ⟨23,
 (.seq
  (.ops [⟨(some 2), none, (.p .mv), [.const (.int .i64 0)]⟩])
  (.seq
   (.seq
    (.ops [⟨(some 4), none, (.p .mv), [.tmp 0]⟩,
      ⟨(some 5), none, (.p (.isnil false)), [.tmp 4, .const (.pointer none)]⟩])
    (.cond (.tmp 5)
     (.seq
      (.ops [⟨(some 2), none, (.p .mv), [.const (.int .i64 2)]⟩])
      .ret)
     .skip))
   (.seq
    (.seq
     (.ops [⟨(some 6), none, (.p .mv), [.tmp 0]⟩,
       ⟨(some 7), none, (.call 28), [.tmp 6]⟩,
       ⟨(some 3), none, (.p .mv), [.tmp 7]⟩])
     (.seq
      (.ops [⟨(some 8), none, (.p .mv), [.tmp 3]⟩,
        ⟨(some 9), none, (.p (.cmp .neq)), [.tmp 8, .const (.int .i64 0)]⟩])
      (.cond (.tmp 9)
       (.seq
        (.ops [⟨(some 10), none, (.p .mv), [.tmp 3]⟩,
          ⟨(some 2), none, (.p .mv), [.tmp 10]⟩])
        .ret)
       .skip)))
    (.seq
     (.draw [⟨(some 11), none, (.p .mv), [.tmp 0]⟩,
       ⟨(some 12), none, (.p .nilchk), [.tmp 11]⟩,
       ⟨(some 13), none, (.p (.faddr 1)), [.tmp 12]⟩,
       ⟨(some 14), none, .load1, [.tmp 13]⟩,
       ⟨(some 15), none, (.p .mv), [.tmp 0]⟩,
       ⟨(some 16), none, (.p .nilchk), [.tmp 15]⟩,
       ⟨(some 17), none, (.p (.faddr 0)), [.tmp 16]⟩,
       ⟨(some 18), none, .load1, [.tmp 17]⟩,
       ⟨(some 19), none, (.cpy 59 256), [.tmp 14, .tmp 18]⟩] (.pu 0 (.pu 1 (.pu 2 (.pu 4 (.pu 5 (.pu 6 (.fl 3 (.fl 7 (.act true 8 [3, 7] .done .stop))))))))))
     (.seq
      (.ops [⟨(some 20), none, (.p .mv), [.tmp 0]⟩,
        ⟨(some 21), none, (.p .nilchk), [.tmp 20]⟩,
        ⟨(some 22), none, (.p (.faddr 2)), [.tmp 21]⟩,
        ⟨none, none, .store1, [.tmp 22, .const (.slice none 0 0)]⟩])
      (.seq
       (.ops [⟨(some 2), none, (.p .mv), [.const (.int .i64 0)]⟩])
       .ret)))))),
 [.t 2]⟩
theorem ir25_ok : cFn Try.prog Try.f25 = some ir25 := by kernel_rfl

/- (*pumice/back.Disk).place -/
def ir26 : FIR := ⟨20,
 (.seq
  (.ops [⟨(some 4), none, (.p .mv), [.const (.int .i64 0)]⟩])
  (.seq
   (.block 0
    (.seq
     (.ops [⟨(some 6), none, (.p .mv), [.tmp 0]⟩,
       ⟨(some 7), none, (.p (.isnil false)), [.tmp 6, .const (.pointer none)]⟩,
       ⟨(some 5), none, (.p .mv), [.tmp 7]⟩])
     (.cond (.tmp 5)
      (.seq
       (.ops [⟨(some 4), none, (.p .mv), [.const (.int .i64 2)]⟩])
       .ret)
      (.seq
       (.ops [⟨(some 9), none, (.p .mv), [.tmp 1]⟩,
         ⟨(some 10), none, (.p (.cmp .lss)), [.tmp 9, .const (.int .i64 0)]⟩,
         ⟨(some 11), none, (.p .mv), [.tmp 10]⟩,
         ⟨(some 12), (some (11, false)), (.p .mv), [.tmp 1]⟩,
         ⟨(some 13), (some (11, false)), (.p .mv), [.tmp 0]⟩,
         ⟨(some 14), (some (11, false)), (.p .nilchk), [.tmp 13]⟩,
         ⟨(some 15), (some (11, false)), (.p (.faddr 0)), [.tmp 14]⟩,
         ⟨(some 16), (some (11, false)), .load1, [.tmp 15]⟩,
         ⟨(some 17), (some (11, false)), (.p .lenS), [.tmp 16]⟩,
         ⟨(some 18), (some (11, false)), (.p (.cmp .geq)), [.tmp 12, .tmp 17]⟩,
         ⟨(some 19), none, (.p .pick), [.tmp 11, .const (.bool true), .tmp 18]⟩,
         ⟨(some 8), none, (.p .mv), [.tmp 19]⟩])
       (.cond (.tmp 8)
        (.seq
         (.ops [⟨(some 4), none, (.p .mv), [.const (.int .i64 1)]⟩])
         .ret)
        .skip)))))
   (.seq
    (.ops [⟨(some 4), none, (.p .mv), [.const (.int .i64 0)]⟩])
    .ret))),
 [.t 4]⟩
theorem ir26_ok : cFn Try.prog Try.f26 = some ir26 := by kernel_rfl

/- slices.Clone[[]byte,byte] -/
def ir27 : FIR := ⟨8,
 (.seq
  (.ops [⟨(some 2), none, (.p .mv), [.const (.slice none 0 0)]⟩])
  (.seq
   (.seq
    (.ops [⟨(some 3), none, (.p .mv), [.tmp 0]⟩,
      ⟨(some 4), none, (.p (.isnil false)), [.tmp 3, .const (.slice none 0 0)]⟩])
    (.cond (.tmp 4)
     (.seq
      (.ops [⟨(some 2), none, (.p .mv), [.const (.slice none 0 0)]⟩])
      .ret)
     .skip))
   (.seq
    (.ops [⟨(some 5), none, (.bldSl 5 0 1 #[] []), []⟩,
      ⟨(some 6), none, (.p .mv), [.tmp 0]⟩,
      ⟨(some 7), none, (.app 35 5 1 1 #[(.int .u8 0)]), [.tmp 5, .tmp 6]⟩,
      ⟨(some 2), none, (.p .mv), [.tmp 7]⟩])
    .ret))),
 [.t 2]⟩
theorem ir27_ok : cFn Try.prog Try.f27 = some ir27 := by kernel_rfl

/- (*pumice/back.Disk).powered -/
def ir28 : FIR := ⟨37,
 (.seq
  (.ops [⟨(some 2), none, (.p .mv), [.const (.int .i64 0)]⟩])
  (.seq
   (.seq
    (.ops [⟨(some 3), none, (.p .mv), [.tmp 0]⟩,
      ⟨(some 4), none, (.p .nilchk), [.tmp 3]⟩,
      ⟨(some 5), none, (.p (.faddr 4)), [.tmp 4]⟩,
      ⟨(some 6), none, .load1, [.tmp 5]⟩,
      ⟨(some 7), none, (.p (.cmp .eql)), [.tmp 6, .const (.int .i64 0)]⟩])
    (.cond (.tmp 7)
     (.ops [⟨(some 8), none, (.p .mv), [.tmp 0]⟩,
       ⟨(some 9), none, (.p .mv), [.tmp 0]⟩,
       ⟨(some 10), none, (.p .nilchk), [.tmp 8]⟩,
       ⟨(some 11), none, (.p (.faddr 3)), [.tmp 10]⟩,
       ⟨none, none, .store1, [.tmp 11, .const (.bool true)]⟩,
       ⟨(some 12), none, (.p .nilchk), [.tmp 9]⟩,
       ⟨(some 13), none, (.p (.faddr 4)), [.tmp 12]⟩,
       ⟨none, none, .store1, [.tmp 13, .const (.int .i64 (-1))]⟩])
     .skip))
   (.seq
    (.seq
     (.ops [⟨(some 14), none, (.p .mv), [.tmp 0]⟩,
       ⟨(some 15), none, (.p .nilchk), [.tmp 14]⟩,
       ⟨(some 16), none, (.p (.faddr 3)), [.tmp 15]⟩,
       ⟨(some 17), none, .load1, [.tmp 16]⟩])
     (.cond (.tmp 17)
      (.seq
       (.ops [⟨(some 2), none, (.p .mv), [.const (.int .i64 6)]⟩])
       .ret)
      .skip))
    (.seq
     (.ops [⟨(some 18), none, (.p .mv), [.tmp 0]⟩,
       ⟨(some 19), none, (.p .nilchk), [.tmp 18]⟩,
       ⟨(some 20), none, (.p (.faddr 5)), [.tmp 19]⟩,
       ⟨(some 21), none, .load1, [.tmp 20]⟩,
       ⟨(some 22), none, (.p (.bin .add)), [.tmp 21, .const (.int .i64 1)]⟩,
       ⟨(some 23), none, (.p .nilchk), [.tmp 18]⟩,
       ⟨(some 24), none, (.p (.faddr 5)), [.tmp 23]⟩,
       ⟨none, none, .store1, [.tmp 24, .tmp 22]⟩])
     (.seq
      (.seq
       (.ops [⟨(some 25), none, (.p .mv), [.tmp 0]⟩,
         ⟨(some 26), none, (.p .nilchk), [.tmp 25]⟩,
         ⟨(some 27), none, (.p (.faddr 4)), [.tmp 26]⟩,
         ⟨(some 28), none, .load1, [.tmp 27]⟩,
         ⟨(some 29), none, (.p (.cmp .gtr)), [.tmp 28, .const (.int .i64 0)]⟩])
       (.cond (.tmp 29)
        (.ops [⟨(some 30), none, (.p .mv), [.tmp 0]⟩,
          ⟨(some 31), none, (.p .nilchk), [.tmp 30]⟩,
          ⟨(some 32), none, (.p (.faddr 4)), [.tmp 31]⟩,
          ⟨(some 33), none, .load1, [.tmp 32]⟩,
          ⟨(some 34), none, (.p (.bin .sub)), [.tmp 33, .const (.int .i64 1)]⟩,
          ⟨(some 35), none, (.p .nilchk), [.tmp 30]⟩,
          ⟨(some 36), none, (.p (.faddr 4)), [.tmp 35]⟩,
          ⟨none, none, .store1, [.tmp 36, .tmp 34]⟩])
        .skip))
      (.seq
       (.ops [⟨(some 2), none, (.p .mv), [.const (.int .i64 0)]⟩])
       .ret)))))),
 [.t 2]⟩
theorem ir28_ok : cFn Try.prog Try.f28 = some ir28 := by kernel_rfl

/- slices.Clone[[]pumice/back.block,pumice/back.block] -/
def ir29 : FIR := ⟨8,
 (.seq
  (.ops [⟨(some 2), none, (.p .mv), [.const (.slice none 0 0)]⟩])
  (.seq
   (.seq
    (.ops [⟨(some 3), none, (.p .mv), [.tmp 0]⟩,
      ⟨(some 4), none, (.p (.isnil false)), [.tmp 3, .const (.slice none 0 0)]⟩])
    (.cond (.tmp 4)
     (.seq
      (.ops [⟨(some 2), none, (.p .mv), [.const (.slice none 0 0)]⟩])
      .ret)
     .skip))
   (.seq
    (.ops [⟨(some 5), none, (.bldSl 65 0 256 #[] []), []⟩,
      ⟨(some 6), none, (.p .mv), [.tmp 0]⟩,
      ⟨(some 7), none, (.app 59 65 256 256 (Array.replicate 256 (.int .u8 0))), [.tmp 5, .tmp 6]⟩,
      ⟨(some 2), none, (.p .mv), [.tmp 7]⟩])
    .ret))),
 [.t 2]⟩
theorem ir29_ok : cFn Try.prog Try.f29 = some ir29 := by kernel_rfl

/- slices.Clone[[]pumice/back.write,pumice/back.write] -/
def ir30 : FIR := ⟨8,
 (.seq
  (.ops [⟨(some 2), none, (.p .mv), [.const (.slice none 0 0)]⟩])
  (.seq
   (.seq
    (.ops [⟨(some 3), none, (.p .mv), [.tmp 0]⟩,
      ⟨(some 4), none, (.p (.isnil false)), [.tmp 3, .const (.slice none 0 0)]⟩])
    (.cond (.tmp 4)
     (.seq
      (.ops [⟨(some 2), none, (.p .mv), [.const (.slice none 0 0)]⟩])
      .ret)
     .skip))
   (.seq
    (.ops [⟨(some 5), none, (.bldSl 67 0 257 #[] []), []⟩,
      ⟨(some 6), none, (.p .mv), [.tmp 0]⟩,
      ⟨(some 7), none, (.app 60 67 257 264 (#[(.int .i64 0)] ++ Array.replicate 256 (.int .u8 0))), [.tmp 5, .tmp 6]⟩,
      ⟨(some 2), none, (.p .mv), [.tmp 7]⟩])
    .ret))),
 [.t 2]⟩
theorem ir30_ok : cFn Try.prog Try.f30 = some ir30 := by kernel_rfl

/- (*pumice/pumiceref08.Disk).Write -/
def ir31 : FIR := ⟨39,
 (.seq
  (.ops [⟨(some 6), none, (.p .mv), [.const (.int .i64 0)]⟩])
  (.seq
   (.seq
    (.ops [⟨(some 7), none, (.p .mv), [.tmp 1]⟩,
      ⟨(some 8), none, (.p (.cmp .lss)), [.tmp 7, .const (.int .i64 0)]⟩,
      ⟨(some 9), none, (.p .mv), [.tmp 8]⟩,
      ⟨(some 10), (some (9, false)), (.p .mv), [.tmp 1]⟩,
      ⟨(some 11), (some (9, false)), (.p .mv), [.tmp 0]⟩,
      ⟨(some 12), (some (9, false)), (.p .nilchk), [.tmp 11]⟩,
      ⟨(some 13), (some (9, false)), (.p (.faddr 0)), [.tmp 12]⟩,
      ⟨(some 14), (some (9, false)), .load1, [.tmp 13]⟩,
      ⟨(some 15), (some (9, false)), (.p .lenS), [.tmp 14]⟩,
      ⟨(some 16), (some (9, false)), (.p (.cmp .geq)), [.tmp 10, .tmp 15]⟩,
      ⟨(some 17), none, (.p .pick), [.tmp 9, .const (.bool true), .tmp 16]⟩,
      ⟨(some 18), none, (.p .mv), [.tmp 17]⟩,
      ⟨(some 19), (some (18, false)), (.p .mv), [.tmp 2]⟩,
      ⟨(some 20), (some (18, false)), (.p .lenStr), [.tmp 19]⟩,
      ⟨(some 21), (some (18, false)), (.p (.cmp .neq)), [.tmp 20, .const (.int .i64 256)]⟩,
      ⟨(some 22), none, (.p .pick), [.tmp 18, .const (.bool true), .tmp 21]⟩])
    (.cond (.tmp 22)
     (.seq
      (.ops [⟨(some 6), none, (.p .mv), [.const (.int .i64 1)]⟩])
      .ret)
     .skip))
   (.seq
    (.seq
     (.ops [⟨(some 23), none, (.p .mv), [.tmp 0]⟩,
       ⟨(some 24), none, (.call 35), [.tmp 23]⟩])
     (.cond (.tmp 24)
      (.seq
       (.ops [⟨(some 6), none, (.p .mv), [.const (.int .i64 6)]⟩])
       .ret)
      .skip))
    (.seq
     (.ops [⟨(some 25), none, (.p .mv), [.tmp 0]⟩,
       ⟨(some 26), none, (.p .mv), [.tmp 0]⟩,
       ⟨(some 27), none, (.p .nilchk), [.tmp 26]⟩,
       ⟨(some 28), none, (.p (.faddr 1)), [.tmp 27]⟩,
       ⟨(some 29), none, .load1, [.tmp 28]⟩,
       ⟨(some 30), none, (.p .mv), [.tmp 1]⟩,
       ⟨(some 31), none, (.p .mv), [.tmp 2]⟩,
       ⟨(some 32), none, (.p (.bldS #[(.int .i64 0), (.string ⟨#[]⟩)] #[(0, 1), (1, 1)] [0, 1])), [.tmp 30, .tmp 31]⟩,
       ⟨(some 33), none, (.bldSl 74 1 2 #[(.int .i64 0), (.string ⟨#[]⟩)] [0]), [.tmp 32]⟩,
       ⟨(some 34), none, (.app 52 74 2 24 #[(.int .i64 0), (.string ⟨#[]⟩)]), [.tmp 29, .tmp 33]⟩,
       ⟨(some 35), none, (.p .nilchk), [.tmp 25]⟩,
       ⟨(some 36), none, (.p (.faddr 1)), [.tmp 35]⟩,
       ⟨none, none, .store1, [.tmp 36, .tmp 34]⟩])
     (.seq
      (.ops [⟨(some 37), none, (.p .mv), [.tmp 0]⟩,
        ⟨(some 38), none, (.call 36), [.tmp 37]⟩,
        ⟨(some 6), none, (.p .mv), [.tmp 38]⟩])
      .ret))))),
 [.t 6]⟩
theorem ir31_ok : cFn Try.prog Try.f31 = some ir31 := by kernel_rfl

/- (*pumice/pumiceref08.Disk).Barrier -/
def ir32 : FIR := ⟨9,
 (.seq
  (.ops [⟨(some 2), none, (.p .mv), [.const (.int .i64 0)]⟩])
  (.seq
   (.seq
    (.ops [⟨(some 3), none, (.p .mv), [.tmp 0]⟩,
      ⟨(some 4), none, (.call 35), [.tmp 3]⟩])
    (.cond (.tmp 4)
     (.seq
      (.ops [⟨(some 2), none, (.p .mv), [.const (.int .i64 6)]⟩])
      .ret)
     .skip))
   (.seq
    (.ops [⟨(some 5), none, (.p .mv), [.tmp 0]⟩,
      ⟨(some 6), none, (.call 37), [.tmp 5, .const (.int .u64 18446744073709551615)]⟩])
    (.seq
     (.ops [⟨(some 7), none, (.p .mv), [.tmp 0]⟩,
       ⟨(some 8), none, (.call 36), [.tmp 7]⟩,
       ⟨(some 2), none, (.p .mv), [.tmp 8]⟩])
     .ret)))),
 [.t 2]⟩
theorem ir32_ok : cFn Try.prog Try.f32 = some ir32 := by kernel_rfl

/- (*pumice/pumiceref08.Disk).Cut -/
def ir33 : FIR := ⟨14,
 (.seq
  (.ops [⟨(some 4), none, (.p .mv), [.tmp 0]⟩,
    ⟨(some 5), none, (.p .nilchk), [.tmp 4]⟩,
    ⟨(some 6), none, (.p (.faddr 2)), [.tmp 5]⟩,
    ⟨(some 7), none, .load1, [.tmp 6]⟩,
    ⟨(some 8), none, (.p .not), [.tmp 7]⟩])
  (.cond (.tmp 8)
   (.ops [⟨(some 9), none, (.p .mv), [.tmp 0]⟩,
     ⟨(some 10), none, (.p .mv), [.tmp 1]⟩,
     ⟨(some 11), none, (.p .max), [.tmp 10, .const (.int .i64 (-1))]⟩,
     ⟨(some 12), none, (.p .nilchk), [.tmp 9]⟩,
     ⟨(some 13), none, (.p (.faddr 3)), [.tmp 12]⟩,
     ⟨none, none, .store1, [.tmp 13, .tmp 11]⟩])
   .skip)),
 []⟩
theorem ir33_ok : cFn Try.prog Try.f33 = some ir33 := by kernel_rfl

/- (*pumice/pumiceref08.Disk).Crash -/
def ir34 : FIR := ⟨13,
 (.seq
  (.ops [⟨(some 4), none, (.p .mv), [.tmp 0]⟩,
    ⟨(some 5), none, (.p .mv), [.tmp 1]⟩,
    ⟨(some 6), none, (.call 37), [.tmp 4, .tmp 5]⟩])
  (.seq
   (.ops [⟨(some 7), none, (.p .mv), [.tmp 0]⟩,
     ⟨(some 8), none, (.p .nilchk), [.tmp 7]⟩,
     ⟨(some 9), none, (.p (.faddr 2)), [.tmp 8]⟩,
     ⟨none, none, .store1, [.tmp 9, .const (.bool false)]⟩])
   (.ops [⟨(some 10), none, (.p .mv), [.tmp 0]⟩,
     ⟨(some 11), none, (.p .nilchk), [.tmp 10]⟩,
     ⟨(some 12), none, (.p (.faddr 3)), [.tmp 11]⟩,
     ⟨none, none, .store1, [.tmp 12, .const (.int .i64 (-1))]⟩]))),
 []⟩
theorem ir34_ok : cFn Try.prog Try.f34 = some ir34 := by kernel_rfl

/- (*pumice/pumiceref08.Disk).off -/
def ir35 : FIR := ⟨18,
 (.seq
  (.ops [⟨(some 2), none, (.p .mv), [.const (.bool false)]⟩])
  (.seq
   (.seq
    (.ops [⟨(some 3), none, (.p .mv), [.tmp 0]⟩,
      ⟨(some 4), none, (.p .nilchk), [.tmp 3]⟩,
      ⟨(some 5), none, (.p (.faddr 3)), [.tmp 4]⟩,
      ⟨(some 6), none, .load1, [.tmp 5]⟩,
      ⟨(some 7), none, (.p (.cmp .eql)), [.tmp 6, .const (.int .i64 0)]⟩])
    (.cond (.tmp 7)
     (.seq
      (.ops [⟨(some 8), none, (.p .mv), [.tmp 0]⟩,
        ⟨(some 9), none, (.p .nilchk), [.tmp 8]⟩,
        ⟨(some 10), none, (.p (.faddr 2)), [.tmp 9]⟩,
        ⟨none, none, .store1, [.tmp 10, .const (.bool true)]⟩])
      (.ops [⟨(some 11), none, (.p .mv), [.tmp 0]⟩,
        ⟨(some 12), none, (.p .nilchk), [.tmp 11]⟩,
        ⟨(some 13), none, (.p (.faddr 3)), [.tmp 12]⟩,
        ⟨none, none, .store1, [.tmp 13, .const (.int .i64 (-1))]⟩]))
     .skip))
   (.seq
    (.ops [⟨(some 14), none, (.p .mv), [.tmp 0]⟩,
      ⟨(some 15), none, (.p .nilchk), [.tmp 14]⟩,
      ⟨(some 16), none, (.p (.faddr 2)), [.tmp 15]⟩,
      ⟨(some 17), none, .load1, [.tmp 16]⟩,
      ⟨(some 2), none, (.p .mv), [.tmp 17]⟩])
    .ret))),
 [.t 2]⟩
theorem ir35_ok : cFn Try.prog Try.f35 = some ir35 := by kernel_rfl

/- (*pumice/pumiceref08.Disk).done -/
def ir36 : FIR := ⟨22,
 (.seq
  (.ops [⟨(some 2), none, (.p .mv), [.const (.int .i64 0)]⟩])
  (.seq
   (.ops [⟨(some 3), none, (.p .mv), [.tmp 0]⟩,
     ⟨(some 4), none, (.p .nilchk), [.tmp 3]⟩,
     ⟨(some 5), none, (.p (.faddr 4)), [.tmp 4]⟩,
     ⟨(some 6), none, .load1, [.tmp 5]⟩,
     ⟨(some 7), none, (.p (.bin .add)), [.tmp 6, .const (.int .i64 1)]⟩,
     ⟨(some 8), none, (.p .nilchk), [.tmp 3]⟩,
     ⟨(some 9), none, (.p (.faddr 4)), [.tmp 8]⟩,
     ⟨none, none, .store1, [.tmp 9, .tmp 7]⟩])
   (.seq
    (.seq
     (.ops [⟨(some 10), none, (.p .mv), [.tmp 0]⟩,
       ⟨(some 11), none, (.p .nilchk), [.tmp 10]⟩,
       ⟨(some 12), none, (.p (.faddr 3)), [.tmp 11]⟩,
       ⟨(some 13), none, .load1, [.tmp 12]⟩,
       ⟨(some 14), none, (.p (.cmp .gtr)), [.tmp 13, .const (.int .i64 0)]⟩])
     (.cond (.tmp 14)
      (.ops [⟨(some 15), none, (.p .mv), [.tmp 0]⟩,
        ⟨(some 16), none, (.p .nilchk), [.tmp 15]⟩,
        ⟨(some 17), none, (.p (.faddr 3)), [.tmp 16]⟩,
        ⟨(some 18), none, .load1, [.tmp 17]⟩,
        ⟨(some 19), none, (.p (.bin .sub)), [.tmp 18, .const (.int .i64 1)]⟩,
        ⟨(some 20), none, (.p .nilchk), [.tmp 15]⟩,
        ⟨(some 21), none, (.p (.faddr 3)), [.tmp 20]⟩,
        ⟨none, none, .store1, [.tmp 21, .tmp 19]⟩])
      .skip))
    (.seq
     (.ops [⟨(some 2), none, (.p .mv), [.const (.int .i64 0)]⟩])
     .ret)))),
 [.t 2]⟩
theorem ir36_ok : cFn Try.prog Try.f36 = some ir36 := by kernel_rfl

/- (*pumice/pumiceref08.Disk).some -/
def ir37 : FIR := ⟨44,
 (.seq
  (.seq
   (.ops [⟨(some 4), none, (.p .mv), [.const (.int .i64 0)]⟩])
   (.block 0
    (.loop
     (.seq
      (.seq
       (.ops [⟨(some 5), none, (.p .mv), [.tmp 4]⟩,
         ⟨(some 6), none, (.p .mv), [.tmp 0]⟩,
         ⟨(some 7), none, (.p .nilchk), [.tmp 6]⟩,
         ⟨(some 8), none, (.p (.faddr 1)), [.tmp 7]⟩,
         ⟨(some 9), none, .load1, [.tmp 8]⟩,
         ⟨(some 10), none, (.p .lenS), [.tmp 9]⟩,
         ⟨(some 11), none, (.p (.cmp .lss)), [.tmp 5, .tmp 10]⟩])
       (.cond (.tmp 11)
        .skip
        (.exit 0)))
      (.seq
       (.block 1
        (.seq
         (.ops [⟨(some 14), none, (.p .mv), [.tmp 1]⟩,
           ⟨(some 15), none, (.p .mv), [.tmp 4]⟩,
           ⟨(some 16), none, (.p (.bin .rem)), [.tmp 15, .const (.int .i64 64)]⟩,
           ⟨(some 17), none, (.p (.bin .shr)), [.tmp 14, .tmp 16]⟩,
           ⟨(some 18), none, (.p (.bin .rem)), [.tmp 17, .const (.int .u64 2)]⟩,
           ⟨(some 19), none, (.p (.cmp .eql)), [.tmp 18, .const (.int .u64 1)]⟩])
         (.cond (.tmp 19)
          (.draw [⟨(some 20), none, (.p .mv), [.tmp 0]⟩,
            ⟨(some 21), none, (.p .nilchk), [.tmp 20]⟩,
            ⟨(some 22), none, (.p (.faddr 0)), [.tmp 21]⟩,
            ⟨(some 23), none, .load1, [.tmp 22]⟩,
            ⟨(some 24), none, (.p .mv), [.tmp 0]⟩,
            ⟨(some 25), none, (.p .nilchk), [.tmp 24]⟩,
            ⟨(some 26), none, (.p (.faddr 1)), [.tmp 25]⟩,
            ⟨(some 27), none, .load1, [.tmp 26]⟩,
            ⟨(some 28), none, (.p .mv), [.tmp 4]⟩,
            ⟨(some 29), none, (.p (.iaddrS 2)), [.tmp 27, .tmp 28]⟩,
            ⟨(some 30), none, (.p (.faddr 0)), [.tmp 29]⟩,
            ⟨(some 31), none, .load1, [.tmp 30]⟩,
            ⟨(some 32), none, (.p .mv), [.tmp 0]⟩,
            ⟨(some 33), none, (.p .nilchk), [.tmp 32]⟩,
            ⟨(some 34), none, (.p (.faddr 1)), [.tmp 33]⟩,
            ⟨(some 35), none, .load1, [.tmp 34]⟩,
            ⟨(some 36), none, (.p .mv), [.tmp 4]⟩,
            ⟨(some 37), none, (.p (.iaddrS 2)), [.tmp 35, .tmp 36]⟩,
            ⟨(some 38), none, (.p (.faddr 1)), [.tmp 37]⟩,
            ⟨(some 39), none, .load1, [.tmp 38]⟩,
            ⟨(some 40), none, (.p (.iaddrS 1)), [.tmp 23, .tmp 31]⟩,
            ⟨none, none, .store1, [.tmp 40, .tmp 39]⟩] (.pu 0 (.pu 1 (.pu 2 (.pu 4 (.pu 5 (.pu 6 (.pu 8 (.pu 12 (.pu 13 (.pu 14 (.pu 16 (.fl 3 (.fl 7 (.pu 9 (.pu 10 (.fl 11 (.fl 15 (.pu 17 (.pu 18 (.fl 19 (.pu 20 (.act true 21 [0, 1, 2, 3, 4, 5, 6, 7, 8, 9, 10, 11, 12, 13, 14, 15, 16, 17, 18, 19, 20] .done .stop)))))))))))))))))))))))
          .skip)))
       (.ops [⟨(some 12), none, (.p .mv), [.tmp 4]⟩,
         ⟨(some 13), none, (.p (.bin .add)), [.tmp 12, .const (.int .i64 1)]⟩,
         ⟨(some 4), none, (.p .mv), [.tmp 13]⟩]))))))
  (.ops [⟨(some 41), none, (.p .mv), [.tmp 0]⟩,
    ⟨(some 42), none, (.p .nilchk), [.tmp 41]⟩,
    ⟨(some 43), none, (.p (.faddr 1)), [.tmp 42]⟩,
    ⟨none, none, .store1, [.tmp 43, .const (.slice none 0 0)]⟩])),
 []⟩
theorem ir37_ok : cFn Try.prog Try.f37 = some ir37 := by kernel_rfl

end Go.Proofs.Ytgebiedochlhmaa
