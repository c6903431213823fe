/- The typed form of each function, by program (printir.py), checked by the kernel. -/
import Derived.Test.YtahjmibamponnaaDenL
import Derived.Test.YtahjmibamponnaaProg
import Derived.KernelRfl
set_option maxRecDepth 100000
namespace Go.Proofs.Ytahjmibamponnaa

/- pumice/pumicelaw01.CodecLays -/
def ir3 : FIR := ⟨114,
 (.seq
  (.ops [⟨(some 4), none, (.p .mv), [.const (.bool false)]⟩])
  (.seq
   (.ops [⟨(some 15), none, (.call 9), []⟩,
     ⟨(some 5), none, (.p .mv), [.tmp 15]⟩])
   (.seq
    (.ops [⟨(some 16), none, (.p .mv), [.tmp 0]⟩,
      ⟨(some 17), none, (.call 10), [.tmp 16]⟩,
      ⟨(some 6), none, (.p .mv), [.tmp 17]⟩])
    (.seq
     (.seq
      (.ops [⟨(some 18), none, (.p .mv), [.tmp 6]⟩,
        ⟨(some 19), none, (.p (.isnil false)), [.tmp 18, .const (.pointer none)]⟩])
      (.cond (.tmp 19)
       (.seq
        (.ops [⟨(some 4), none, (.p .mv), [.const (.bool false)]⟩])
        .ret)
       .skip))
     (.seq
      (.ops [⟨(some 20), none, (.p .mv), [.tmp 0]⟩,
        ⟨(some 21), none, (.p (.bldS #[(.slice none 0 0), (.int .i64 0), (.int .i64 0)] #[(0, 1), (1, 1), (2, 1)] [1])), [.tmp 20]⟩,
        ⟨(some 22), none, (.box 30), [.tmp 21]⟩,
        ⟨(some 7), none, (.p .mv), [.tmp 22]⟩])
      (.seq
       (.seq
        (.ops [⟨(some 23), none, (.p .mv), [.tmp 1]⟩,
          ⟨(some 24), none, (.call 11), [.tmp 23]⟩,
          ⟨(some 25), none, (.p .lenS), [.tmp 24]⟩,
          ⟨(some 26), none, (.p .mv), [.const (.int .i64 0)]⟩])
        (.block 0
         (.loop
          (.seq
           (.ops [⟨(some 27), none, (.p (.cmp .lss)), [.tmp 26, .tmp 25]⟩])
           (.seq
            (.cond (.tmp 27)
             .skip
             (.exit 0))
            (.seq
             (.block 1
              (.seq
               (.ops [⟨(some 28), none, (.p (.iaddrS 4)), [.tmp 24, .tmp 26]⟩,
                 ⟨(some 29), none, (.loadN 4), [.tmp 28]⟩,
                 ⟨(some 9), none, (.alloc 34 #[(.int .u8 0), (.int .u64 0), (.int .i64 0), (.slice none 0 0)]), []⟩,
                 ⟨none, none, (.storeN 4), [.tmp 9, .tmp 29]⟩])
               (.seq
                (.ops [⟨(some 30), none, (.bldSl 5 0 1 #[] []), []⟩,
                  ⟨(some 31), none, (.p (.faddr 3)), [.tmp 9]⟩,
                  ⟨(some 32), none, .load1, [.tmp 31]⟩,
                  ⟨(some 33), none, (.app 27 5 1 1 #[(.int .u8 0)]), [.tmp 30, .tmp 32]⟩,
                  ⟨(some 10), none, (.p .mv), [.tmp 33]⟩])
                (.seq
                 (.seq
                  (.ops [⟨(some 34), none, (.p (.faddr 0)), [.tmp 9]⟩,
                    ⟨(some 35), none, .load1, [.tmp 34]⟩,
                    ⟨(some 36), none, (.p (.bin .rem)), [.tmp 35, .const (.int .u8 3)]⟩])
                  (.block 2
                   (.seq
                    (.ops [⟨(some 45), none, (.p (.cmp .eql)), [.tmp 36, .const (.int .u8 0)]⟩,
                      ⟨(some 44), none, (.p .mv), [.tmp 45]⟩])
                    (.cond (.tmp 44)
                     (.seq
                      (.ops [⟨(some 46), none, (.p .mv), [.tmp 6]⟩,
                        ⟨(some 47), none, (.p (.faddr 1)), [.tmp 9]⟩,
                        ⟨(some 48), none, .load1, [.tmp 47]⟩,
                        ⟨(some 49), none, (.p (.faddr 2)), [.tmp 9]⟩,
                        ⟨(some 50), none, .load1, [.tmp 49]⟩,
                        ⟨(some 51), none, (.call 12), [.tmp 46, .tmp 48, .tmp 50]⟩])
                      (.ops [⟨(some 52), none, (.p .mv), [.tmp 7]⟩,
                        ⟨(some 53), none, (.p (.faddr 1)), [.tmp 9]⟩,
                        ⟨(some 54), none, .load1, [.tmp 53]⟩,
                        ⟨(some 55), none, (.p (.faddr 2)), [.tmp 9]⟩,
                        ⟨(some 56), none, .load1, [.tmp 55]⟩,
                        ⟨(some 57), none, (.call 13), [.tmp 52, .tmp 54, .tmp 56]⟩]))
                     (.seq
                      (.ops [⟨(some 59), none, (.p (.cmp .eql)), [.tmp 36, .const (.int .u8 1)]⟩,
                        ⟨(some 58), none, (.p .mv), [.tmp 59]⟩])
                      (.cond (.tmp 58)
                       (.seq
                        (.ops [⟨(some 60), none, (.p .mv), [.tmp 6]⟩,
                          ⟨(some 61), none, (.p .mv), [.tmp 10]⟩,
                          ⟨(some 62), none, (.call 14), [.tmp 60, .tmp 61]⟩])
                        (.ops [⟨(some 63), none, (.p .mv), [.tmp 7]⟩,
                          ⟨(some 64), none, (.p (.faddr 3)), [.tmp 9]⟩,
                          ⟨(some 65), none, .load1, [.tmp 64]⟩,
                          ⟨(some 66), none, (.call 15), [.tmp 63, .tmp 65]⟩]))
                       (.seq
                        (.ops [⟨(some 37), none, (.p .mv), [.tmp 6]⟩,
                          ⟨(some 38), none, (.p .mv), [.tmp 10]⟩,
                          ⟨(some 39), none, (.call 16), [.tmp 37, .tmp 38]⟩])
                        (.ops [⟨(some 40), none, (.p .mv), [.tmp 7]⟩,
                          ⟨(some 41), none, (.p (.faddr 3)), [.tmp 9]⟩,
                          ⟨(some 42), none, .load1, [.tmp 41]⟩,
                          ⟨(some 43), none, (.call 17), [.tmp 40, .tmp 42]⟩]))))))))
                 (.seq
                  (.seq
                   (.ops [⟨(some 67), none, (.p .mv), [.tmp 10]⟩,
                     ⟨(some 68), none, (.p .lenS), [.tmp 67]⟩,
                     ⟨(some 69), none, (.p .mv), [.const (.int .i64 0)]⟩])
                   (.block 3
                    (.loop
                     (.seq
                      (.ops [⟨(some 70), none, (.p (.cmp .lss)), [.tmp 69, .tmp 68]⟩])
                      (.seq
                       (.cond (.tmp 70)
                        .skip
                        (.exit 3))
                       (.seq
                        (.block 4
                         (.seq
                          (.ops [⟨(some 71), none, (.p .mv), [.tmp 69]⟩,
                            ⟨(some 11), none, (.p .mv), [.tmp 71]⟩])
                          (.ops [⟨(some 72), none, (.p .mv), [.tmp 10]⟩,
                            ⟨(some 73), none, (.p .mv), [.tmp 11]⟩,
                            ⟨(some 74), none, (.p (.iaddrS 1)), [.tmp 72, .tmp 73]⟩,
                            ⟨(some 75), none, .load1, [.tmp 74]⟩,
                            ⟨(some 76), none, (.p (.bin .xor)), [.tmp 75, .const (.int .u8 85)]⟩,
                            ⟨(some 77), none, (.p (.iaddrS 1)), [.tmp 72, .tmp 73]⟩,
                            ⟨none, none, .store1, [.tmp 77, .tmp 76]⟩])))
                        (.ops [⟨(some 78), none, (.p (.bin .add)), [.tmp 69, .const (.int .i64 1)]⟩,
                          ⟨(some 69), none, (.p .mv), [.tmp 78]⟩])))))))
                  (.seq
                   (.ops [⟨(some 80), none, (.p .mv), [.tmp 6]⟩,
                     ⟨(some 81), none, (.call 18), [.tmp 80]⟩,
                     ⟨(some 79), none, (.p .mv), [.tmp 81]⟩,
                     ⟨(some 82), none, (.p (.ext 0)), [.tmp 79]⟩,
                     ⟨(some 83), none, (.p (.ext 1)), [.tmp 79]⟩,
                     ⟨(some 12), none, (.p .mv), [.tmp 82]⟩,
                     ⟨(some 13), none, (.p .mv), [.tmp 83]⟩])
                   (.seq
                    (.seq
                     (.draw [⟨(some 84), none, (.p .mv), [.tmp 12]⟩,
                       ⟨(some 85), none, .b2s, [.tmp 84]⟩,
                       ⟨(some 86), none, (.p .mv), [.tmp 7]⟩,
                       ⟨(some 87), none, (.p .nilchk), [.tmp 86]⟩,
                       ⟨(some 88), none, (.p (.faddr 0)), [.tmp 87]⟩,
                       ⟨(some 89), none, .load1, [.tmp 88]⟩,
                       ⟨(some 90), none, .b2s, [.tmp 89]⟩,
                       ⟨(some 91), none, (.p (.seq true)), [.tmp 85, .tmp 90]⟩,
                       ⟨(some 92), none, (.p .mv), [.tmp 91]⟩,
                       ⟨(some 93), (some (92, false)), (.p .mv), [.tmp 13]⟩,
                       ⟨(some 94), (some (92, false)), (.p .mv), [.tmp 7]⟩,
                       ⟨(some 95), (some (92, false)), (.p .nilchk), [.tmp 94]⟩,
                       ⟨(some 96), (some (92, false)), (.p (.faddr 2)), [.tmp 95]⟩,
                       ⟨(some 97), (some (92, false)), .load1, [.tmp 96]⟩,
                       ⟨(some 98), (some (92, false)), (.p (.cmp .neq)), [.tmp 93, .tmp 97]⟩,
                       ⟨(some 99), none, (.p .pick), [.tmp 92, .const (.bool true), .tmp 98]⟩] (.pu 0 (.pu 2 (.pu 3 (.pu 4 (.fl 5 (.act true 1 [0] (.act true 6 [5] (.pu 7 (.pu 8 (.pu 9 (.pu 10 (.pu 11 (.pu 12 (.fl 13 (.pu 14 (.pu 15 .done))))))))) .stop) (.act false 6 [5] (.act true 1 [0] (.pu 7 (.pu 8 (.pu 9 (.pu 10 (.pu 11 (.pu 12 (.fl 13 (.pu 14 (.pu 15 .done))))))))) .stop) .stop))))))))
                     (.cond (.tmp 99)
                      (.seq
                       (.ops [⟨(some 4), none, (.p .mv), [.const (.bool false)]⟩])
                       .ret)
                      .skip))
                    (.seq
                     (.ops [⟨(some 100), none, (.p .mv), [.tmp 12]⟩,
                       ⟨(some 101), none, (.p .lenS), [.tmp 100]⟩,
                       ⟨(some 102), none, (.p .mv), [.const (.int .i64 0)]⟩])
                     (.block 5
                      (.loop
                       (.seq
                        (.ops [⟨(some 103), none, (.p (.cmp .lss)), [.tmp 102, .tmp 101]⟩])
                        (.seq
                         (.cond (.tmp 103)
                          .skip
                          (.exit 5))
                         (.seq
                          (.block 6
                           (.seq
                            (.ops [⟨(some 104), none, (.p .mv), [.tmp 102]⟩,
                              ⟨(some 14), none, (.p .mv), [.tmp 104]⟩])
                            (.ops [⟨(some 105), none, (.p .mv), [.tmp 12]⟩,
                              ⟨(some 106), none, (.p .mv), [.tmp 14]⟩,
                              ⟨(some 107), none, (.p (.iaddrS 1)), [.tmp 105, .tmp 106]⟩,
                              ⟨(some 108), none, .load1, [.tmp 107]⟩,
                              ⟨(some 109), none, (.p (.bin .xor)), [.tmp 108, .const (.int .u8 85)]⟩,
                              ⟨(some 110), none, (.p (.iaddrS 1)), [.tmp 105, .tmp 106]⟩,
                              ⟨none, none, .store1, [.tmp 110, .tmp 109]⟩])))
                          (.ops [⟨(some 111), none, (.p (.bin .add)), [.tmp 102, .const (.int .i64 1)]⟩,
                            ⟨(some 102), none, (.p .mv), [.tmp 111]⟩]))))))))))))))
             (.ops [⟨(some 112), none, (.p (.bin .add)), [.tmp 26, .const (.int .i64 1)]⟩,
               ⟨(some 26), none, (.p .mv), [.tmp 112]⟩])))))))
       (.seq
        (.ops [⟨(some 113), none, (.p .mv), [.tmp 5]⟩,
          ⟨(some 4), none, (.p .mv), [.tmp 113]⟩])
        .ret))))))),
 [.t 4]⟩
theorem ir3_ok : cFn Try.prog Try.f3 = some ir3 := by kernel_rfl

/- pumice/pumicelaw01.CodecRoom -/
def ir4 : FIR := ⟨133,
 (.seq
  (.ops [⟨(some 4), none, (.p .mv), [.const (.bool false)]⟩])
  (.seq
   (.ops [⟨(some 16), none, (.call 9), []⟩,
     ⟨(some 5), none, (.p .mv), [.tmp 16]⟩])
   (.seq
    (.ops [⟨(some 17), none, (.p .mv), [.tmp 0]⟩,
      ⟨(some 18), none, (.p (.bin .rem)), [.tmp 17, .const (.int .u16 1001)]⟩,
      ⟨(some 19), none, (.p (.conv .i64)), [.tmp 18]⟩,
      ⟨(some 6), none, (.p .mv), [.tmp 19]⟩])
    (.seq
     (.ops [⟨(some 20), none, (.p .mv), [.tmp 6]⟩,
       ⟨(some 21), none, (.call 10), [.tmp 20]⟩,
       ⟨(some 7), none, (.p .mv), [.tmp 21]⟩])
     (.seq
      (.seq
       (.ops [⟨(some 22), none, (.p .mv), [.tmp 7]⟩,
         ⟨(some 23), none, (.p (.isnil false)), [.tmp 22, .const (.pointer none)]⟩])
       (.cond (.tmp 23)
        (.seq
         (.ops [⟨(some 4), none, (.p .mv), [.const (.bool false)]⟩])
         .ret)
        .skip))
      (.seq
       (.seq
        (.ops [⟨(some 24), none, (.p .mv), [.tmp 1]⟩,
          ⟨(some 25), none, (.call 11), [.tmp 24]⟩,
          ⟨(some 26), none, (.p .lenS), [.tmp 25]⟩,
          ⟨(some 27), none, (.p .mv), [.const (.int .i64 0)]⟩])
        (.block 0
         (.loop
          (.seq
           (.ops [⟨(some 28), none, (.p (.cmp .lss)), [.tmp 27, .tmp 26]⟩])
           (.seq
            (.cond (.tmp 28)
             .skip
             (.exit 0))
            (.seq
             (.block 1
              (.seq
               (.ops [⟨(some 29), none, (.p (.iaddrS 4)), [.tmp 25, .tmp 27]⟩,
                 ⟨(some 30), none, (.loadN 4), [.tmp 29]⟩,
                 ⟨(some 9), none, (.alloc 34 #[(.int .u8 0), (.int .u64 0), (.int .i64 0), (.slice none 0 0)]), []⟩,
                 ⟨none, none, (.storeN 4), [.tmp 9, .tmp 30]⟩])
               (.seq
                (.ops [⟨(some 32), none, (.p .mv), [.tmp 7]⟩,
                  ⟨(some 33), none, (.call 18), [.tmp 32]⟩,
                  ⟨(some 31), none, (.p .mv), [.tmp 33]⟩,
                  ⟨(some 34), none, (.p (.ext 0)), [.tmp 31]⟩,
                  ⟨(some 35), none, (.p (.ext 1)), [.tmp 31]⟩,
                  ⟨(some 10), none, (.p .mv), [.tmp 34]⟩,
                  ⟨(some 11), none, (.p .mv), [.tmp 35]⟩])
                (.seq
                 (.ops [⟨(some 12), none, (.p .mv), [.const (.int .i64 0)]⟩])
                 (.seq
                  (.seq
                   (.ops [⟨(some 36), none, (.p (.faddr 0)), [.tmp 9]⟩,
                     ⟨(some 37), none, .load1, [.tmp 36]⟩,
                     ⟨(some 38), none, (.p (.bin .rem)), [.tmp 37, .const (.int .u8 3)]⟩])
                   (.block 2
                    (.seq
                     (.ops [⟨(some 48), none, (.p (.cmp .eql)), [.tmp 38, .const (.int .u8 0)]⟩,
                       ⟨(some 47), none, (.p .mv), [.tmp 48]⟩])
                     (.cond (.tmp 47)
                      (.seq
                       (.ops [⟨(some 12), none, (.p .mv), [.const (.int .i64 5)]⟩])
                       (.ops [⟨(some 49), none, (.p .mv), [.tmp 7]⟩,
                         ⟨(some 50), none, (.p (.faddr 1)), [.tmp 9]⟩,
                         ⟨(some 51), none, .load1, [.tmp 50]⟩,
                         ⟨(some 52), none, (.call 12), [.tmp 49, .tmp 51, .const (.int .i64 5)]⟩]))
                      (.seq
                       (.ops [⟨(some 54), none, (.p (.cmp .eql)), [.tmp 38, .const (.int .u8 1)]⟩,
                         ⟨(some 53), none, (.p .mv), [.tmp 54]⟩])
                       (.cond (.tmp 53)
                        (.seq
                         (.ops [⟨(some 55), none, (.p (.faddr 3)), [.tmp 9]⟩,
                           ⟨(some 56), none, .load1, [.tmp 55]⟩,
                           ⟨(some 57), none, (.p .lenS), [.tmp 56]⟩,
                           ⟨(some 12), none, (.p .mv), [.tmp 57]⟩])
                         (.ops [⟨(some 58), none, (.p .mv), [.tmp 7]⟩,
                           ⟨(some 59), none, (.p (.faddr 3)), [.tmp 9]⟩,
                           ⟨(some 60), none, .load1, [.tmp 59]⟩,
                           ⟨(some 61), none, (.call 14), [.tmp 58, .tmp 60]⟩]))
                        (.seq
                         (.ops [⟨(some 39), none, (.p (.faddr 3)), [.tmp 9]⟩,
                           ⟨(some 40), none, .load1, [.tmp 39]⟩,
                           ⟨(some 41), none, (.p .lenS), [.tmp 40]⟩,
                           ⟨(some 42), none, (.p (.bin .add)), [.tmp 41, .const (.int .i64 2)]⟩,
                           ⟨(some 12), none, (.p .mv), [.tmp 42]⟩])
                         (.ops [⟨(some 43), none, (.p .mv), [.tmp 7]⟩,
                           ⟨(some 44), none, (.p (.faddr 3)), [.tmp 9]⟩,
                           ⟨(some 45), none, .load1, [.tmp 44]⟩,
                           ⟨(some 46), none, (.call 16), [.tmp 43, .tmp 45]⟩]))))))))
                  (.seq
                   (.ops [⟨(some 63), none, (.p .mv), [.tmp 7]⟩,
                     ⟨(some 64), none, (.call 18), [.tmp 63]⟩,
                     ⟨(some 62), none, (.p .mv), [.tmp 64]⟩,
                     ⟨(some 65), none, (.p (.ext 0)), [.tmp 62]⟩,
                     ⟨(some 66), none, (.p (.ext 1)), [.tmp 62]⟩,
                     ⟨(some 13), none, (.p .mv), [.tmp 65]⟩,
                     ⟨(some 14), none, (.p .mv), [.tmp 66]⟩])
                   (.seq
                    (.ops [⟨(some 67), none, (.p .mv), [.tmp 11]⟩,
                      ⟨(some 68), none, (.p (.cmp .eql)), [.tmp 67, .const (.int .i64 0)]⟩,
                      ⟨(some 69), none, (.p .mv), [.tmp 68]⟩,
                      ⟨(some 70), (some (69, true)), (.p .mv), [.tmp 12]⟩,
                      ⟨(some 71), (some (69, true)), (.p .mv), [.tmp 6]⟩,
                      ⟨(some 72), (some (69, true)), (.p .mv), [.tmp 10]⟩,
                      ⟨(some 73), (some (69, true)), (.p .lenS), [.tmp 72]⟩,
                      ⟨(some 74), (some (69, true)), (.p (.bin .sub)), [.tmp 71, .tmp 73]⟩,
                      ⟨(some 75), (some (69, true)), (.p (.cmp .leq)), [.tmp 70, .tmp 74]⟩,
                      ⟨(some 76), none, (.p .pick), [.tmp 69, .tmp 75, .const (.bool false)]⟩,
                      ⟨(some 77), none, (.p .mv), [.tmp 76]⟩,
                      ⟨(some 78), (some (77, true)), (.p .mv), [.tmp 12]⟩,
                      ⟨(some 79), (some (77, true)), (.p (.cmp .leq)), [.tmp 78, .const (.int .i64 65537)]⟩,
                      ⟨(some 80), none, (.p .pick), [.tmp 77, .tmp 79, .const (.bool false)]⟩,
                      ⟨(some 15), none, (.p .mv), [.tmp 80]⟩])
                    (.seq
                     (.draw [⟨(some 81), none, (.p .mv), [.tmp 13]⟩,
                       ⟨(some 82), none, (.p .lenS), [.tmp 81]⟩,
                       ⟨(some 83), none, (.p .mv), [.tmp 6]⟩,
                       ⟨(some 84), none, (.p (.cmp .gtr)), [.tmp 82, .tmp 83]⟩,
                       ⟨(some 85), none, (.p .mv), [.tmp 84]⟩,
                       ⟨(some 86), (some (85, false)), (.p .mv), [.tmp 13]⟩,
                       ⟨(some 87), (some (85, false)), (.p .lenS), [.tmp 86]⟩,
                       ⟨(some 88), (some (85, false)), (.p .mv), [.tmp 10]⟩,
                       ⟨(some 89), (some (85, false)), (.p .lenS), [.tmp 88]⟩,
                       ⟨(some 90), (some (85, false)), (.p (.cmp .lss)), [.tmp 87, .tmp 89]⟩,
                       ⟨(some 91), none, (.p .pick), [.tmp 85, .const (.bool true), .tmp 90]⟩,
                       ⟨(some 92), none, (.p .mv), [.tmp 91]⟩,
                       ⟨(some 93), (some (92, false)), (.p .mv), [.tmp 13]⟩,
                       ⟨(some 94), (some (92, false)), (.p .mv), [.tmp 10]⟩,
                       ⟨(some 95), (some (92, false)), (.p .lenS), [.tmp 94]⟩,
                       ⟨(some 96), (some (92, false)), (.p (.cutS 1 false true false)), [.tmp 93, .tmp 95]⟩,
                       ⟨(some 97), (some (92, false)), .b2s, [.tmp 96]⟩,
                       ⟨(some 98), (some (92, false)), (.p .mv), [.tmp 10]⟩,
                       ⟨(some 99), (some (92, false)), .b2s, [.tmp 98]⟩,
                       ⟨(some 100), (some (92, false)), (.p (.seq true)), [.tmp 97, .tmp 99]⟩,
                       ⟨(some 101), none, (.p .pick), [.tmp 92, .const (.bool true), .tmp 100]⟩,
                       ⟨(some 102), none, (.p .mv), [.tmp 101]⟩,
                       ⟨(some 103), (some (102, false)), (.p .mv), [.tmp 15]⟩,
                       ⟨(some 104), (some (102, false)), (.p .mv), [.tmp 14]⟩,
                       ⟨(some 105), (some (102, false)), (.p (.cmp .eql)), [.tmp 104, .const (.int .i64 0)]⟩,
                       ⟨(some 106), (some (102, false)), (.p (.beq true)), [.tmp 103, .tmp 105]⟩,
                       ⟨(some 107), none, (.p .pick), [.tmp 102, .const (.bool true), .tmp 106]⟩,
                       ⟨(some 108), none, (.p .mv), [.tmp 107]⟩,
                       ⟨(some 109), (some (108, false)), (.p .mv), [.tmp 15]⟩,
                       ⟨(some 110), (some (108, false)), (.p .mv), [.tmp 109]⟩,
                       ⟨(some 111), (some (110, true)), (.p .mv), [.tmp 13]⟩,
                       ⟨(some 112), (some (110, true)), (.p .lenS), [.tmp 111]⟩,
                       ⟨(some 113), (some (110, true)), (.p .mv), [.tmp 10]⟩,
                       ⟨(some 114), (some (110, true)), (.p .lenS), [.tmp 113]⟩,
                       ⟨(some 115), (some (110, true)), (.p .mv), [.tmp 12]⟩,
                       ⟨(some 116), (some (110, true)), (.p (.bin .add)), [.tmp 114, .tmp 115]⟩,
                       ⟨(some 117), (some (110, true)), (.p (.cmp .neq)), [.tmp 112, .tmp 116]⟩,
                       ⟨(some 118), (some (108, false)), (.p .pick), [.tmp 110, .tmp 117, .const (.bool false)]⟩,
                       ⟨(some 119), none, (.p .pick), [.tmp 108, .const (.bool true), .tmp 118]⟩,
                       ⟨(some 120), none, (.p .mv), [.tmp 119]⟩,
                       ⟨(some 121), (some (120, false)), (.p .mv), [.tmp 15]⟩,
                       ⟨(some 122), (some (120, false)), (.p .not), [.tmp 121]⟩,
                       ⟨(some 123), (some (120, false)), (.p .mv), [.tmp 122]⟩,
                       ⟨(some 124), (some (123, true)), (.p .mv), [.tmp 13]⟩,
                       ⟨(some 125), (some (123, true)), (.p .lenS), [.tmp 124]⟩,
                       ⟨(some 126), (some (123, true)), (.p .mv), [.tmp 10]⟩,
                       ⟨(some 127), (some (123, true)), (.p .lenS), [.tmp 126]⟩,
                       ⟨(some 128), (some (123, true)), (.p (.cmp .neq)), [.tmp 125, .tmp 127]⟩,
                       ⟨(some 129), (some (120, false)), (.p .pick), [.tmp 123, .tmp 128, .const (.bool false)]⟩,
                       ⟨(some 130), none, (.p .pick), [.tmp 120, .const (.bool true), .tmp 129]⟩] (.pu 0 (.pu 1 (.pu 2 (.pu 3 (.pu 4 (.pu 5 (.pu 6 (.pu 7 (.pu 8 (.pu 9 (.pu 10 (.pu 11 (.pu 12 (.pu 13 (.pu 14 (.pu 15 (.pu 17 (.act true 16 [11, 15] (.act true 18 [11, 17] (.pu 19 (.pu 20 (.pu 21 (.pu 22 (.pu 23 (.pu 24 (.pu 25 (.pu 26 (.pu 27 (.pu 28 (.pu 29 (.pu 30 (.pu 31 (.pu 32 (.pu 33 (.pu 34 (.pu 35 (.pu 36 (.pu 37 (.pu 38 (.pu 39 (.pu 40 (.pu 41 (.pu 42 (.pu 43 (.pu 44 (.pu 45 (.pu 46 (.pu 47 (.pu 48 (.pu 49 .done))))))))))))))))))))))))))))))) .stop) (.act false 18 [11, 17] (.act true 16 [11, 15] (.pu 19 (.pu 20 (.pu 21 (.pu 22 (.pu 23 (.pu 24 (.pu 25 (.pu 26 (.pu 27 (.pu 28 (.pu 29 (.pu 30 (.pu 31 (.pu 32 (.pu 33 (.pu 34 (.pu 35 (.pu 36 (.pu 37 (.pu 38 (.pu 39 (.pu 40 (.pu 41 (.pu 42 (.pu 43 (.pu 44 (.pu 45 (.pu 46 (.pu 47 (.pu 48 (.pu 49 .done))))))))))))))))))))))))))))))) .stop) .stop))))))))))))))))))))
                     (.cond (.tmp 130)
                      (.seq
                       (.ops [⟨(some 4), none, (.p .mv), [.const (.bool false)]⟩])
                       .ret)
                      .skip)))))))))
             (.ops [⟨(some 131), none, (.p (.bin .add)), [.tmp 27, .const (.int .i64 1)]⟩,
               ⟨(some 27), none, (.p .mv), [.tmp 131]⟩])))))))
       (.seq
        (.ops [⟨(some 132), none, (.p .mv), [.tmp 5]⟩,
          ⟨(some 4), none, (.p .mv), [.tmp 132]⟩])
        .ret))))))),
 [.t 4]⟩
theorem ir4_ok : cFn Try.prog Try.f4 = some ir4 := by kernel_rfl

/- pumice/pumicelaw01.CodecNums -/
def ir5 : FIR := ⟨63,
 (.seq
  (.ops [⟨(some 4), none, (.p .mv), [.const (.bool false)]⟩])
  (.seq
   (.ops [⟨(some 12), none, (.call 9), []⟩,
     ⟨(some 5), none, (.p .mv), [.tmp 12]⟩])
   (.seq
    (.ops [⟨(some 13), none, (.p .mv), [.tmp 1]⟩,
      ⟨(some 14), none, (.p (.bin .rem)), [.tmp 13, .const (.int .u8 9)]⟩,
      ⟨(some 15), none, (.p (.conv .i64)), [.tmp 14]⟩,
      ⟨(some 6), none, (.p .mv), [.tmp 15]⟩])
    (.seq
     (.ops [⟨(some 16), none, (.call 10), [.const (.int .i64 8)]⟩,
       ⟨(some 7), none, (.p .mv), [.tmp 16]⟩])
     (.seq
      (.seq
       (.ops [⟨(some 17), none, (.p .mv), [.tmp 7]⟩,
         ⟨(some 18), none, (.p (.isnil false)), [.tmp 17, .const (.pointer none)]⟩])
       (.cond (.tmp 18)
        (.seq
         (.ops [⟨(some 4), none, (.p .mv), [.const (.bool false)]⟩])
         .ret)
        .skip))
      (.seq
       (.ops [⟨(some 19), none, (.p .mv), [.tmp 7]⟩,
         ⟨(some 20), none, (.p .mv), [.tmp 0]⟩,
         ⟨(some 21), none, (.p .mv), [.tmp 6]⟩,
         ⟨(some 22), none, (.call 12), [.tmp 19, .tmp 20, .tmp 21]⟩])
       (.seq
        (.ops [⟨(some 24), none, (.p .mv), [.tmp 7]⟩,
          ⟨(some 25), none, (.call 18), [.tmp 24]⟩,
          ⟨(some 23), none, (.p .mv), [.tmp 25]⟩,
          ⟨(some 26), none, (.p (.ext 0)), [.tmp 23]⟩,
          ⟨(some 27), none, (.p (.ext 1)), [.tmp 23]⟩,
          ⟨(some 8), none, (.p .mv), [.tmp 26]⟩,
          ⟨(some 9), none, (.p .mv), [.tmp 27]⟩])
        (.seq
         (.ops [⟨(some 28), none, (.p .mv), [.tmp 8]⟩,
           ⟨(some 29), none, (.call 19), [.tmp 28]⟩,
           ⟨(some 10), none, (.p .mv), [.tmp 29]⟩])
         (.seq
          (.seq
           (.ops [⟨(some 30), none, (.p .mv), [.tmp 9]⟩,
             ⟨(some 31), none, (.p (.cmp .neq)), [.tmp 30, .const (.int .i64 0)]⟩,
             ⟨(some 32), none, (.p .mv), [.tmp 31]⟩,
             ⟨(some 33), (some (32, false)), (.p .mv), [.tmp 8]⟩,
             ⟨(some 34), (some (32, false)), (.p .lenS), [.tmp 33]⟩,
             ⟨(some 35), (some (32, false)), (.p .mv), [.tmp 6]⟩,
             ⟨(some 36), (some (32, false)), (.p (.cmp .neq)), [.tmp 34, .tmp 35]⟩,
             ⟨(some 37), none, (.p .pick), [.tmp 32, .const (.bool true), .tmp 36]⟩,
             ⟨(some 38), none, (.p .mv), [.tmp 37]⟩,
             ⟨(some 39), (some (38, false)), (.p .mv), [.tmp 10]⟩,
             ⟨(some 40), (some (38, false)), (.p (.isnil false)), [.tmp 39, .const (.pointer none)]⟩,
             ⟨(some 41), none, (.p .pick), [.tmp 38, .const (.bool true), .tmp 40]⟩])
           (.cond (.tmp 41)
            (.seq
             (.ops [⟨(some 4), none, (.p .mv), [.const (.bool false)]⟩])
             .ret)
            .skip))
          (.seq
           (.ops [⟨(some 42), none, (.p .mv), [.tmp 0]⟩,
             ⟨(some 11), none, (.p .mv), [.tmp 42]⟩])
           (.seq
            (.seq
             (.ops [⟨(some 43), none, (.p .mv), [.tmp 6]⟩,
               ⟨(some 44), none, (.p (.cmp .lss)), [.tmp 43, .const (.int .i64 8)]⟩])
             (.cond (.tmp 44)
              (.ops [⟨(some 45), none, (.p .mv), [.tmp 0]⟩,
                ⟨(some 46), none, (.p .mv), [.tmp 6]⟩,
                ⟨(some 47), none, (.p (.bin .mul)), [.const (.int .i64 8), .tmp 46]⟩,
                ⟨(some 48), none, (.p (.bin .shl)), [.const (.int .u64 1), .tmp 47]⟩,
                ⟨(some 49), none, (.p (.bin .rem)), [.tmp 45, .tmp 48]⟩,
                ⟨(some 11), none, (.p .mv), [.tmp 49]⟩])
              .skip))
            (.seq
             (.ops [⟨(some 50), none, (.p .mv), [.tmp 5]⟩,
               ⟨(some 51), none, (.p .mv), [.tmp 50]⟩,
               ⟨(some 52), (some (51, true)), (.p .mv), [.tmp 10]⟩,
               ⟨(some 53), (some (51, true)), (.p .mv), [.tmp 6]⟩,
               ⟨(some 54), (some (51, true)), (.call 20), [.tmp 52, .tmp 53]⟩,
               ⟨(some 55), (some (51, true)), (.p .mv), [.tmp 11]⟩,
               ⟨(some 56), (some (51, true)), (.p (.cmp .eql)), [.tmp 54, .tmp 55]⟩,
               ⟨(some 57), none, (.p .pick), [.tmp 51, .tmp 56, .const (.bool false)]⟩,
               ⟨(some 58), none, (.p .mv), [.tmp 57]⟩,
               ⟨(some 59), (some (58, true)), (.p .mv), [.tmp 10]⟩,
               ⟨(some 60), (some (58, true)), (.call 21), [.tmp 59]⟩,
               ⟨(some 61), (some (58, true)), (.p (.cmp .eql)), [.tmp 60, .const (.int .i64 0)]⟩,
               ⟨(some 62), none, (.p .pick), [.tmp 58, .tmp 61, .const (.bool false)]⟩,
               ⟨(some 4), none, (.p .mv), [.tmp 62]⟩])
             .ret)))))))))))),
 [.t 4]⟩
theorem ir5_ok : cFn Try.prog Try.f5 = some ir5 := by kernel_rfl

/- pumice/pumicelaw01.CodecTakes -/
def ir6 : FIR := ⟨110,
 (.seq
  (.ops [⟨(some 4), none, (.p .mv), [.const (.bool false)]⟩])
  (.seq
   (.ops [⟨(some 13), none, (.call 9), []⟩,
     ⟨(some 5), none, (.p .mv), [.tmp 13]⟩])
   (.seq
    (.seq
     (.ops [⟨(some 14), none, (.p .mv), [.tmp 0]⟩,
       ⟨(some 15), none, (.p .lenS), [.tmp 14]⟩,
       ⟨(some 16), none, (.p (.cmp .gtr)), [.tmp 15, .const (.int .i64 100000)]⟩])
     (.cond (.tmp 16)
      (.seq
       (.ops [⟨(some 17), none, (.p .mv), [.tmp 5]⟩,
         ⟨(some 4), none, (.p .mv), [.tmp 17]⟩])
       .ret)
      .skip))
    (.seq
     (.ops [⟨(some 18), none, (.bldSl 5 0 1 #[] []), []⟩,
       ⟨(some 19), none, (.p .mv), [.tmp 0]⟩,
       ⟨(some 20), none, (.app 27 5 1 1 #[(.int .u8 0)]), [.tmp 18, .tmp 19]⟩,
       ⟨(some 6), none, (.p .mv), [.tmp 20]⟩])
     (.seq
      (.ops [⟨(some 21), none, (.p .mv), [.tmp 6]⟩,
        ⟨(some 22), none, (.call 19), [.tmp 21]⟩,
        ⟨(some 7), none, (.p .mv), [.tmp 22]⟩])
      (.seq
       (.seq
        (.ops [⟨(some 23), none, (.p .mv), [.tmp 7]⟩,
          ⟨(some 24), none, (.p (.isnil false)), [.tmp 23, .const (.pointer none)]⟩])
        (.cond (.tmp 24)
         (.seq
          (.ops [⟨(some 4), none, (.p .mv), [.const (.bool false)]⟩])
          .ret)
         .skip))
       (.seq
        (.seq
         (.ops [⟨(some 25), none, (.p .mv), [.tmp 6]⟩,
           ⟨(some 26), none, (.p .lenS), [.tmp 25]⟩,
           ⟨(some 27), none, (.p .mv), [.const (.int .i64 0)]⟩])
         (.block 0
          (.loop
           (.seq
            (.ops [⟨(some 28), none, (.p (.cmp .lss)), [.tmp 27, .tmp 26]⟩])
            (.seq
             (.cond (.tmp 28)
              .skip
              (.exit 0))
             (.seq
              (.block 1
               (.seq
                (.ops [⟨(some 29), none, (.p .mv), [.tmp 27]⟩,
                  ⟨(some 8), none, (.p .mv), [.tmp 29]⟩])
                (.ops [⟨(some 30), none, (.p .mv), [.tmp 6]⟩,
                  ⟨(some 31), none, (.p .mv), [.tmp 8]⟩,
                  ⟨(some 32), none, (.p (.iaddrS 1)), [.tmp 30, .tmp 31]⟩,
                  ⟨(some 33), none, .load1, [.tmp 32]⟩,
                  ⟨(some 34), none, (.p (.bin .xor)), [.tmp 33, .const (.int .u8 85)]⟩,
                  ⟨(some 35), none, (.p (.iaddrS 1)), [.tmp 30, .tmp 31]⟩,
                  ⟨none, none, .store1, [.tmp 35, .tmp 34]⟩])))
              (.ops [⟨(some 36), none, (.p (.bin .add)), [.tmp 27, .const (.int .i64 1)]⟩,
                ⟨(some 27), none, (.p .mv), [.tmp 36]⟩])))))))
        (.seq
         (.ops [⟨(some 37), none, (.p .mv), [.tmp 0]⟩,
           ⟨(some 38), none, (.p (.bldS #[(.slice none 0 0), (.int .i64 0), (.int .i64 0)] #[(0, 1), (1, 1), (2, 1)] [0])), [.tmp 37]⟩,
           ⟨(some 39), none, (.box 50), [.tmp 38]⟩,
           ⟨(some 9), none, (.p .mv), [.tmp 39]⟩])
         (.seq
          (.seq
           (.ops [⟨(some 40), none, (.p .mv), [.tmp 1]⟩,
             ⟨(some 41), none, (.p .lenS), [.tmp 40]⟩,
             ⟨(some 42), none, (.p .mv), [.const (.int .i64 0)]⟩])
           (.block 2
            (.loop
             (.seq
              (.ops [⟨(some 43), none, (.p (.cmp .lss)), [.tmp 42, .tmp 41]⟩])
              (.seq
               (.cond (.tmp 43)
                .skip
                (.exit 2))
               (.seq
                (.block 3
                 (.seq
                  (.ops [⟨(some 44), none, (.p .mv), [.tmp 42]⟩,
                    ⟨(some 45), none, (.p (.iaddrS 2)), [.tmp 40, .tmp 42]⟩,
                    ⟨(some 46), none, (.loadN 2), [.tmp 45]⟩,
                    ⟨(some 11), none, (.alloc 52 #[(.int .u8 0), (.int .i64 0)]), []⟩,
                    ⟨(some 10), none, (.p .mv), [.tmp 44]⟩,
                    ⟨none, none, (.storeN 2), [.tmp 11, .tmp 46]⟩])
                  (.seq
                   (.seq
                    (.ops [⟨(some 47), none, (.p .mv), [.tmp 10]⟩,
                      ⟨(some 48), none, (.p (.cmp .geq)), [.tmp 47, .const (.int .i64 500)]⟩])
                    (.cond (.tmp 48)
                     (.exit 2)
                     .skip))
                   (.seq
                    (.ops [⟨(some 12), none, (.p .mv), [.const (.bool true)]⟩])
                    (.seq
                     (.seq
                      (.ops [⟨(some 49), none, (.p (.faddr 0)), [.tmp 11]⟩,
                        ⟨(some 50), none, .load1, [.tmp 49]⟩,
                        ⟨(some 51), none, (.p (.bin .rem)), [.tmp 50, .const (.int .u8 3)]⟩])
                      (.block 4
                       (.seq
                        (.ops [⟨(some 64), none, (.p (.cmp .eql)), [.tmp 51, .const (.int .u8 0)]⟩,
                          ⟨(some 63), none, (.p .mv), [.tmp 64]⟩])
                        (.cond (.tmp 63)
                         (.draw [⟨(some 65), none, (.p .mv), [.tmp 7]⟩,
                           ⟨(some 66), none, (.p (.faddr 1)), [.tmp 11]⟩,
                           ⟨(some 67), none, .load1, [.tmp 66]⟩,
                           ⟨(some 68), none, (.call 20), [.tmp 65, .tmp 67]⟩,
                           ⟨(some 69), none, (.p .mv), [.tmp 9]⟩,
                           ⟨(some 70), none, (.p (.faddr 1)), [.tmp 11]⟩,
                           ⟨(some 71), none, .load1, [.tmp 70]⟩,
                           ⟨(some 72), none, (.call 22), [.tmp 69, .tmp 71]⟩,
                           ⟨(some 73), none, (.p (.cmp .eql)), [.tmp 68, .tmp 72]⟩,
                           ⟨(some 12), none, (.p .mv), [.tmp 73]⟩] (.pu 0 (.pu 1 (.pu 4 (.pu 5 (.fl 2 (.fl 6 (.act true 3 [0, 2] (.act true 7 [3, 4, 6] (.pu 8 (.pu 9 .done)) .stop) .stop))))))))
                         (.seq
                          (.ops [⟨(some 75), none, (.p (.cmp .eql)), [.tmp 51, .const (.int .u8 1)]⟩,
                            ⟨(some 74), none, (.p .mv), [.tmp 75]⟩])
                          (.cond (.tmp 74)
                           (.draw [⟨(some 76), none, (.p .mv), [.tmp 7]⟩,
                             ⟨(some 77), none, (.p (.faddr 1)), [.tmp 11]⟩,
                             ⟨(some 78), none, .load1, [.tmp 77]⟩,
                             ⟨(some 79), none, (.call 23), [.tmp 76, .tmp 78]⟩,
                             ⟨(some 80), none, .b2s, [.tmp 79]⟩,
                             ⟨(some 81), none, (.p .mv), [.tmp 9]⟩,
                             ⟨(some 82), none, (.p (.faddr 1)), [.tmp 11]⟩,
                             ⟨(some 83), none, .load1, [.tmp 82]⟩,
                             ⟨(some 84), none, (.call 24), [.tmp 81, .tmp 83]⟩,
                             ⟨(some 85), none, .b2s, [.tmp 84]⟩,
                             ⟨(some 86), none, (.p (.seq false)), [.tmp 80, .tmp 85]⟩,
                             ⟨(some 12), none, (.p .mv), [.tmp 86]⟩] (.pu 0 (.pu 1 (.pu 5 (.pu 6 (.fl 2 (.fl 7 (.act true 3 [0, 2] (.act true 4 [3] (.act true 8 [3, 5, 7] (.act true 9 [8] (.pu 10 (.pu 11 .done)) .stop) .stop) (.act false 8 [3, 5, 7] (.act true 4 [3] (.act true 9 [8] (.pu 10 (.pu 11 .done)) .stop) (.act false 9 [8] (.act true 4 [3] (.pu 10 (.pu 11 .done)) .stop) .stop)) .stop)) .stop))))))))
                           (.draw [⟨(some 52), none, (.p .mv), [.tmp 7]⟩,
                             ⟨(some 53), none, (.p (.faddr 1)), [.tmp 11]⟩,
                             ⟨(some 54), none, .load1, [.tmp 53]⟩,
                             ⟨(some 55), none, (.call 25), [.tmp 52, .tmp 54]⟩,
                             ⟨(some 56), none, .b2s, [.tmp 55]⟩,
                             ⟨(some 57), none, (.p .mv), [.tmp 9]⟩,
                             ⟨(some 58), none, (.p (.faddr 1)), [.tmp 11]⟩,
                             ⟨(some 59), none, .load1, [.tmp 58]⟩,
                             ⟨(some 60), none, (.call 26), [.tmp 57, .tmp 59]⟩,
                             ⟨(some 61), none, .b2s, [.tmp 60]⟩,
                             ⟨(some 62), none, (.p (.seq false)), [.tmp 56, .tmp 61]⟩,
                             ⟨(some 12), none, (.p .mv), [.tmp 62]⟩] (.pu 0 (.pu 1 (.pu 5 (.pu 6 (.fl 2 (.fl 7 (.act true 3 [0, 2] (.act true 4 [3] (.act true 8 [3, 5, 7] (.act true 9 [8] (.pu 10 (.pu 11 .done)) .stop) .stop) (.act false 8 [3, 5, 7] (.act true 4 [3] (.act true 9 [8] (.pu 10 (.pu 11 .done)) .stop) (.act false 9 [8] (.act true 4 [3] (.pu 10 (.pu 11 .done)) .stop) .stop)) .stop)) .stop))))))))))))))
                     (.seq
                      (.draw [⟨(some 87), none, (.p .mv), [.tmp 12]⟩,
                        ⟨(some 88), none, (.p .not), [.tmp 87]⟩,
                        ⟨(some 89), none, (.p .mv), [.tmp 88]⟩,
                        ⟨(some 90), (some (89, false)), (.p .mv), [.tmp 7]⟩,
                        ⟨(some 91), (some (89, false)), (.call 27), [.tmp 90]⟩,
                        ⟨(some 92), (some (89, false)), (.p .mv), [.tmp 0]⟩,
                        ⟨(some 93), (some (89, false)), (.p .lenS), [.tmp 92]⟩,
                        ⟨(some 94), (some (89, false)), (.p .mv), [.tmp 9]⟩,
                        ⟨(some 95), (some (89, false)), (.p .nilchk), [.tmp 94]⟩,
                        ⟨(some 96), (some (89, false)), (.p (.faddr 1)), [.tmp 95]⟩,
                        ⟨(some 97), (some (89, false)), .load1, [.tmp 96]⟩,
                        ⟨(some 98), (some (89, false)), (.p (.bin .sub)), [.tmp 93, .tmp 97]⟩,
                        ⟨(some 99), (some (89, false)), (.p (.cmp .neq)), [.tmp 91, .tmp 98]⟩,
                        ⟨(some 100), none, (.p .pick), [.tmp 89, .const (.bool true), .tmp 99]⟩,
                        ⟨(some 101), none, (.p .mv), [.tmp 100]⟩,
                        ⟨(some 102), (some (101, false)), (.p .mv), [.tmp 7]⟩,
                        ⟨(some 103), (some (101, false)), (.call 21), [.tmp 102]⟩,
                        ⟨(some 104), (some (101, false)), (.p .mv), [.tmp 9]⟩,
                        ⟨(some 105), (some (101, false)), (.call 28), [.tmp 104]⟩,
                        ⟨(some 106), (some (101, false)), (.p (.cmp .neq)), [.tmp 103, .tmp 105]⟩,
                        ⟨(some 107), none, (.p .pick), [.tmp 101, .const (.bool true), .tmp 106]⟩] (.pu 0 (.pu 1 (.pu 2 (.pu 3 (.pu 5 (.pu 6 (.pu 7 (.pu 8 (.pu 9 (.fl 10 (.pu 11 (.act true 4 [2, 3] (.pu 12 (.pu 13 (.pu 14 (.pu 15 (.pu 17 (.act true 16 [14, 15] (.act true 18 [14, 16, 17] (.pu 19 (.pu 20 .done)) .stop) .stop)))))) .stop)))))))))))))
                      (.cond (.tmp 107)
                       (.seq
                        (.ops [⟨(some 4), none, (.p .mv), [.const (.bool false)]⟩])
                        .ret)
                       .skip)))))))
                (.ops [⟨(some 108), none, (.p (.bin .add)), [.tmp 42, .const (.int .i64 1)]⟩,
                  ⟨(some 42), none, (.p .mv), [.tmp 108]⟩])))))))
          (.seq
           (.ops [⟨(some 109), none, (.p .mv), [.tmp 5]⟩,
             ⟨(some 4), none, (.p .mv), [.tmp 109]⟩])
           .ret)))))))))),
 [.t 4]⟩
theorem ir6_ok : cFn Try.prog Try.f6 = some ir6 := by kernel_rfl

/- pumice/pumicelaw01.CodecNil -/
def ir7 : FIR := ⟨63,
 (.seq
  (.ops [⟨(some 4), none, (.p .mv), [.const (.bool false)]⟩])
  (.seq
   (.ops [⟨(some 5), none, (.p .mv), [.const (.pointer none)]⟩])
   (.seq
    (.ops [⟨(some 6), none, (.p .mv), [.const (.pointer none)]⟩])
    (.seq
     (.ops [⟨(some 9), none, (.p .mv), [.tmp 5]⟩,
       ⟨(some 10), none, (.p .mv), [.tmp 0]⟩,
       ⟨(some 11), none, (.call 12), [.tmp 9, .const (.int .u64 5), .tmp 10]⟩])
     (.seq
      (.ops [⟨(some 12), none, (.p .mv), [.tmp 5]⟩,
        ⟨(some 13), none, (.p .mv), [.tmp 1]⟩,
        ⟨(some 14), none, (.call 14), [.tmp 12, .tmp 13]⟩])
      (.seq
       (.ops [⟨(some 15), none, (.p .mv), [.tmp 5]⟩,
         ⟨(some 16), none, (.p .mv), [.tmp 1]⟩,
         ⟨(some 17), none, (.call 16), [.tmp 15, .tmp 16]⟩])
       (.seq
        (.ops [⟨(some 19), none, (.p .mv), [.tmp 5]⟩,
          ⟨(some 20), none, (.call 18), [.tmp 19]⟩,
          ⟨(some 18), none, (.p .mv), [.tmp 20]⟩,
          ⟨(some 21), none, (.p (.ext 0)), [.tmp 18]⟩,
          ⟨(some 22), none, (.p (.ext 1)), [.tmp 18]⟩,
          ⟨(some 7), none, (.p .mv), [.tmp 21]⟩,
          ⟨(some 8), none, (.p .mv), [.tmp 22]⟩])
        (.seq
         (.ops [⟨(some 23), none, (.call 9), []⟩,
           ⟨(some 24), none, (.p .mv), [.tmp 23]⟩,
           ⟨(some 25), (some (24, true)), (.p .mv), [.tmp 7]⟩,
           ⟨(some 26), (some (24, true)), (.p .lenS), [.tmp 25]⟩,
           ⟨(some 27), (some (24, true)), (.p (.cmp .eql)), [.tmp 26, .const (.int .i64 0)]⟩,
           ⟨(some 28), none, (.p .pick), [.tmp 24, .tmp 27, .const (.bool false)]⟩,
           ⟨(some 29), none, (.p .mv), [.tmp 28]⟩,
           ⟨(some 30), (some (29, true)), (.p .mv), [.tmp 8]⟩,
           ⟨(some 31), (some (29, true)), (.p (.cmp .eql)), [.tmp 30, .const (.int .i64 0)]⟩,
           ⟨(some 32), none, (.p .pick), [.tmp 29, .tmp 31, .const (.bool false)]⟩,
           ⟨(some 33), none, (.p .mv), [.tmp 32]⟩,
           ⟨(some 34), (some (33, true)), (.p .mv), [.tmp 6]⟩,
           ⟨(some 35), (some (33, true)), (.p .mv), [.tmp 0]⟩,
           ⟨(some 36), (some (33, true)), (.call 20), [.tmp 34, .tmp 35]⟩,
           ⟨(some 37), (some (33, true)), (.p (.cmp .eql)), [.tmp 36, .const (.int .u64 0)]⟩,
           ⟨(some 38), none, (.p .pick), [.tmp 33, .tmp 37, .const (.bool false)]⟩,
           ⟨(some 39), none, (.p .mv), [.tmp 38]⟩,
           ⟨(some 40), (some (39, true)), (.p .mv), [.tmp 6]⟩,
           ⟨(some 41), (some (39, true)), (.p .mv), [.tmp 0]⟩,
           ⟨(some 42), (some (39, true)), (.call 23), [.tmp 40, .tmp 41]⟩,
           ⟨(some 43), (some (39, true)), (.p .lenS), [.tmp 42]⟩,
           ⟨(some 44), (some (39, true)), (.p (.cmp .eql)), [.tmp 43, .const (.int .i64 0)]⟩,
           ⟨(some 45), none, (.p .pick), [.tmp 39, .tmp 44, .const (.bool false)]⟩,
           ⟨(some 46), none, (.p .mv), [.tmp 45]⟩,
           ⟨(some 47), (some (46, true)), (.p .mv), [.tmp 6]⟩,
           ⟨(some 48), (some (46, true)), (.p .mv), [.tmp 0]⟩,
           ⟨(some 49), (some (46, true)), (.call 25), [.tmp 47, .tmp 48]⟩,
           ⟨(some 50), (some (46, true)), (.p .lenS), [.tmp 49]⟩,
           ⟨(some 51), (some (46, true)), (.p (.cmp .eql)), [.tmp 50, .const (.int .i64 0)]⟩,
           ⟨(some 52), none, (.p .pick), [.tmp 46, .tmp 51, .const (.bool false)]⟩,
           ⟨(some 53), none, (.p .mv), [.tmp 52]⟩,
           ⟨(some 54), (some (53, true)), (.p .mv), [.tmp 6]⟩,
           ⟨(some 55), (some (53, true)), (.call 27), [.tmp 54]⟩,
           ⟨(some 56), (some (53, true)), (.p (.cmp .eql)), [.tmp 55, .const (.int .i64 0)]⟩,
           ⟨(some 57), none, (.p .pick), [.tmp 53, .tmp 56, .const (.bool false)]⟩,
           ⟨(some 58), none, (.p .mv), [.tmp 57]⟩,
           ⟨(some 59), (some (58, true)), (.p .mv), [.tmp 6]⟩,
           ⟨(some 60), (some (58, true)), (.call 21), [.tmp 59]⟩,
           ⟨(some 61), (some (58, true)), (.p (.cmp .eql)), [.tmp 60, .const (.int .i64 0)]⟩,
           ⟨(some 62), none, (.p .pick), [.tmp 58, .tmp 61, .const (.bool false)]⟩,
           ⟨(some 4), none, (.p .mv), [.tmp 62]⟩])
         .ret)))))))),
 [.t 4]⟩
theorem ir7_ok : cFn Try.prog Try.f7 = some ir7 := by kernel_rfl

/- pumice/pumicelaw01.CodecBack -/
def ir8 : FIR := ⟨115,
 (.seq
  (.ops [⟨(some 2), none, (.p .mv), [.const (.bool false)]⟩])
  (.seq
   (.ops [⟨(some 13), none, (.call 9), []⟩,
     ⟨(some 3), none, (.p .mv), [.tmp 13]⟩])
   (.seq
    (.ops [⟨(some 14), none, (.call 10), [.const (.int .i64 1073741824)]⟩,
      ⟨(some 4), none, (.p .mv), [.tmp 14]⟩])
    (.seq
     (.seq
      (.ops [⟨(some 15), none, (.p .mv), [.tmp 4]⟩,
        ⟨(some 16), none, (.p (.isnil false)), [.tmp 15, .const (.pointer none)]⟩])
      (.cond (.tmp 16)
       (.seq
        (.ops [⟨(some 2), none, (.p .mv), [.const (.bool false)]⟩])
        .ret)
       .skip))
     (.seq
      (.seq
       (.ops [⟨(some 17), none, (.p .mv), [.tmp 0]⟩,
         ⟨(some 18), none, (.call 11), [.tmp 17]⟩,
         ⟨(some 19), none, (.p .lenS), [.tmp 18]⟩,
         ⟨(some 20), none, (.p .mv), [.const (.int .i64 0)]⟩])
       (.block 0
        (.loop
         (.seq
          (.ops [⟨(some 21), none, (.p (.cmp .lss)), [.tmp 20, .tmp 19]⟩])
          (.seq
           (.cond (.tmp 21)
            .skip
            (.exit 0))
           (.seq
            (.block 1
             (.seq
              (.ops [⟨(some 22), none, (.p (.iaddrS 4)), [.tmp 18, .tmp 20]⟩,
                ⟨(some 23), none, (.loadN 4), [.tmp 22]⟩,
                ⟨(some 6), none, (.alloc 34 #[(.int .u8 0), (.int .u64 0), (.int .i64 0), (.slice none 0 0)]), []⟩,
                ⟨none, none, (.storeN 4), [.tmp 6, .tmp 23]⟩])
              (.seq
               (.ops [⟨(some 24), none, (.p (.faddr 0)), [.tmp 6]⟩,
                 ⟨(some 25), none, .load1, [.tmp 24]⟩,
                 ⟨(some 26), none, (.p (.bin .rem)), [.tmp 25, .const (.int .u8 3)]⟩])
               (.block 2
                (.seq
                 (.ops [⟨(some 37), none, (.p (.cmp .eql)), [.tmp 26, .const (.int .u8 0)]⟩,
                   ⟨(some 36), none, (.p .mv), [.tmp 37]⟩])
                 (.cond (.tmp 36)
                  (.ops [⟨(some 38), none, (.p .mv), [.tmp 4]⟩,
                    ⟨(some 39), none, (.p (.faddr 1)), [.tmp 6]⟩,
                    ⟨(some 40), none, .load1, [.tmp 39]⟩,
                    ⟨(some 41), none, (.call 12), [.tmp 38, .tmp 40, .const (.int .i64 8)]⟩])
                  (.seq
                   (.ops [⟨(some 43), none, (.p (.cmp .eql)), [.tmp 26, .const (.int .u8 1)]⟩,
                     ⟨(some 42), none, (.p .mv), [.tmp 43]⟩])
                   (.cond (.tmp 42)
                    (.ops [⟨(some 44), none, (.p .mv), [.tmp 4]⟩,
                      ⟨(some 45), none, (.p (.faddr 3)), [.tmp 6]⟩,
                      ⟨(some 46), none, .load1, [.tmp 45]⟩,
                      ⟨(some 47), none, (.call 14), [.tmp 44, .tmp 46]⟩])
                    (.seq
                     (.seq
                      (.ops [⟨(some 27), none, (.p (.faddr 3)), [.tmp 6]⟩,
                        ⟨(some 28), none, .load1, [.tmp 27]⟩,
                        ⟨(some 29), none, (.p .lenS), [.tmp 28]⟩,
                        ⟨(some 30), none, (.p (.cmp .gtr)), [.tmp 29, .const (.int .i64 50000)]⟩])
                      (.cond (.tmp 30)
                       (.seq
                        (.ops [⟨(some 31), none, (.p .mv), [.tmp 3]⟩,
                          ⟨(some 2), none, (.p .mv), [.tmp 31]⟩])
                        .ret)
                       .skip))
                     (.ops [⟨(some 32), none, (.p .mv), [.tmp 4]⟩,
                       ⟨(some 33), none, (.p (.faddr 3)), [.tmp 6]⟩,
                       ⟨(some 34), none, .load1, [.tmp 33]⟩,
                       ⟨(some 35), none, (.call 16), [.tmp 32, .tmp 34]⟩]))))))))))
            (.ops [⟨(some 48), none, (.p (.bin .add)), [.tmp 20, .const (.int .i64 1)]⟩,
              ⟨(some 20), none, (.p .mv), [.tmp 48]⟩])))))))
      (.seq
       (.ops [⟨(some 50), none, (.p .mv), [.tmp 4]⟩,
         ⟨(some 51), none, (.call 18), [.tmp 50]⟩,
         ⟨(some 49), none, (.p .mv), [.tmp 51]⟩,
         ⟨(some 52), none, (.p (.ext 0)), [.tmp 49]⟩,
         ⟨(some 53), none, (.p (.ext 1)), [.tmp 49]⟩,
         ⟨(some 7), none, (.p .mv), [.tmp 52]⟩,
         ⟨(some 8), none, (.p .mv), [.tmp 53]⟩])
       (.seq
        (.ops [⟨(some 54), none, (.p .mv), [.tmp 7]⟩,
          ⟨(some 55), none, (.call 19), [.tmp 54]⟩,
          ⟨(some 9), none, (.p .mv), [.tmp 55]⟩])
        (.seq
         (.seq
          (.ops [⟨(some 56), none, (.p .mv), [.tmp 8]⟩,
            ⟨(some 57), none, (.p (.cmp .neq)), [.tmp 56, .const (.int .i64 0)]⟩,
            ⟨(some 58), none, (.p .mv), [.tmp 57]⟩,
            ⟨(some 59), (some (58, false)), (.p .mv), [.tmp 9]⟩,
            ⟨(some 60), (some (58, false)), (.p (.isnil false)), [.tmp 59, .const (.pointer none)]⟩,
            ⟨(some 61), none, (.p .pick), [.tmp 58, .const (.bool true), .tmp 60]⟩])
          (.cond (.tmp 61)
           (.seq
            (.ops [⟨(some 2), none, (.p .mv), [.const (.bool false)]⟩])
            .ret)
           .skip))
         (.seq
          (.seq
           (.ops [⟨(some 62), none, (.p .mv), [.tmp 0]⟩,
             ⟨(some 63), none, (.call 11), [.tmp 62]⟩,
             ⟨(some 64), none, (.p .lenS), [.tmp 63]⟩,
             ⟨(some 65), none, (.p .mv), [.const (.int .i64 0)]⟩])
           (.block 3
            (.loop
             (.seq
              (.ops [⟨(some 66), none, (.p (.cmp .lss)), [.tmp 65, .tmp 64]⟩])
              (.seq
               (.cond (.tmp 66)
                .skip
                (.exit 3))
               (.seq
                (.block 4
                 (.seq
                  (.ops [⟨(some 67), none, (.p (.iaddrS 4)), [.tmp 63, .tmp 65]⟩,
                    ⟨(some 68), none, (.loadN 4), [.tmp 67]⟩,
                    ⟨(some 11), none, (.alloc 34 #[(.int .u8 0), (.int .u64 0), (.int .i64 0), (.slice none 0 0)]), []⟩,
                    ⟨none, none, (.storeN 4), [.tmp 11, .tmp 68]⟩])
                  (.seq
                   (.ops [⟨(some 12), none, (.p .mv), [.const (.bool true)]⟩])
                   (.seq
                    (.seq
                     (.ops [⟨(some 69), none, (.p (.faddr 0)), [.tmp 11]⟩,
                       ⟨(some 70), none, .load1, [.tmp 69]⟩,
                       ⟨(some 71), none, (.p (.bin .rem)), [.tmp 70, .const (.int .u8 3)]⟩])
                     (.block 5
                      (.seq
                       (.ops [⟨(some 83), none, (.p (.cmp .eql)), [.tmp 71, .const (.int .u8 0)]⟩,
                         ⟨(some 82), none, (.p .mv), [.tmp 83]⟩])
                       (.cond (.tmp 82)
                        (.draw [⟨(some 84), none, (.p .mv), [.tmp 9]⟩,
                          ⟨(some 85), none, (.call 20), [.tmp 84, .const (.int .i64 8)]⟩,
                          ⟨(some 86), none, (.p (.faddr 1)), [.tmp 11]⟩,
                          ⟨(some 87), none, .load1, [.tmp 86]⟩,
                          ⟨(some 88), none, (.p (.cmp .eql)), [.tmp 85, .tmp 87]⟩,
                          ⟨(some 12), none, (.p .mv), [.tmp 88]⟩] (.pu 0 (.pu 2 (.fl 3 (.act true 1 [0] (.pu 4 (.pu 5 .done)) .stop)))))
                        (.seq
                         (.ops [⟨(some 90), none, (.p (.cmp .eql)), [.tmp 71, .const (.int .u8 1)]⟩,
                           ⟨(some 89), none, (.p .mv), [.tmp 90]⟩])
                         (.cond (.tmp 89)
                          (.draw [⟨(some 91), none, (.p .mv), [.tmp 9]⟩,
                            ⟨(some 92), none, (.p (.faddr 3)), [.tmp 11]⟩,
                            ⟨(some 93), none, .load1, [.tmp 92]⟩,
                            ⟨(some 94), none, (.p .lenS), [.tmp 93]⟩,
                            ⟨(some 95), none, (.call 23), [.tmp 91, .tmp 94]⟩,
                            ⟨(some 96), none, .b2s, [.tmp 95]⟩,
                            ⟨(some 97), none, (.p (.faddr 3)), [.tmp 11]⟩,
                            ⟨(some 98), none, .load1, [.tmp 97]⟩,
                            ⟨(some 99), none, .b2s, [.tmp 98]⟩,
                            ⟨(some 100), none, (.p (.seq false)), [.tmp 96, .tmp 99]⟩,
                            ⟨(some 12), none, (.p .mv), [.tmp 100]⟩] (.pu 0 (.pu 1 (.pu 6 (.fl 2 (.pu 3 (.fl 7 (.act true 4 [0, 3] (.act true 5 [4] (.act true 8 [7] (.pu 9 (.pu 10 .done)) .stop) (.act false 8 [7] (.act true 5 [4] (.pu 9 (.pu 10 .done)) .stop) .stop)) (.act false 8 [7] (.act true 4 [0, 3] (.act true 5 [4] (.pu 9 (.pu 10 .done)) .stop) .stop) .stop)))))))))
                          (.draw [⟨(some 72), none, (.p .mv), [.tmp 9]⟩,
                            ⟨(some 73), none, (.p (.faddr 3)), [.tmp 11]⟩,
                            ⟨(some 74), none, .load1, [.tmp 73]⟩,
                            ⟨(some 75), none, (.p .lenS), [.tmp 74]⟩,
                            ⟨(some 76), none, (.call 25), [.tmp 72, .tmp 75]⟩,
                            ⟨(some 77), none, .b2s, [.tmp 76]⟩,
                            ⟨(some 78), none, (.p (.faddr 3)), [.tmp 11]⟩,
                            ⟨(some 79), none, .load1, [.tmp 78]⟩,
                            ⟨(some 80), none, .b2s, [.tmp 79]⟩,
                            ⟨(some 81), none, (.p (.seq false)), [.tmp 77, .tmp 80]⟩,
                            ⟨(some 12), none, (.p .mv), [.tmp 81]⟩] (.pu 0 (.pu 1 (.pu 6 (.fl 2 (.pu 3 (.fl 7 (.act true 4 [0, 3] (.act true 5 [4] (.act true 8 [7] (.pu 9 (.pu 10 .done)) .stop) (.act false 8 [7] (.act true 5 [4] (.pu 9 (.pu 10 .done)) .stop) .stop)) (.act false 8 [7] (.act true 4 [0, 3] (.act true 5 [4] (.pu 9 (.pu 10 .done)) .stop) .stop) .stop)))))))))))))))
                    (.seq
                     (.ops [⟨(some 101), none, (.p .mv), [.tmp 12]⟩,
                       ⟨(some 102), none, (.p .not), [.tmp 101]⟩])
                     (.cond (.tmp 102)
                      (.seq
                       (.ops [⟨(some 2), none, (.p .mv), [.const (.bool false)]⟩])
                       .ret)
                      .skip))))))
                (.ops [⟨(some 103), none, (.p (.bin .add)), [.tmp 65, .const (.int .i64 1)]⟩,
                  ⟨(some 65), none, (.p .mv), [.tmp 103]⟩])))))))
          (.seq
           (.ops [⟨(some 104), none, (.p .mv), [.tmp 3]⟩,
             ⟨(some 105), none, (.p .mv), [.tmp 104]⟩,
             ⟨(some 106), (some (105, true)), (.p .mv), [.tmp 9]⟩,
             ⟨(some 107), (some (105, true)), (.call 21), [.tmp 106]⟩,
             ⟨(some 108), (some (105, true)), (.p (.cmp .eql)), [.tmp 107, .const (.int .i64 0)]⟩,
             ⟨(some 109), none, (.p .pick), [.tmp 105, .tmp 108, .const (.bool false)]⟩,
             ⟨(some 110), none, (.p .mv), [.tmp 109]⟩,
             ⟨(some 111), (some (110, true)), (.p .mv), [.tmp 9]⟩,
             ⟨(some 112), (some (110, true)), (.call 27), [.tmp 111]⟩,
             ⟨(some 113), (some (110, true)), (.p (.cmp .eql)), [.tmp 112, .const (.int .i64 0)]⟩,
             ⟨(some 114), none, (.p .pick), [.tmp 110, .tmp 113, .const (.bool false)]⟩,
             ⟨(some 2), none, (.p .mv), [.tmp 114]⟩])
           .ret)))))))))),
 [.t 2]⟩
theorem ir8_ok : cFn Try.prog Try.f8 = some ir8 := by kernel_rfl

/- pumice/pumicelaw01.shown -/
def ir9 : FIR := ⟨51,
 (.seq
  (.ops [⟨(some 0), none, (.p .mv), [.const (.bool false)]⟩])
  (.seq
   (.ops [⟨(some 7), none, (.call 10), [.const (.int .i64 99)]⟩,
     ⟨(some 8), none, (.call 10), [.const (.int .i64 3)]⟩,
     ⟨(some 1), none, (.p .mv), [.tmp 7]⟩,
     ⟨(some 2), none, (.p .mv), [.tmp 8]⟩])
   (.seq
    (.seq
     (.ops [⟨(some 9), none, (.p .mv), [.tmp 1]⟩,
       ⟨(some 10), none, (.p (.isnil false)), [.tmp 9, .const (.pointer none)]⟩,
       ⟨(some 11), none, (.p .mv), [.tmp 10]⟩,
       ⟨(some 12), (some (11, false)), (.p .mv), [.tmp 2]⟩,
       ⟨(some 13), (some (11, false)), (.p (.isnil false)), [.tmp 12, .const (.pointer none)]⟩,
       ⟨(some 14), none, (.p .pick), [.tmp 11, .const (.bool true), .tmp 13]⟩])
     (.cond (.tmp 14)
      (.seq
       (.ops [⟨(some 0), none, (.p .mv), [.const (.bool false)]⟩])
       .ret)
      .skip))
    (.seq
     (.ops [⟨(some 15), none, (.p .mv), [.tmp 1]⟩,
       ⟨(some 16), none, (.call 12), [.tmp 15, .const (.int .u64 258), .const (.int .i64 3)]⟩])
     (.seq
      (.ops [⟨(some 17), none, (.p .mv), [.tmp 1]⟩,
        ⟨(some 18), none, (.bldSl 5 2 1 #[(.int .u8 0), (.int .u8 0)] [0, 1]), [.const (.int .u8 97), .const (.int .u8 98)]⟩,
        ⟨(some 19), none, .mark, [.tmp 18]⟩,
        ⟨(some 20), none, (.call 16), [.tmp 17, .tmp 19]⟩])
      (.seq
       (.ops [⟨(some 21), none, (.p .mv), [.tmp 2]⟩,
         ⟨(some 22), none, (.bldSl 5 2 1 #[(.int .u8 0), (.int .u8 0)] [0, 1]), [.const (.int .u8 97), .const (.int .u8 98)]⟩,
         ⟨(some 23), none, .mark, [.tmp 22]⟩,
         ⟨(some 24), none, (.call 16), [.tmp 21, .tmp 23]⟩])
       (.seq
        (.ops [⟨(some 26), none, (.p .mv), [.tmp 1]⟩,
          ⟨(some 27), none, (.call 18), [.tmp 26]⟩,
          ⟨(some 25), none, (.p .mv), [.tmp 27]⟩,
          ⟨(some 28), none, (.p (.ext 0)), [.tmp 25]⟩,
          ⟨(some 29), none, (.p (.ext 1)), [.tmp 25]⟩,
          ⟨(some 3), none, (.p .mv), [.tmp 28]⟩,
          ⟨(some 4), none, (.p .mv), [.tmp 29]⟩])
        (.seq
         (.ops [⟨(some 31), none, (.p .mv), [.tmp 2]⟩,
           ⟨(some 32), none, (.call 18), [.tmp 31]⟩,
           ⟨(some 30), none, (.p .mv), [.tmp 32]⟩,
           ⟨(some 33), none, (.p (.ext 0)), [.tmp 30]⟩,
           ⟨(some 34), none, (.p (.ext 1)), [.tmp 30]⟩,
           ⟨(some 5), none, (.p .mv), [.tmp 33]⟩,
           ⟨(some 6), none, (.p .mv), [.tmp 34]⟩])
         (.seq
          (.ops [⟨(some 35), none, (.p .mv), [.tmp 3]⟩,
            ⟨(some 36), none, .b2s, [.tmp 35]⟩,
            ⟨(some 37), none, (.p (.seq false)), [.tmp 36, .const (.string ⟨#[2, 1, 0, 2, 0, 97, 98]⟩)]⟩,
            ⟨(some 38), none, (.p .mv), [.tmp 37]⟩,
            ⟨(some 39), (some (38, true)), (.p .mv), [.tmp 4]⟩,
            ⟨(some 40), (some (38, true)), (.p (.cmp .eql)), [.tmp 39, .const (.int .i64 0)]⟩,
            ⟨(some 41), none, (.p .pick), [.tmp 38, .tmp 40, .const (.bool false)]⟩,
            ⟨(some 42), none, (.p .mv), [.tmp 41]⟩,
            ⟨(some 43), (some (42, true)), (.p .mv), [.tmp 5]⟩,
            ⟨(some 44), (some (42, true)), (.p .lenS), [.tmp 43]⟩,
            ⟨(some 45), (some (42, true)), (.p (.cmp .eql)), [.tmp 44, .const (.int .i64 0)]⟩,
            ⟨(some 46), none, (.p .pick), [.tmp 42, .tmp 45, .const (.bool false)]⟩,
            ⟨(some 47), none, (.p .mv), [.tmp 46]⟩,
            ⟨(some 48), (some (47, true)), (.p .mv), [.tmp 6]⟩,
            ⟨(some 49), (some (47, true)), (.p (.cmp .eql)), [.tmp 48, .const (.int .i64 4)]⟩,
            ⟨(some 50), none, (.p .pick), [.tmp 47, .tmp 49, .const (.bool false)]⟩,
            ⟨(some 0), none, (.p .mv), [.tmp 50]⟩])
          .ret))))))))),
 [.t 0]⟩
theorem ir9_ok : cFn Try.prog Try.f9 = some ir9 := by kernel_rfl

/- pumice/codec.NewWriter -/
def ir10 : FIR := ⟨7,
 (.seq
  (.ops [⟨(some 2), none, (.p .mv), [.const (.pointer none)]⟩])
  (.seq
   (.ops [⟨(some 3), none, (.p .mv), [.tmp 0]⟩,
     ⟨(some 4), none, (.p .max), [.tmp 3, .const (.int .i64 0)]⟩,
     ⟨(some 5), none, (.p (.bldS #[(.slice none 0 0), (.int .i64 0), (.int .i64 0)] #[(0, 1), (1, 1), (2, 1)] [1])), [.tmp 4]⟩,
     ⟨(some 6), none, (.box 59), [.tmp 5]⟩,
     ⟨(some 2), none, (.p .mv), [.tmp 6]⟩])
   .ret)),
 [.t 2]⟩
theorem ir10_ok : cFn Try.prog Try.f10 = some ir10 := by kernel_rfl

/- pumice/pumicelaw01.few -/
def ir11 : FIR := ⟨35,
 (.seq
  (.ops [⟨(some 2), none, (.p .mv), [.const (.slice none 0 0)]⟩])
  (.seq
   (.ops [⟨(some 3), none, (.p .mv), [.const (.int .i64 100000)]⟩])
   (.seq
    (.seq
     (.ops [⟨(some 5), none, (.p .mv), [.tmp 0]⟩,
       ⟨(some 6), none, (.p .lenS), [.tmp 5]⟩,
       ⟨(some 7), none, (.p .mv), [.const (.int .i64 0)]⟩])
     (.block 0
      (.loop
       (.seq
        (.ops [⟨(some 8), none, (.p (.cmp .lss)), [.tmp 7, .tmp 6]⟩])
        (.seq
         (.cond (.tmp 8)
          .skip
          (.exit 0))
         (.seq
          (.block 1
           (.seq
            (.ops [⟨(some 9), none, (.p .mv), [.tmp 7]⟩,
              ⟨(some 4), none, (.p .mv), [.tmp 9]⟩])
            (.seq
             (.seq
              (.ops [⟨(some 10), none, (.p .mv), [.tmp 4]⟩,
                ⟨(some 11), none, (.p (.cmp .geq)), [.tmp 10, .const (.int .i64 200)]⟩,
                ⟨(some 12), none, (.p .mv), [.tmp 11]⟩,
                ⟨(some 13), (some (12, false)), (.p .mv), [.tmp 0]⟩,
                ⟨(some 14), (some (12, false)), (.p .mv), [.tmp 4]⟩,
                ⟨(some 15), (some (12, false)), (.p (.iaddrS 4)), [.tmp 13, .tmp 14]⟩,
                ⟨(some 16), (some (12, false)), (.p (.faddr 3)), [.tmp 15]⟩,
                ⟨(some 17), (some (12, false)), .load1, [.tmp 16]⟩,
                ⟨(some 18), (some (12, false)), (.p .lenS), [.tmp 17]⟩,
                ⟨(some 19), (some (12, false)), (.p .mv), [.tmp 3]⟩,
                ⟨(some 20), (some (12, false)), (.p (.cmp .gtr)), [.tmp 18, .tmp 19]⟩,
                ⟨(some 21), none, (.p .pick), [.tmp 12, .const (.bool true), .tmp 20]⟩])
              (.cond (.tmp 21)
               (.seq
                (.ops [⟨(some 22), none, (.p .mv), [.tmp 0]⟩,
                  ⟨(some 23), none, (.p .mv), [.tmp 4]⟩,
                  ⟨(some 24), none, (.p (.cutS 4 false true false)), [.tmp 22, .tmp 23]⟩,
                  ⟨(some 2), none, (.p .mv), [.tmp 24]⟩])
                .ret)
               .skip))
             (.ops [⟨(some 25), none, (.p .mv), [.tmp 3]⟩,
               ⟨(some 26), none, (.p .mv), [.tmp 0]⟩,
               ⟨(some 27), none, (.p .mv), [.tmp 4]⟩,
               ⟨(some 28), none, (.p (.iaddrS 4)), [.tmp 26, .tmp 27]⟩,
               ⟨(some 29), none, (.p (.faddr 3)), [.tmp 28]⟩,
               ⟨(some 30), none, .load1, [.tmp 29]⟩,
               ⟨(some 31), none, (.p .lenS), [.tmp 30]⟩,
               ⟨(some 32), none, (.p (.bin .sub)), [.tmp 25, .tmp 31]⟩,
               ⟨(some 3), none, (.p .mv), [.tmp 32]⟩]))))
          (.ops [⟨(some 33), none, (.p (.bin .add)), [.tmp 7, .const (.int .i64 1)]⟩,
            ⟨(some 7), none, (.p .mv), [.tmp 33]⟩])))))))
    (.seq
     (.ops [⟨(some 34), none, (.p .mv), [.tmp 0]⟩,
       ⟨(some 2), none, (.p .mv), [.tmp 34]⟩])
     .ret)))),
 [.t 2]⟩
theorem ir11_ok : cFn Try.prog Try.f11 = some ir11 := by kernel_rfl

/- (*pumice/codec.Writer).Num -/
def ir12 : FIR := ⟨47,
 (.seq
  (.seq
   (.ops [⟨(some 6), none, (.p .mv), [.tmp 0]⟩,
     ⟨(some 7), none, (.p (.isnil true)), [.tmp 6, .const (.pointer none)]⟩,
     ⟨(some 8), none, (.p .mv), [.tmp 7]⟩,
     ⟨(some 9), (some (8, true)), (.p .mv), [.tmp 0]⟩,
     ⟨(some 10), (some (8, true)), (.p .nilchk), [.tmp 9]⟩,
     ⟨(some 11), (some (8, true)), (.p (.faddr 2)), [.tmp 10]⟩,
     ⟨(some 12), (some (8, true)), .load1, [.tmp 11]⟩,
     ⟨(some 13), (some (8, true)), (.p (.cmp .eql)), [.tmp 12, .const (.int .i64 0)]⟩,
     ⟨(some 14), none, (.p .pick), [.tmp 8, .tmp 13, .const (.bool false)]⟩,
     ⟨(some 15), none, (.p .mv), [.tmp 14]⟩,
     ⟨(some 16), (some (15, true)), (.p .mv), [.tmp 2]⟩,
     ⟨(some 17), (some (15, true)), (.p (.cmp .lss)), [.tmp 16, .const (.int .i64 0)]⟩,
     ⟨(some 18), (some (15, true)), (.p .mv), [.tmp 17]⟩,
     ⟨(some 19), (some (18, false)), (.p .mv), [.tmp 2]⟩,
     ⟨(some 20), (some (18, false)), (.p (.cmp .gtr)), [.tmp 19, .const (.int .i64 8)]⟩,
     ⟨(some 21), (some (15, true)), (.p .pick), [.tmp 18, .const (.bool true), .tmp 20]⟩,
     ⟨(some 22), none, (.p .pick), [.tmp 15, .tmp 21, .const (.bool false)]⟩])
   (.cond (.tmp 22)
    (.ops [⟨(some 23), none, (.p .mv), [.tmp 0]⟩,
      ⟨(some 24), none, (.p .nilchk), [.tmp 23]⟩,
      ⟨(some 25), none, (.p (.faddr 2)), [.tmp 24]⟩,
      ⟨none, none, .store1, [.tmp 25, .const (.int .i64 1)]⟩])
    .skip))
  (.seq
   (.seq
    (.ops [⟨(some 26), none, (.p .mv), [.tmp 0]⟩,
      ⟨(some 27), none, (.p .mv), [.tmp 2]⟩,
      ⟨(some 28), none, (.call 29), [.tmp 26, .tmp 27]⟩,
      ⟨(some 29), none, (.p .not), [.tmp 28]⟩])
    (.cond (.tmp 29)
     .ret
     .skip))
   (.seq
    (.ops [⟨(some 30), none, (.p .mv), [.tmp 2]⟩,
      ⟨(some 31), none, (.p .mv), [.const (.int .i64 0)]⟩])
    (.block 0
     (.loop
      (.seq
       (.ops [⟨(some 32), none, (.p (.cmp .lss)), [.tmp 31, .tmp 30]⟩])
       (.seq
        (.cond (.tmp 32)
         .skip
         (.exit 0))
        (.seq
         (.block 1
          (.seq
           (.ops [⟨(some 33), none, (.p .mv), [.tmp 0]⟩,
             ⟨(some 34), none, (.p .mv), [.tmp 0]⟩,
             ⟨(some 35), none, (.p .nilchk), [.tmp 34]⟩,
             ⟨(some 36), none, (.p (.faddr 0)), [.tmp 35]⟩,
             ⟨(some 37), none, .load1, [.tmp 36]⟩,
             ⟨(some 38), none, (.p .mv), [.tmp 1]⟩,
             ⟨(some 39), none, (.p (.conv .u8)), [.tmp 38]⟩,
             ⟨(some 40), none, (.bldSl 5 1 1 #[(.int .u8 0)] [0]), [.tmp 39]⟩,
             ⟨(some 41), none, (.app 27 5 1 1 #[(.int .u8 0)]), [.tmp 37, .tmp 40]⟩,
             ⟨(some 42), none, (.p .nilchk), [.tmp 33]⟩,
             ⟨(some 43), none, (.p (.faddr 0)), [.tmp 42]⟩,
             ⟨none, none, .store1, [.tmp 43, .tmp 41]⟩])
           (.ops [⟨(some 44), none, (.p .mv), [.tmp 1]⟩,
             ⟨(some 45), none, (.p (.bin .shr)), [.tmp 44, .const (.int .u64 8)]⟩,
             ⟨(some 1), none, (.p .mv), [.tmp 45]⟩])))
         (.ops [⟨(some 46), none, (.p (.bin .add)), [.tmp 31, .const (.int .i64 1)]⟩,
           ⟨(some 31), none, (.p .mv), [.tmp 46]⟩]))))))))),
 []⟩
theorem ir12_ok : cFn Try.prog Try.f12 = some ir12 := by kernel_rfl

/- (*pumice/pumiceref01.Writer).Num -/
def ir13 : FIR := ⟨32,
 (.seq
  (.seq
   (.ops [⟨(some 6), none, (.p .mv), [.tmp 0]⟩,
     ⟨(some 7), none, (.p .nilchk), [.tmp 6]⟩,
     ⟨(some 8), none, (.p (.faddr 2)), [.tmp 7]⟩,
     ⟨(some 9), none, .load1, [.tmp 8]⟩,
     ⟨(some 10), none, (.p (.cmp .eql)), [.tmp 9, .const (.int .i64 0)]⟩,
     ⟨(some 11), none, (.p .mv), [.tmp 10]⟩,
     ⟨(some 12), (some (11, true)), (.p .mv), [.tmp 2]⟩,
     ⟨(some 13), (some (11, true)), (.p (.cmp .lss)), [.tmp 12, .const (.int .i64 0)]⟩,
     ⟨(some 14), (some (11, true)), (.p .mv), [.tmp 13]⟩,
     ⟨(some 15), (some (14, false)), (.p .mv), [.tmp 2]⟩,
     ⟨(some 16), (some (14, false)), (.p (.cmp .gtr)), [.tmp 15, .const (.int .i64 8)]⟩,
     ⟨(some 17), (some (11, true)), (.p .pick), [.tmp 14, .const (.bool true), .tmp 16]⟩,
     ⟨(some 18), none, (.p .pick), [.tmp 11, .tmp 17, .const (.bool false)]⟩])
   (.cond (.tmp 18)
    (.ops [⟨(some 19), none, (.p .mv), [.tmp 0]⟩,
      ⟨(some 20), none, (.p .nilchk), [.tmp 19]⟩,
      ⟨(some 21), none, (.p (.faddr 2)), [.tmp 20]⟩,
      ⟨none, none, .store1, [.tmp 21, .const (.int .i64 1)]⟩])
    .skip))
  (.seq
   (.ops [⟨(some 22), none, (.p .mv), [.tmp 0]⟩,
     ⟨(some 23), none, (.p .nilchk), [.tmp 22]⟩,
     ⟨(some 24), none, (.p (.faddr 2)), [.tmp 23]⟩,
     ⟨(some 25), none, .load1, [.tmp 24]⟩,
     ⟨(some 26), none, (.p (.cmp .eql)), [.tmp 25, .const (.int .i64 0)]⟩])
   (.cond (.tmp 26)
    (.ops [⟨(some 27), none, (.p .mv), [.tmp 0]⟩,
      ⟨(some 28), none, (.p .mv), [.tmp 1]⟩,
      ⟨(some 29), none, (.p .mv), [.tmp 2]⟩,
      ⟨(some 30), none, (.call 31), [.tmp 28, .tmp 29]⟩,
      ⟨(some 31), none, (.call 30), [.tmp 27, .tmp 30]⟩])
    .skip))),
 []⟩
theorem ir13_ok : cFn Try.prog Try.f13 = some ir13 := by kernel_rfl

/- (*pumice/codec.Writer).Raw -/
def ir14 : FIR := ⟨17,
 (.seq
  (.ops [⟨(some 4), none, (.p .mv), [.tmp 0]⟩,
    ⟨(some 5), none, (.p .mv), [.tmp 1]⟩,
    ⟨(some 6), none, (.p .lenS), [.tmp 5]⟩,
    ⟨(some 7), none, (.call 29), [.tmp 4, .tmp 6]⟩])
  (.cond (.tmp 7)
   (.ops [⟨(some 8), none, (.p .mv), [.tmp 0]⟩,
     ⟨(some 9), none, (.p .mv), [.tmp 0]⟩,
     ⟨(some 10), none, (.p .nilchk), [.tmp 9]⟩,
     ⟨(some 11), none, (.p (.faddr 0)), [.tmp 10]⟩,
     ⟨(some 12), none, .load1, [.tmp 11]⟩,
     ⟨(some 13), none, (.p .mv), [.tmp 1]⟩,
     ⟨(some 14), none, (.app 27 5 1 1 #[(.int .u8 0)]), [.tmp 12, .tmp 13]⟩,
     ⟨(some 15), none, (.p .nilchk), [.tmp 8]⟩,
     ⟨(some 16), none, (.p (.faddr 0)), [.tmp 15]⟩,
     ⟨none, none, .store1, [.tmp 16, .tmp 14]⟩])
   .skip)),
 []⟩
theorem ir14_ok : cFn Try.prog Try.f14 = some ir14 := by kernel_rfl

/- (*pumice/pumiceref01.Writer).Raw -/
def ir15 : FIR := ⟨7,
 (.ops [⟨(some 4), none, (.p .mv), [.tmp 0]⟩,
   ⟨(some 5), none, (.p .mv), [.tmp 1]⟩,
   ⟨(some 6), none, (.call 30), [.tmp 4, .tmp 5]⟩]),
 []⟩
theorem ir15_ok : cFn Try.prog Try.f15 = some ir15 := by kernel_rfl

/- (*pumice/codec.Writer).Blob -/
def ir16 : FIR := ⟨44,
 (.seq
  (.seq
   (.ops [⟨(some 4), none, (.p .mv), [.tmp 0]⟩,
     ⟨(some 5), none, (.p (.isnil true)), [.tmp 4, .const (.pointer none)]⟩,
     ⟨(some 6), none, (.p .mv), [.tmp 5]⟩,
     ⟨(some 7), (some (6, true)), (.p .mv), [.tmp 0]⟩,
     ⟨(some 8), (some (6, true)), (.p .nilchk), [.tmp 7]⟩,
     ⟨(some 9), (some (6, true)), (.p (.faddr 2)), [.tmp 8]⟩,
     ⟨(some 10), (some (6, true)), .load1, [.tmp 9]⟩,
     ⟨(some 11), (some (6, true)), (.p (.cmp .eql)), [.tmp 10, .const (.int .i64 0)]⟩,
     ⟨(some 12), none, (.p .pick), [.tmp 6, .tmp 11, .const (.bool false)]⟩,
     ⟨(some 13), none, (.p .mv), [.tmp 12]⟩,
     ⟨(some 14), (some (13, true)), (.p .mv), [.tmp 1]⟩,
     ⟨(some 15), (some (13, true)), (.p .lenS), [.tmp 14]⟩,
     ⟨(some 16), (some (13, true)), (.p (.cmp .gtr)), [.tmp 15, .const (.int .i64 65535)]⟩,
     ⟨(some 17), none, (.p .pick), [.tmp 13, .tmp 16, .const (.bool false)]⟩])
   (.cond (.tmp 17)
    (.ops [⟨(some 18), none, (.p .mv), [.tmp 0]⟩,
      ⟨(some 19), none, (.p .nilchk), [.tmp 18]⟩,
      ⟨(some 20), none, (.p (.faddr 2)), [.tmp 19]⟩,
      ⟨none, none, .store1, [.tmp 20, .const (.int .i64 4)]⟩])
    .skip))
  (.seq
   (.ops [⟨(some 21), none, (.p .mv), [.tmp 0]⟩,
     ⟨(some 22), none, (.p .mv), [.tmp 1]⟩,
     ⟨(some 23), none, (.p .lenS), [.tmp 22]⟩,
     ⟨(some 24), none, (.p (.bin .add)), [.tmp 23, .const (.int .i64 2)]⟩,
     ⟨(some 25), none, (.call 29), [.tmp 21, .tmp 24]⟩])
   (.cond (.tmp 25)
    (.ops [⟨(some 26), none, (.p .mv), [.tmp 0]⟩,
      ⟨(some 27), none, (.p .mv), [.tmp 0]⟩,
      ⟨(some 28), none, (.p .nilchk), [.tmp 27]⟩,
      ⟨(some 29), none, (.p (.faddr 0)), [.tmp 28]⟩,
      ⟨(some 30), none, .load1, [.tmp 29]⟩,
      ⟨(some 31), none, (.p .mv), [.tmp 1]⟩,
      ⟨(some 32), none, (.p .lenS), [.tmp 31]⟩,
      ⟨(some 33), none, (.p (.conv .u8)), [.tmp 32]⟩,
      ⟨(some 34), none, (.p .mv), [.tmp 1]⟩,
      ⟨(some 35), none, (.p .lenS), [.tmp 34]⟩,
      ⟨(some 36), none, (.p (.bin .shr)), [.tmp 35, .const (.int .u64 8)]⟩,
      ⟨(some 37), none, (.p (.conv .u8)), [.tmp 36]⟩,
      ⟨(some 38), none, (.bldSl 5 2 1 #[(.int .u8 0), (.int .u8 0)] [0, 1]), [.tmp 33, .tmp 37]⟩,
      ⟨(some 39), none, (.app 27 5 1 1 #[(.int .u8 0)]), [.tmp 30, .tmp 38]⟩,
      ⟨(some 40), none, (.p .mv), [.tmp 1]⟩,
      ⟨(some 41), none, (.app 27 5 1 1 #[(.int .u8 0)]), [.tmp 39, .tmp 40]⟩,
      ⟨(some 42), none, (.p .nilchk), [.tmp 26]⟩,
      ⟨(some 43), none, (.p (.faddr 0)), [.tmp 42]⟩,
      ⟨none, none, .store1, [.tmp 43, .tmp 41]⟩])
    .skip))),
 []⟩
theorem ir16_ok : cFn Try.prog Try.f16 = some ir16 := by kernel_rfl

/- (*pumice/pumiceref01.Writer).Blob -/
def ir17 : FIR := ⟨28,
 (.seq
  (.seq
   (.ops [⟨(some 5), none, (.p .mv), [.tmp 0]⟩,
     ⟨(some 6), none, (.p .nilchk), [.tmp 5]⟩,
     ⟨(some 7), none, (.p (.faddr 2)), [.tmp 6]⟩,
     ⟨(some 8), none, .load1, [.tmp 7]⟩,
     ⟨(some 9), none, (.p (.cmp .eql)), [.tmp 8, .const (.int .i64 0)]⟩,
     ⟨(some 10), none, (.p .mv), [.tmp 9]⟩,
     ⟨(some 11), (some (10, true)), (.p .mv), [.tmp 1]⟩,
     ⟨(some 12), (some (10, true)), (.p .lenS), [.tmp 11]⟩,
     ⟨(some 13), (some (10, true)), (.p (.cmp .gtr)), [.tmp 12, .const (.int .i64 65535)]⟩,
     ⟨(some 14), none, (.p .pick), [.tmp 10, .tmp 13, .const (.bool false)]⟩])
   (.cond (.tmp 14)
    (.ops [⟨(some 15), none, (.p .mv), [.tmp 0]⟩,
      ⟨(some 16), none, (.p .nilchk), [.tmp 15]⟩,
      ⟨(some 17), none, (.p (.faddr 2)), [.tmp 16]⟩,
      ⟨none, none, .store1, [.tmp 17, .const (.int .i64 4)]⟩])
    .skip))
  (.seq
   (.ops [⟨(some 18), none, (.p .mv), [.tmp 1]⟩,
     ⟨(some 19), none, (.p .lenS), [.tmp 18]⟩,
     ⟨(some 20), none, (.p (.conv .u64)), [.tmp 19]⟩,
     ⟨(some 21), none, (.call 31), [.tmp 20, .const (.int .i64 2)]⟩,
     ⟨(some 4), none, (.p .mv), [.tmp 21]⟩])
   (.seq
    (.ops [⟨(some 22), none, (.p .mv), [.tmp 4]⟩,
      ⟨(some 23), none, (.p .mv), [.tmp 1]⟩,
      ⟨(some 24), none, (.app 27 5 1 1 #[(.int .u8 0)]), [.tmp 22, .tmp 23]⟩,
      ⟨(some 4), none, (.p .mv), [.tmp 24]⟩])
    (.ops [⟨(some 25), none, (.p .mv), [.tmp 0]⟩,
      ⟨(some 26), none, (.p .mv), [.tmp 4]⟩,
      ⟨(some 27), none, (.call 30), [.tmp 25, .tmp 26]⟩])))),
 []⟩
theorem ir17_ok : cFn Try.prog Try.f17 = some ir17 := by kernel_rfl

/- (*pumice/codec.Writer).Out -/
def ir18 : FIR := ⟨15,
 (.seq
  (.ops [⟨(some 2), none, (.p .mv), [.const (.slice none 0 0)]⟩,
    ⟨(some 3), none, (.p .mv), [.const (.int .i64 0)]⟩])
  (.seq
   (.seq
    (.ops [⟨(some 4), none, (.p .mv), [.tmp 0]⟩,
      ⟨(some 5), none, (.p (.isnil false)), [.tmp 4, .const (.pointer none)]⟩])
    (.cond (.tmp 5)
     (.seq
      (.ops [⟨(some 2), none, (.p .mv), [.const (.slice none 0 0)]⟩,
        ⟨(some 3), none, (.p .mv), [.const (.int .i64 0)]⟩])
      .ret)
     .skip))
   (.seq
    (.draw [⟨(some 6), none, (.p .mv), [.tmp 0]⟩,
      ⟨(some 7), none, (.p .nilchk), [.tmp 6]⟩,
      ⟨(some 8), none, (.p (.faddr 0)), [.tmp 7]⟩,
      ⟨(some 9), none, .load1, [.tmp 8]⟩,
      ⟨(some 10), none, (.app 27 5 1 1 #[(.int .u8 0)]), [.const (.slice none 0 0), .tmp 9]⟩,
      ⟨(some 11), none, (.p .mv), [.tmp 0]⟩,
      ⟨(some 12), none, (.p .nilchk), [.tmp 11]⟩,
      ⟨(some 13), none, (.p (.faddr 2)), [.tmp 12]⟩,
      ⟨(some 14), none, .load1, [.tmp 13]⟩,
      ⟨(some 2), none, (.p .mv), [.tmp 10]⟩,
      ⟨(some 3), none, (.p .mv), [.tmp 14]⟩] (.pu 0 (.pu 1 (.pu 2 (.pu 5 (.pu 6 (.pu 7 (.fl 3 (.fl 8 (.act true 4 [3] (.pu 9 (.pu 10 .done)) .stop))))))))))
    .ret))),
 [.t 2, .t 3]⟩
theorem ir18_ok : cFn Try.prog Try.f18 = some ir18 := by kernel_rfl

/- pumice/codec.NewReader -/
def ir19 : FIR := ⟨7,
 (.seq
  (.ops [⟨(some 2), none, (.p .mv), [.const (.pointer none)]⟩])
  (.seq
   (.ops [⟨(some 3), none, (.p .mv), [.tmp 0]⟩,
     ⟨(some 4), none, (.app 27 5 1 1 #[(.int .u8 0)]), [.const (.slice none 0 0), .tmp 3]⟩,
     ⟨(some 5), none, (.p (.bldS #[(.slice none 0 0), (.int .i64 0)] #[(0, 1), (1, 1)] [0])), [.tmp 4]⟩,
     ⟨(some 6), none, (.box 64), [.tmp 5]⟩,
     ⟨(some 2), none, (.p .mv), [.tmp 6]⟩])
   .ret)),
 [.t 2]⟩
theorem ir19_ok : cFn Try.prog Try.f19 = some ir19 := by kernel_rfl

/- (*pumice/codec.Reader).Num -/
def ir20 : FIR := ⟨43,
 (.seq
  (.ops [⟨(some 4), none, (.p .mv), [.const (.int .u64 0)]⟩])
  (.seq
   (.seq
    (.ops [⟨(some 6), none, (.p .mv), [.tmp 0]⟩,
      ⟨(some 7), none, (.p (.isnil true)), [.tmp 6, .const (.pointer none)]⟩,
      ⟨(some 8), none, (.p .mv), [.tmp 7]⟩,
      ⟨(some 9), (some (8, true)), (.p .mv), [.tmp 0]⟩,
      ⟨(some 10), (some (8, true)), (.p .nilchk), [.tmp 9]⟩,
      ⟨(some 11), (some (8, true)), (.p (.faddr 1)), [.tmp 10]⟩,
      ⟨(some 12), (some (8, true)), .load1, [.tmp 11]⟩,
      ⟨(some 13), (some (8, true)), (.p (.cmp .eql)), [.tmp 12, .const (.int .i64 0)]⟩,
      ⟨(some 14), none, (.p .pick), [.tmp 8, .tmp 13, .const (.bool false)]⟩,
      ⟨(some 15), none, (.p .mv), [.tmp 14]⟩,
      ⟨(some 16), (some (15, true)), (.p .mv), [.tmp 1]⟩,
      ⟨(some 17), (some (15, true)), (.p (.cmp .gtr)), [.tmp 16, .const (.int .i64 8)]⟩,
      ⟨(some 18), none, (.p .pick), [.tmp 15, .tmp 17, .const (.bool false)]⟩])
    (.cond (.tmp 18)
     (.ops [⟨(some 19), none, (.p .mv), [.tmp 0]⟩,
       ⟨(some 20), none, (.p .nilchk), [.tmp 19]⟩,
       ⟨(some 21), none, (.p (.faddr 1)), [.tmp 20]⟩,
       ⟨none, none, .store1, [.tmp 21, .const (.int .i64 1)]⟩])
     .skip))
   (.seq
    (.seq
     (.ops [⟨(some 22), none, (.p .mv), [.tmp 0]⟩,
       ⟨(some 23), none, (.p .mv), [.tmp 1]⟩,
       ⟨(some 24), none, (.call 32), [.tmp 22, .tmp 23]⟩,
       ⟨(some 25), none, (.p .not), [.tmp 24]⟩])
     (.cond (.tmp 25)
      (.seq
       (.ops [⟨(some 4), none, (.p .mv), [.const (.int .u64 0)]⟩])
       .ret)
      .skip))
    (.seq
     (.ops [⟨(some 26), none, (.p .mv), [.tmp 0]⟩,
       ⟨(some 27), none, (.p .nilchk), [.tmp 26]⟩,
       ⟨(some 28), none, (.p (.faddr 0)), [.tmp 27]⟩,
       ⟨(some 29), none, .load1, [.tmp 28]⟩,
       ⟨(some 30), none, (.p .mv), [.tmp 1]⟩,
       ⟨(some 31), none, (.p (.cutS 1 false true false)), [.tmp 29, .tmp 30]⟩,
       ⟨(some 32), none, (.call 33), [.tmp 31]⟩,
       ⟨(some 5), none, (.p .mv), [.tmp 32]⟩])
     (.seq
      (.ops [⟨(some 33), none, (.p .mv), [.tmp 0]⟩,
        ⟨(some 34), none, (.p .mv), [.tmp 0]⟩,
        ⟨(some 35), none, (.p .nilchk), [.tmp 34]⟩,
        ⟨(some 36), none, (.p (.faddr 0)), [.tmp 35]⟩,
        ⟨(some 37), none, .load1, [.tmp 36]⟩,
        ⟨(some 38), none, (.p .mv), [.tmp 1]⟩,
        ⟨(some 39), none, (.p (.cutS 1 true false false)), [.tmp 37, .tmp 38]⟩,
        ⟨(some 40), none, (.p .nilchk), [.tmp 33]⟩,
        ⟨(some 41), none, (.p (.faddr 0)), [.tmp 40]⟩,
        ⟨none, none, .store1, [.tmp 41, .tmp 39]⟩])
      (.seq
       (.ops [⟨(some 42), none, (.p .mv), [.tmp 5]⟩,
         ⟨(some 4), none, (.p .mv), [.tmp 42]⟩])
       .ret)))))),
 [.t 4]⟩
theorem ir20_ok : cFn Try.prog Try.f20 = some ir20 := by kernel_rfl

/- (*pumice/codec.Reader).End -/
def ir21 : FIR := ⟨24,
 (.seq
  (.ops [⟨(some 2), none, (.p .mv), [.const (.int .i64 0)]⟩])
  (.seq
   (.block 0
    (.seq
     (.ops [⟨(some 4), none, (.p .mv), [.tmp 0]⟩,
       ⟨(some 5), none, (.p (.isnil false)), [.tmp 4, .const (.pointer none)]⟩,
       ⟨(some 3), none, (.p .mv), [.tmp 5]⟩])
     (.cond (.tmp 3)
      (.seq
       (.ops [⟨(some 2), none, (.p .mv), [.const (.int .i64 0)]⟩])
       .ret)
      (.seq
       (.ops [⟨(some 7), none, (.p .mv), [.tmp 0]⟩,
         ⟨(some 8), none, (.p .nilchk), [.tmp 7]⟩,
         ⟨(some 9), none, (.p (.faddr 1)), [.tmp 8]⟩,
         ⟨(some 10), none, .load1, [.tmp 9]⟩,
         ⟨(some 11), none, (.p (.cmp .eql)), [.tmp 10, .const (.int .i64 0)]⟩,
         ⟨(some 12), none, (.p .mv), [.tmp 11]⟩,
         ⟨(some 13), (some (12, true)), (.p .mv), [.tmp 0]⟩,
         ⟨(some 14), (some (12, true)), (.p .nilchk), [.tmp 13]⟩,
         ⟨(some 15), (some (12, true)), (.p (.faddr 0)), [.tmp 14]⟩,
         ⟨(some 16), (some (12, true)), .load1, [.tmp 15]⟩,
         ⟨(some 17), (some (12, true)), (.p .lenS), [.tmp 16]⟩,
         ⟨(some 18), (some (12, true)), (.p (.cmp .gtr)), [.tmp 17, .const (.int .i64 0)]⟩,
         ⟨(some 19), none, (.p .pick), [.tmp 12, .tmp 18, .const (.bool false)]⟩,
         ⟨(some 6), none, (.p .mv), [.tmp 19]⟩])
       (.cond (.tmp 6)
        (.seq
         (.ops [⟨(some 2), none, (.p .mv), [.const (.int .i64 11)]⟩])
         .ret)
        .skip)))))
   (.seq
    (.ops [⟨(some 20), none, (.p .mv), [.tmp 0]⟩,
      ⟨(some 21), none, (.p .nilchk), [.tmp 20]⟩,
      ⟨(some 22), none, (.p (.faddr 1)), [.tmp 21]⟩,
      ⟨(some 23), none, .load1, [.tmp 22]⟩,
      ⟨(some 2), none, (.p .mv), [.tmp 23]⟩])
    .ret))),
 [.t 2]⟩
theorem ir21_ok : cFn Try.prog Try.f21 = some ir21 := by kernel_rfl

/- (*pumice/pumiceref01.Reader).Num -/
def ir22 : FIR := ⟨21,
 (.seq
  (.ops [⟨(some 4), none, (.p .mv), [.const (.int .u64 0)]⟩])
  (.seq
   (.seq
    (.ops [⟨(some 5), none, (.p .mv), [.tmp 0]⟩,
      ⟨(some 6), none, (.p .nilchk), [.tmp 5]⟩,
      ⟨(some 7), none, (.p (.faddr 2)), [.tmp 6]⟩,
      ⟨(some 8), none, .load1, [.tmp 7]⟩,
      ⟨(some 9), none, (.p (.cmp .eql)), [.tmp 8, .const (.int .i64 0)]⟩,
      ⟨(some 10), none, (.p .mv), [.tmp 9]⟩,
      ⟨(some 11), (some (10, true)), (.p .mv), [.tmp 1]⟩,
      ⟨(some 12), (some (10, true)), (.p (.cmp .gtr)), [.tmp 11, .const (.int .i64 8)]⟩,
      ⟨(some 13), none, (.p .pick), [.tmp 10, .tmp 12, .const (.bool false)]⟩])
    (.cond (.tmp 13)
     (.ops [⟨(some 14), none, (.p .mv), [.tmp 0]⟩,
       ⟨(some 15), none, (.p .nilchk), [.tmp 14]⟩,
       ⟨(some 16), none, (.p (.faddr 2)), [.tmp 15]⟩,
       ⟨none, none, .store1, [.tmp 16, .const (.int .i64 1)]⟩])
     .skip))
   (.seq
    (.ops [⟨(some 17), none, (.p .mv), [.tmp 0]⟩,
      ⟨(some 18), none, (.p .mv), [.tmp 1]⟩,
      ⟨(some 19), none, (.call 35), [.tmp 17, .tmp 18]⟩,
      ⟨(some 20), none, (.call 34), [.tmp 19]⟩,
      ⟨(some 4), none, (.p .mv), [.tmp 20]⟩])
    .ret))),
 [.t 4]⟩
theorem ir22_ok : cFn Try.prog Try.f22 = some ir22 := by kernel_rfl

/- (*pumice/codec.Reader).Raw -/
def ir23 : FIR := ⟨27,
 (.seq
  (.ops [⟨(some 4), none, (.p .mv), [.const (.slice none 0 0)]⟩])
  (.seq
   (.seq
    (.ops [⟨(some 6), none, (.p .mv), [.tmp 0]⟩,
      ⟨(some 7), none, (.p .mv), [.tmp 1]⟩,
      ⟨(some 8), none, (.call 32), [.tmp 6, .tmp 7]⟩,
      ⟨(some 9), none, (.p .not), [.tmp 8]⟩])
    (.cond (.tmp 9)
     (.seq
      (.ops [⟨(some 4), none, (.p .mv), [.const (.slice none 0 0)]⟩])
      .ret)
     .skip))
   (.seq
    (.ops [⟨(some 10), none, (.p .mv), [.tmp 0]⟩,
      ⟨(some 11), none, (.p .nilchk), [.tmp 10]⟩,
      ⟨(some 12), none, (.p (.faddr 0)), [.tmp 11]⟩,
      ⟨(some 13), none, .load1, [.tmp 12]⟩,
      ⟨(some 14), none, (.p .mv), [.tmp 1]⟩,
      ⟨(some 15), none, (.p (.cutS 1 false true false)), [.tmp 13, .tmp 14]⟩,
      ⟨(some 16), none, (.app 27 5 1 1 #[(.int .u8 0)]), [.const (.slice none 0 0), .tmp 15]⟩,
      ⟨(some 5), none, (.p .mv), [.tmp 16]⟩])
    (.seq
     (.ops [⟨(some 17), none, (.p .mv), [.tmp 0]⟩,
       ⟨(some 18), none, (.p .mv), [.tmp 0]⟩,
       ⟨(some 19), none, (.p .nilchk), [.tmp 18]⟩,
       ⟨(some 20), none, (.p (.faddr 0)), [.tmp 19]⟩,
       ⟨(some 21), none, .load1, [.tmp 20]⟩,
       ⟨(some 22), none, (.p .mv), [.tmp 1]⟩,
       ⟨(some 23), none, (.p (.cutS 1 true false false)), [.tmp 21, .tmp 22]⟩,
       ⟨(some 24), none, (.p .nilchk), [.tmp 17]⟩,
       ⟨(some 25), none, (.p (.faddr 0)), [.tmp 24]⟩,
       ⟨none, none, .store1, [.tmp 25, .tmp 23]⟩])
     (.seq
      (.ops [⟨(some 26), none, (.p .mv), [.tmp 5]⟩,
        ⟨(some 4), none, (.p .mv), [.tmp 26]⟩])
      .ret))))),
 [.t 4]⟩
theorem ir23_ok : cFn Try.prog Try.f23 = some ir23 := by kernel_rfl

/- (*pumice/pumiceref01.Reader).Raw -/
def ir24 : FIR := ⟨8,
 (.seq
  (.ops [⟨(some 4), none, (.p .mv), [.const (.slice none 0 0)]⟩])
  (.seq
   (.ops [⟨(some 5), none, (.p .mv), [.tmp 0]⟩,
     ⟨(some 6), none, (.p .mv), [.tmp 1]⟩,
     ⟨(some 7), none, (.call 35), [.tmp 5, .tmp 6]⟩,
     ⟨(some 4), none, (.p .mv), [.tmp 7]⟩])
   .ret)),
 [.t 4]⟩
theorem ir24_ok : cFn Try.prog Try.f24 = some ir24 := by kernel_rfl

/- (*pumice/codec.Reader).Blob -/
def ir25 : FIR := ⟨39,
 (.seq
  (.ops [⟨(some 4), none, (.p .mv), [.const (.slice none 0 0)]⟩])
  (.seq
   (.seq
    (.ops [⟨(some 6), none, (.p .mv), [.tmp 0]⟩,
      ⟨(some 7), none, (.call 32), [.tmp 6, .const (.int .i64 2)]⟩,
      ⟨(some 8), none, (.p .not), [.tmp 7]⟩])
    (.cond (.tmp 8)
     (.seq
      (.ops [⟨(some 4), none, (.p .mv), [.const (.slice none 0 0)]⟩])
      .ret)
     .skip))
   (.seq
    (.ops [⟨(some 9), none, (.p .mv), [.tmp 0]⟩,
      ⟨(some 10), none, (.p .nilchk), [.tmp 9]⟩,
      ⟨(some 11), none, (.p (.faddr 0)), [.tmp 10]⟩,
      ⟨(some 12), none, .load1, [.tmp 11]⟩,
      ⟨(some 13), none, (.p (.cutS 1 false true false)), [.tmp 12, .const (.int .i64 2)]⟩,
      ⟨(some 14), none, (.call 33), [.tmp 13]⟩,
      ⟨(some 15), none, (.p (.conv .i64)), [.tmp 14]⟩,
      ⟨(some 5), none, (.p .mv), [.tmp 15]⟩])
    (.seq
     (.seq
      (.ops [⟨(some 16), none, (.p .mv), [.tmp 5]⟩,
        ⟨(some 17), none, (.p .mv), [.tmp 1]⟩,
        ⟨(some 18), none, (.p .max), [.tmp 17, .const (.int .i64 0)]⟩,
        ⟨(some 19), none, (.p (.cmp .gtr)), [.tmp 16, .tmp 18]⟩])
      (.cond (.tmp 19)
       (.seq
        (.ops [⟨(some 20), none, (.p .mv), [.tmp 0]⟩,
          ⟨(some 21), none, (.p .nilchk), [.tmp 20]⟩,
          ⟨(some 22), none, (.p (.faddr 1)), [.tmp 21]⟩,
          ⟨none, none, .store1, [.tmp 22, .const (.int .i64 4)]⟩])
        (.seq
         (.ops [⟨(some 4), none, (.p .mv), [.const (.slice none 0 0)]⟩])
         .ret))
       .skip))
     (.seq
      (.seq
       (.ops [⟨(some 23), none, (.p .mv), [.tmp 0]⟩,
         ⟨(some 24), none, (.p .mv), [.tmp 5]⟩,
         ⟨(some 25), none, (.p (.bin .add)), [.tmp 24, .const (.int .i64 2)]⟩,
         ⟨(some 26), none, (.call 32), [.tmp 23, .tmp 25]⟩,
         ⟨(some 27), none, (.p .not), [.tmp 26]⟩])
       (.cond (.tmp 27)
        (.seq
         (.ops [⟨(some 4), none, (.p .mv), [.const (.slice none 0 0)]⟩])
         .ret)
        .skip))
      (.seq
       (.ops [⟨(some 28), none, (.p .mv), [.tmp 0]⟩,
         ⟨(some 29), none, (.p .mv), [.tmp 0]⟩,
         ⟨(some 30), none, (.p .nilchk), [.tmp 29]⟩,
         ⟨(some 31), none, (.p (.faddr 0)), [.tmp 30]⟩,
         ⟨(some 32), none, .load1, [.tmp 31]⟩,
         ⟨(some 33), none, (.p (.cutS 1 true false false)), [.tmp 32, .const (.int .i64 2)]⟩,
         ⟨(some 34), none, (.p .nilchk), [.tmp 28]⟩,
         ⟨(some 35), none, (.p (.faddr 0)), [.tmp 34]⟩,
         ⟨none, none, .store1, [.tmp 35, .tmp 33]⟩])
       (.seq
        (.ops [⟨(some 36), none, (.p .mv), [.tmp 0]⟩,
          ⟨(some 37), none, (.p .mv), [.tmp 5]⟩,
          ⟨(some 38), none, (.call 23), [.tmp 36, .tmp 37]⟩,
          ⟨(some 4), none, (.p .mv), [.tmp 38]⟩])
        .ret))))))),
 [.t 4]⟩
theorem ir25_ok : cFn Try.prog Try.f25 = some ir25 := by kernel_rfl

/- (*pumice/pumiceref01.Reader).Blob -/
def ir26 : FIR := ⟨43,
 (.seq
  (.ops [⟨(some 4), none, (.p .mv), [.const (.slice none 0 0)]⟩])
  (.seq
   (.ops [⟨(some 8), none, (.p .mv), [.tmp 0]⟩,
     ⟨(some 9), none, (.p .nilchk), [.tmp 8]⟩,
     ⟨(some 10), none, (.p (.faddr 1)), [.tmp 9]⟩,
     ⟨(some 11), none, .load1, [.tmp 10]⟩,
     ⟨(some 5), none, (.p .mv), [.tmp 11]⟩])
   (.seq
    (.ops [⟨(some 12), none, (.p .mv), [.tmp 0]⟩,
      ⟨(some 13), none, (.call 22), [.tmp 12, .const (.int .i64 2)]⟩,
      ⟨(some 6), none, (.p .mv), [.tmp 13]⟩])
    (.seq
     (.seq
      (.ops [⟨(some 14), none, (.p .mv), [.tmp 0]⟩,
        ⟨(some 15), none, (.p .nilchk), [.tmp 14]⟩,
        ⟨(some 16), none, (.p (.faddr 2)), [.tmp 15]⟩,
        ⟨(some 17), none, .load1, [.tmp 16]⟩,
        ⟨(some 18), none, (.p (.cmp .eql)), [.tmp 17, .const (.int .i64 0)]⟩,
        ⟨(some 19), none, (.p .mv), [.tmp 18]⟩,
        ⟨(some 20), (some (19, true)), (.p .mv), [.tmp 6]⟩,
        ⟨(some 21), (some (19, true)), (.p .mv), [.tmp 1]⟩,
        ⟨(some 22), (some (19, true)), (.p .max), [.tmp 21, .const (.int .i64 0)]⟩,
        ⟨(some 23), (some (19, true)), (.p (.conv .u64)), [.tmp 22]⟩,
        ⟨(some 24), (some (19, true)), (.p (.cmp .gtr)), [.tmp 20, .tmp 23]⟩,
        ⟨(some 25), none, (.p .pick), [.tmp 19, .tmp 24, .const (.bool false)]⟩])
      (.cond (.tmp 25)
       (.ops [⟨(some 26), none, (.p .mv), [.tmp 0]⟩,
         ⟨(some 27), none, (.p .nilchk), [.tmp 26]⟩,
         ⟨(some 28), none, (.p (.faddr 2)), [.tmp 27]⟩,
         ⟨none, none, .store1, [.tmp 28, .const (.int .i64 4)]⟩])
       .skip))
     (.seq
      (.ops [⟨(some 29), none, (.p .mv), [.tmp 0]⟩,
        ⟨(some 30), none, (.p .mv), [.tmp 6]⟩,
        ⟨(some 31), none, (.p (.conv .i64)), [.tmp 30]⟩,
        ⟨(some 32), none, (.call 35), [.tmp 29, .tmp 31]⟩,
        ⟨(some 7), none, (.p .mv), [.tmp 32]⟩])
      (.seq
       (.seq
        (.ops [⟨(some 33), none, (.p .mv), [.tmp 0]⟩,
          ⟨(some 34), none, (.p .nilchk), [.tmp 33]⟩,
          ⟨(some 35), none, (.p (.faddr 2)), [.tmp 34]⟩,
          ⟨(some 36), none, .load1, [.tmp 35]⟩,
          ⟨(some 37), none, (.p (.cmp .neq)), [.tmp 36, .const (.int .i64 0)]⟩])
        (.cond (.tmp 37)
         (.ops [⟨(some 38), none, (.p .mv), [.tmp 0]⟩,
           ⟨(some 39), none, (.p .mv), [.tmp 5]⟩,
           ⟨(some 40), none, (.p .nilchk), [.tmp 38]⟩,
           ⟨(some 41), none, (.p (.faddr 1)), [.tmp 40]⟩,
           ⟨none, none, .store1, [.tmp 41, .tmp 39]⟩])
         .skip))
       (.seq
        (.ops [⟨(some 42), none, (.p .mv), [.tmp 7]⟩,
          ⟨(some 4), none, (.p .mv), [.tmp 42]⟩])
        .ret))))))),
 [.t 4]⟩
theorem ir26_ok : cFn Try.prog Try.f26 = some ir26 := by kernel_rfl

/- (*pumice/codec.Reader).Left -/
def ir27 : FIR := ⟨10,
 (.seq
  (.ops [⟨(some 2), none, (.p .mv), [.const (.int .i64 0)]⟩])
  (.seq
   (.seq
    (.ops [⟨(some 3), none, (.p .mv), [.tmp 0]⟩,
      ⟨(some 4), none, (.p (.isnil false)), [.tmp 3, .const (.pointer none)]⟩])
    (.cond (.tmp 4)
     (.seq
      (.ops [⟨(some 2), none, (.p .mv), [.const (.int .i64 0)]⟩])
      .ret)
     .skip))
   (.seq
    (.ops [⟨(some 5), none, (.p .mv), [.tmp 0]⟩,
      ⟨(some 6), none, (.p .nilchk), [.tmp 5]⟩,
      ⟨(some 7), none, (.p (.faddr 0)), [.tmp 6]⟩,
      ⟨(some 8), none, .load1, [.tmp 7]⟩,
      ⟨(some 9), none, (.p .lenS), [.tmp 8]⟩,
      ⟨(some 2), none, (.p .mv), [.tmp 9]⟩])
    .ret))),
 [.t 2]⟩
theorem ir27_ok : cFn Try.prog Try.f27 = some ir27 := by kernel_rfl

/- (*pumice/pumiceref01.Reader).End -/
def ir28 : FIR := ⟨24,
 (.seq
  (.ops [⟨(some 2), none, (.p .mv), [.const (.int .i64 0)]⟩])
  (.seq
   (.seq
    (.draw [⟨(some 3), none, (.p .mv), [.tmp 0]⟩,
      ⟨(some 4), none, (.p .nilchk), [.tmp 3]⟩,
      ⟨(some 5), none, (.p (.faddr 2)), [.tmp 4]⟩,
      ⟨(some 6), none, .load1, [.tmp 5]⟩,
      ⟨(some 7), none, (.p (.cmp .eql)), [.tmp 6, .const (.int .i64 0)]⟩,
      ⟨(some 8), none, (.p .mv), [.tmp 7]⟩,
      ⟨(some 9), (some (8, true)), (.p .mv), [.tmp 0]⟩,
      ⟨(some 10), (some (8, true)), (.p .nilchk), [.tmp 9]⟩,
      ⟨(some 11), (some (8, true)), (.p (.faddr 1)), [.tmp 10]⟩,
      ⟨(some 12), (some (8, true)), .load1, [.tmp 11]⟩,
      ⟨(some 13), (some (8, true)), (.p .mv), [.tmp 0]⟩,
      ⟨(some 14), (some (8, true)), (.p .nilchk), [.tmp 13]⟩,
      ⟨(some 15), (some (8, true)), (.p (.faddr 0)), [.tmp 14]⟩,
      ⟨(some 16), (some (8, true)), .load1, [.tmp 15]⟩,
      ⟨(some 17), (some (8, true)), (.p .lenS), [.tmp 16]⟩,
      ⟨(some 18), (some (8, true)), (.p (.cmp .lss)), [.tmp 12, .tmp 17]⟩,
      ⟨(some 19), none, (.p .pick), [.tmp 8, .tmp 18, .const (.bool false)]⟩] (.pu 0 (.pu 1 (.pu 2 (.fl 3 (.pu 4 (.pu 5 (.pu 6 (.pu 7 (.pu 8 (.pu 10 (.pu 11 (.pu 12 (.fl 9 (.fl 13 (.pu 14 (.pu 15 (.pu 16 .done))))))))))))))))))
    (.cond (.tmp 19)
     (.seq
      (.ops [⟨(some 2), none, (.p .mv), [.const (.int .i64 11)]⟩])
      .ret)
     .skip))
   (.seq
    (.ops [⟨(some 20), none, (.p .mv), [.tmp 0]⟩,
      ⟨(some 21), none, (.p .nilchk), [.tmp 20]⟩,
      ⟨(some 22), none, (.p (.faddr 2)), [.tmp 21]⟩,
      ⟨(some 23), none, .load1, [.tmp 22]⟩,
      ⟨(some 2), none, (.p .mv), [.tmp 23]⟩])
    .ret))),
 [.t 2]⟩
theorem ir28_ok : cFn Try.prog Try.f28 = some ir28 := by kernel_rfl

/- (*pumice/codec.Writer).fits -/
def ir29 : FIR := ⟨29,
 (.seq
  (.ops [⟨(some 4), none, (.p .mv), [.const (.bool false)]⟩])
  (.seq
   (.seq
    (.ops [⟨(some 5), none, (.p .mv), [.tmp 0]⟩,
      ⟨(some 6), none, (.p (.isnil false)), [.tmp 5, .const (.pointer none)]⟩,
      ⟨(some 7), none, (.p .mv), [.tmp 6]⟩,
      ⟨(some 8), (some (7, false)), (.p .mv), [.tmp 0]⟩,
      ⟨(some 9), (some (7, false)), (.p .nilchk), [.tmp 8]⟩,
      ⟨(some 10), (some (7, false)), (.p (.faddr 2)), [.tmp 9]⟩,
      ⟨(some 11), (some (7, false)), .load1, [.tmp 10]⟩,
      ⟨(some 12), (some (7, false)), (.p (.cmp .neq)), [.tmp 11, .const (.int .i64 0)]⟩,
      ⟨(some 13), none, (.p .pick), [.tmp 7, .const (.bool true), .tmp 12]⟩])
    (.cond (.tmp 13)
     (.seq
      (.ops [⟨(some 4), none, (.p .mv), [.const (.bool false)]⟩])
      .ret)
     .skip))
   (.seq
    (.seq
     (.draw [⟨(some 14), none, (.p .mv), [.tmp 1]⟩,
       ⟨(some 15), none, (.p .mv), [.tmp 0]⟩,
       ⟨(some 16), none, (.p .nilchk), [.tmp 15]⟩,
       ⟨(some 17), none, (.p (.faddr 1)), [.tmp 16]⟩,
       ⟨(some 18), none, .load1, [.tmp 17]⟩,
       ⟨(some 19), none, (.p .mv), [.tmp 0]⟩,
       ⟨(some 20), none, (.p .nilchk), [.tmp 19]⟩,
       ⟨(some 21), none, (.p (.faddr 0)), [.tmp 20]⟩,
       ⟨(some 22), none, .load1, [.tmp 21]⟩,
       ⟨(some 23), none, (.p .lenS), [.tmp 22]⟩,
       ⟨(some 24), none, (.p (.bin .sub)), [.tmp 18, .tmp 23]⟩,
       ⟨(some 25), none, (.p (.cmp .gtr)), [.tmp 14, .tmp 24]⟩] (.pu 0 (.pu 1 (.pu 2 (.pu 3 (.pu 5 (.pu 6 (.pu 7 (.fl 4 (.fl 8 (.pu 9 (.pu 10 (.pu 11 .done)))))))))))))
     (.cond (.tmp 25)
      (.seq
       (.ops [⟨(some 26), none, (.p .mv), [.tmp 0]⟩,
         ⟨(some 27), none, (.p .nilchk), [.tmp 26]⟩,
         ⟨(some 28), none, (.p (.faddr 2)), [.tmp 27]⟩,
         ⟨none, none, .store1, [.tmp 28, .const (.int .i64 4)]⟩])
       (.seq
        (.ops [⟨(some 4), none, (.p .mv), [.const (.bool false)]⟩])
        .ret))
      .skip))
    (.seq
     (.ops [⟨(some 4), none, (.p .mv), [.const (.bool true)]⟩])
     .ret)))),
 [.t 4]⟩
theorem ir29_ok : cFn Try.prog Try.f29 = some ir29 := by kernel_rfl

/- (*pumice/pumiceref01.Writer).lay -/
def ir30 : FIR := ⟨35,
 (.seq
  (.seq
   (.ops [⟨(some 4), none, (.p .mv), [.tmp 0]⟩,
     ⟨(some 5), none, (.p .nilchk), [.tmp 4]⟩,
     ⟨(some 6), none, (.p (.faddr 2)), [.tmp 5]⟩,
     ⟨(some 7), none, .load1, [.tmp 6]⟩,
     ⟨(some 8), none, (.p (.cmp .neq)), [.tmp 7, .const (.int .i64 0)]⟩])
   (.cond (.tmp 8)
    .ret
    .skip))
  (.seq
   (.seq
    (.draw [⟨(some 9), none, (.p .mv), [.tmp 1]⟩,
      ⟨(some 10), none, (.p .lenS), [.tmp 9]⟩,
      ⟨(some 11), none, (.p .mv), [.tmp 0]⟩,
      ⟨(some 12), none, (.p .nilchk), [.tmp 11]⟩,
      ⟨(some 13), none, (.p (.faddr 1)), [.tmp 12]⟩,
      ⟨(some 14), none, .load1, [.tmp 13]⟩,
      ⟨(some 15), none, (.p .max), [.tmp 14, .const (.int .i64 0)]⟩,
      ⟨(some 16), none, (.p .mv), [.tmp 0]⟩,
      ⟨(some 17), none, (.p .nilchk), [.tmp 16]⟩,
      ⟨(some 18), none, (.p (.faddr 0)), [.tmp 17]⟩,
      ⟨(some 19), none, .load1, [.tmp 18]⟩,
      ⟨(some 20), none, (.p .lenS), [.tmp 19]⟩,
      ⟨(some 21), none, (.p (.bin .sub)), [.tmp 15, .tmp 20]⟩,
      ⟨(some 22), none, (.p (.cmp .gtr)), [.tmp 10, .tmp 21]⟩] (.pu 0 (.pu 1 (.pu 2 (.pu 3 (.pu 4 (.pu 7 (.pu 8 (.pu 9 (.fl 5 (.pu 6 (.fl 10 (.pu 11 (.pu 12 (.pu 13 .done)))))))))))))))
    (.cond (.tmp 22)
     (.seq
      (.ops [⟨(some 23), none, (.p .mv), [.tmp 0]⟩,
        ⟨(some 24), none, (.p .nilchk), [.tmp 23]⟩,
        ⟨(some 25), none, (.p (.faddr 2)), [.tmp 24]⟩,
        ⟨none, none, .store1, [.tmp 25, .const (.int .i64 4)]⟩])
      .ret)
     .skip))
   (.ops [⟨(some 26), none, (.p .mv), [.tmp 0]⟩,
     ⟨(some 27), none, (.p .mv), [.tmp 0]⟩,
     ⟨(some 28), none, (.p .nilchk), [.tmp 27]⟩,
     ⟨(some 29), none, (.p (.faddr 0)), [.tmp 28]⟩,
     ⟨(some 30), none, .load1, [.tmp 29]⟩,
     ⟨(some 31), none, (.p .mv), [.tmp 1]⟩,
     ⟨(some 32), none, (.app 27 5 1 1 #[(.int .u8 0)]), [.tmp 30, .tmp 31]⟩,
     ⟨(some 33), none, (.p .nilchk), [.tmp 26]⟩,
     ⟨(some 34), none, (.p (.faddr 0)), [.tmp 33]⟩,
     ⟨none, none, .store1, [.tmp 34, .tmp 32]⟩]))),
 []⟩
theorem ir30_ok : cFn Try.prog Try.f30 = some ir30 := by kernel_rfl

/- pumice/pumiceref01.Num -/
def ir31 : FIR := ⟨21,
 (.seq
  (.ops [⟨(some 4), none, (.p .mv), [.const (.slice none 0 0)]⟩])
  (.seq
   (.ops [⟨(some 5), none, (.p .mv), [.const (.slice none 0 0)]⟩])
   (.seq
    (.seq
     (.ops [⟨(some 6), none, (.p .mv), [.const (.int .i64 0)]⟩])
     (.block 0
      (.loop
       (.seq
        (.seq
         (.ops [⟨(some 7), none, (.p .mv), [.tmp 6]⟩,
           ⟨(some 8), none, (.p .mv), [.tmp 1]⟩,
           ⟨(some 9), none, (.p (.cmp .lss)), [.tmp 7, .tmp 8]⟩])
         (.cond (.tmp 9)
          .skip
          (.exit 0)))
        (.seq
         (.block 1
          (.seq
           (.ops [⟨(some 12), none, (.p .mv), [.tmp 5]⟩,
             ⟨(some 13), none, (.p .mv), [.tmp 0]⟩,
             ⟨(some 14), none, (.p (.bin .rem)), [.tmp 13, .const (.int .u64 256)]⟩,
             ⟨(some 15), none, (.p (.conv .u8)), [.tmp 14]⟩,
             ⟨(some 16), none, (.bldSl 5 1 1 #[(.int .u8 0)] [0]), [.tmp 15]⟩,
             ⟨(some 17), none, (.app 27 5 1 1 #[(.int .u8 0)]), [.tmp 12, .tmp 16]⟩,
             ⟨(some 5), none, (.p .mv), [.tmp 17]⟩])
           (.ops [⟨(some 18), none, (.p .mv), [.tmp 0]⟩,
             ⟨(some 19), none, (.p (.bin .quo)), [.tmp 18, .const (.int .u64 256)]⟩,
             ⟨(some 0), none, (.p .mv), [.tmp 19]⟩])))
         (.ops [⟨(some 10), none, (.p .mv), [.tmp 6]⟩,
           ⟨(some 11), none, (.p (.bin .add)), [.tmp 10, .const (.int .i64 1)]⟩,
           ⟨(some 6), none, (.p .mv), [.tmp 11]⟩]))))))
    (.seq
     (.ops [⟨(some 20), none, (.p .mv), [.tmp 5]⟩,
       ⟨(some 4), none, (.p .mv), [.tmp 20]⟩])
     .ret)))),
 [.t 4]⟩
theorem ir31_ok : cFn Try.prog Try.f31 = some ir31 := by kernel_rfl

/- (*pumice/codec.Reader).there -/
def ir32 : FIR := ⟨32,
 (.seq
  (.ops [⟨(some 4), none, (.p .mv), [.const (.bool false)]⟩])
  (.seq
   (.block 0
    (.seq
     (.ops [⟨(some 6), none, (.p .mv), [.tmp 0]⟩,
       ⟨(some 7), none, (.p (.isnil false)), [.tmp 6, .const (.pointer none)]⟩,
       ⟨(some 8), none, (.p .mv), [.tmp 7]⟩,
       ⟨(some 9), (some (8, false)), (.p .mv), [.tmp 0]⟩,
       ⟨(some 10), (some (8, false)), (.p .nilchk), [.tmp 9]⟩,
       ⟨(some 11), (some (8, false)), (.p (.faddr 1)), [.tmp 10]⟩,
       ⟨(some 12), (some (8, false)), .load1, [.tmp 11]⟩,
       ⟨(some 13), (some (8, false)), (.p (.cmp .neq)), [.tmp 12, .const (.int .i64 0)]⟩,
       ⟨(some 14), none, (.p .pick), [.tmp 8, .const (.bool true), .tmp 13]⟩,
       ⟨(some 5), none, (.p .mv), [.tmp 14]⟩])
     (.cond (.tmp 5)
      (.seq
       (.ops [⟨(some 4), none, (.p .mv), [.const (.bool false)]⟩])
       .ret)
      (.seq
       (.ops [⟨(some 16), none, (.p .mv), [.tmp 1]⟩,
         ⟨(some 17), none, (.p (.cmp .lss)), [.tmp 16, .const (.int .i64 0)]⟩,
         ⟨(some 15), none, (.p .mv), [.tmp 17]⟩])
       (.cond (.tmp 15)
        (.seq
         (.ops [⟨(some 18), none, (.p .mv), [.tmp 0]⟩,
           ⟨(some 19), none, (.p .nilchk), [.tmp 18]⟩,
           ⟨(some 20), none, (.p (.faddr 1)), [.tmp 19]⟩,
           ⟨none, none, .store1, [.tmp 20, .const (.int .i64 1)]⟩])
         (.seq
          (.ops [⟨(some 4), none, (.p .mv), [.const (.bool false)]⟩])
          .ret))
        (.seq
         (.ops [⟨(some 22), none, (.p .mv), [.tmp 1]⟩,
           ⟨(some 23), none, (.p .mv), [.tmp 0]⟩,
           ⟨(some 24), none, (.p .nilchk), [.tmp 23]⟩,
           ⟨(some 25), none, (.p (.faddr 0)), [.tmp 24]⟩,
           ⟨(some 26), none, .load1, [.tmp 25]⟩,
           ⟨(some 27), none, (.p .lenS), [.tmp 26]⟩,
           ⟨(some 28), none, (.p (.cmp .gtr)), [.tmp 22, .tmp 27]⟩,
           ⟨(some 21), none, (.p .mv), [.tmp 28]⟩])
         (.cond (.tmp 21)
          (.seq
           (.ops [⟨(some 29), none, (.p .mv), [.tmp 0]⟩,
             ⟨(some 30), none, (.p .nilchk), [.tmp 29]⟩,
             ⟨(some 31), none, (.p (.faddr 1)), [.tmp 30]⟩,
             ⟨none, none, .store1, [.tmp 31, .const (.int .i64 10)]⟩])
           (.seq
            (.ops [⟨(some 4), none, (.p .mv), [.const (.bool false)]⟩])
            .ret))
          .skip)))))))
   (.seq
    (.ops [⟨(some 4), none, (.p .mv), [.const (.bool true)]⟩])
    .ret))),
 [.t 4]⟩
theorem ir32_ok : cFn Try.prog Try.f32 = some ir32 := by kernel_rfl

/- pumice/codec.number -/
def ir33 : FIR := ⟨22,
 (.seq
  (.ops [⟨(some 2), none, (.p .mv), [.const (.int .u64 0)]⟩])
  (.seq
   (.ops [⟨(some 3), none, (.p .mv), [.const (.int .u64 0)]⟩])
   (.seq
    (.seq
     (.ops [⟨(some 6), none, (.p .mv), [.tmp 0]⟩,
       ⟨(some 7), none, (.p .lenS), [.tmp 6]⟩,
       ⟨(some 8), none, (.p .mv), [.const (.int .i64 0)]⟩])
     (.block 0
      (.loop
       (.seq
        (.ops [⟨(some 9), none, (.p (.cmp .lss)), [.tmp 8, .tmp 7]⟩])
        (.seq
         (.cond (.tmp 9)
          .skip
          (.exit 0))
         (.seq
          (.block 1
           (.seq
            (.ops [⟨(some 10), none, (.p .mv), [.tmp 8]⟩,
              ⟨(some 11), none, (.p (.iaddrS 1)), [.tmp 6, .tmp 8]⟩,
              ⟨(some 12), none, .load1, [.tmp 11]⟩,
              ⟨(some 4), none, (.p .mv), [.tmp 10]⟩,
              ⟨(some 5), none, (.p .mv), [.tmp 12]⟩])
            (.ops [⟨(some 13), none, (.p .mv), [.tmp 3]⟩,
              ⟨(some 14), none, (.p .mv), [.tmp 5]⟩,
              ⟨(some 15), none, (.p (.conv .u64)), [.tmp 14]⟩,
              ⟨(some 16), none, (.p .mv), [.tmp 4]⟩,
              ⟨(some 17), none, (.p (.bin .mul)), [.const (.int .i64 8), .tmp 16]⟩,
              ⟨(some 18), none, (.p (.bin .shl)), [.tmp 15, .tmp 17]⟩,
              ⟨(some 19), none, (.p (.bin .or)), [.tmp 13, .tmp 18]⟩,
              ⟨(some 3), none, (.p .mv), [.tmp 19]⟩])))
          (.ops [⟨(some 20), none, (.p (.bin .add)), [.tmp 8, .const (.int .i64 1)]⟩,
            ⟨(some 8), none, (.p .mv), [.tmp 20]⟩])))))))
    (.seq
     (.ops [⟨(some 21), none, (.p .mv), [.tmp 3]⟩,
       ⟨(some 2), none, (.p .mv), [.tmp 21]⟩])
     .ret)))),
 [.t 2]⟩
theorem ir33_ok : cFn Try.prog Try.f33 = some ir33 := by kernel_rfl

/- pumice/pumiceref01.number -/
def ir34 : FIR := ⟨21,
 (.seq
  (.ops [⟨(some 2), none, (.p .mv), [.const (.int .u64 0)]⟩])
  (.seq
   (.ops [⟨(some 3), none, (.p .mv), [.const (.int .u64 0)]⟩])
   (.seq
    (.seq
     (.ops [⟨(some 5), none, (.p .mv), [.tmp 0]⟩,
       ⟨(some 6), none, (.p .lenS), [.tmp 5]⟩,
       ⟨(some 7), none, (.p (.bin .sub)), [.tmp 6, .const (.int .i64 1)]⟩,
       ⟨(some 4), none, (.p .mv), [.tmp 7]⟩])
     (.block 0
      (.loop
       (.seq
        (.seq
         (.ops [⟨(some 8), none, (.p .mv), [.tmp 4]⟩,
           ⟨(some 9), none, (.p (.cmp .geq)), [.tmp 8, .const (.int .i64 0)]⟩])
         (.cond (.tmp 9)
          .skip
          (.exit 0)))
        (.seq
         (.block 1
          (.ops [⟨(some 12), none, (.p .mv), [.tmp 3]⟩,
            ⟨(some 13), none, (.p (.bin .mul)), [.tmp 12, .const (.int .u64 256)]⟩,
            ⟨(some 14), none, (.p .mv), [.tmp 0]⟩,
            ⟨(some 15), none, (.p .mv), [.tmp 4]⟩,
            ⟨(some 16), none, (.p (.iaddrS 1)), [.tmp 14, .tmp 15]⟩,
            ⟨(some 17), none, .load1, [.tmp 16]⟩,
            ⟨(some 18), none, (.p (.conv .u64)), [.tmp 17]⟩,
            ⟨(some 19), none, (.p (.bin .add)), [.tmp 13, .tmp 18]⟩,
            ⟨(some 3), none, (.p .mv), [.tmp 19]⟩]))
         (.ops [⟨(some 10), none, (.p .mv), [.tmp 4]⟩,
           ⟨(some 11), none, (.p (.bin .sub)), [.tmp 10, .const (.int .i64 1)]⟩,
           ⟨(some 4), none, (.p .mv), [.tmp 11]⟩]))))))
    (.seq
     (.ops [⟨(some 20), none, (.p .mv), [.tmp 3]⟩,
       ⟨(some 2), none, (.p .mv), [.tmp 20]⟩])
     .ret)))),
 [.t 2]⟩
theorem ir34_ok : cFn Try.prog Try.f34 = some ir34 := by kernel_rfl

/- (*pumice/pumiceref01.Reader).take -/
def ir35 : FIR := ⟨54,
 (.seq
  (.ops [⟨(some 4), none, (.p .mv), [.const (.slice none 0 0)]⟩])
  (.seq
   (.seq
    (.ops [⟨(some 5), none, (.p .mv), [.tmp 0]⟩,
      ⟨(some 6), none, (.p .nilchk), [.tmp 5]⟩,
      ⟨(some 7), none, (.p (.faddr 2)), [.tmp 6]⟩,
      ⟨(some 8), none, .load1, [.tmp 7]⟩,
      ⟨(some 9), none, (.p (.cmp .neq)), [.tmp 8, .const (.int .i64 0)]⟩])
    (.cond (.tmp 9)
     (.seq
      (.ops [⟨(some 4), none, (.p .mv), [.const (.slice none 0 0)]⟩])
      .ret)
     .skip))
   (.seq
    (.seq
     (.ops [⟨(some 10), none, (.p .mv), [.tmp 1]⟩,
       ⟨(some 11), none, (.p (.cmp .lss)), [.tmp 10, .const (.int .i64 0)]⟩])
     (.cond (.tmp 11)
      (.seq
       (.ops [⟨(some 12), none, (.p .mv), [.tmp 0]⟩,
         ⟨(some 13), none, (.p .nilchk), [.tmp 12]⟩,
         ⟨(some 14), none, (.p (.faddr 2)), [.tmp 13]⟩,
         ⟨none, none, .store1, [.tmp 14, .const (.int .i64 1)]⟩])
       (.seq
        (.ops [⟨(some 4), none, (.p .mv), [.const (.slice none 0 0)]⟩])
        .ret))
      .skip))
    (.seq
     (.seq
      (.draw [⟨(some 15), none, (.p .mv), [.tmp 1]⟩,
        ⟨(some 16), none, (.p .mv), [.tmp 0]⟩,
        ⟨(some 17), none, (.p .nilchk), [.tmp 16]⟩,
        ⟨(some 18), none, (.p (.faddr 0)), [.tmp 17]⟩,
        ⟨(some 19), none, .load1, [.tmp 18]⟩,
        ⟨(some 20), none, (.p .lenS), [.tmp 19]⟩,
        ⟨(some 21), none, (.p .mv), [.tmp 0]⟩,
        ⟨(some 22), none, (.p .nilchk), [.tmp 21]⟩,
        ⟨(some 23), none, (.p (.faddr 1)), [.tmp 22]⟩,
        ⟨(some 24), none, .load1, [.tmp 23]⟩,
        ⟨(some 25), none, (.p (.bin .sub)), [.tmp 20, .tmp 24]⟩,
        ⟨(some 26), none, (.p (.cmp .gtr)), [.tmp 15, .tmp 25]⟩] (.pu 0 (.pu 1 (.pu 2 (.pu 3 (.pu 6 (.pu 7 (.pu 8 (.fl 4 (.pu 5 (.fl 9 (.pu 10 (.pu 11 .done)))))))))))))
      (.cond (.tmp 26)
       (.seq
        (.ops [⟨(some 27), none, (.p .mv), [.tmp 0]⟩,
          ⟨(some 28), none, (.p .nilchk), [.tmp 27]⟩,
          ⟨(some 29), none, (.p (.faddr 2)), [.tmp 28]⟩,
          ⟨none, none, .store1, [.tmp 29, .const (.int .i64 10)]⟩])
        (.seq
         (.ops [⟨(some 4), none, (.p .mv), [.const (.slice none 0 0)]⟩])
         .ret))
       .skip))
     (.seq
      (.ops [⟨(some 30), none, (.p .mv), [.tmp 0]⟩,
        ⟨(some 31), none, (.p .mv), [.tmp 0]⟩,
        ⟨(some 32), none, (.p .nilchk), [.tmp 31]⟩,
        ⟨(some 33), none, (.p (.faddr 1)), [.tmp 32]⟩,
        ⟨(some 34), none, .load1, [.tmp 33]⟩,
        ⟨(some 35), none, (.p .mv), [.tmp 1]⟩,
        ⟨(some 36), none, (.p (.bin .add)), [.tmp 34, .tmp 35]⟩,
        ⟨(some 37), none, (.p .nilchk), [.tmp 30]⟩,
        ⟨(some 38), none, (.p (.faddr 1)), [.tmp 37]⟩,
        ⟨none, none, .store1, [.tmp 38, .tmp 36]⟩])
      (.seq
       (.draw [⟨(some 39), none, (.p .mv), [.tmp 0]⟩,
         ⟨(some 40), none, (.p .nilchk), [.tmp 39]⟩,
         ⟨(some 41), none, (.p (.faddr 0)), [.tmp 40]⟩,
         ⟨(some 42), none, .load1, [.tmp 41]⟩,
         ⟨(some 43), none, (.p .mv), [.tmp 0]⟩,
         ⟨(some 44), none, (.p .nilchk), [.tmp 43]⟩,
         ⟨(some 45), none, (.p (.faddr 1)), [.tmp 44]⟩,
         ⟨(some 46), none, .load1, [.tmp 45]⟩,
         ⟨(some 47), none, (.p .mv), [.tmp 1]⟩,
         ⟨(some 48), none, (.p (.bin .sub)), [.tmp 46, .tmp 47]⟩,
         ⟨(some 49), none, (.p .mv), [.tmp 0]⟩,
         ⟨(some 50), none, (.p .nilchk), [.tmp 49]⟩,
         ⟨(some 51), none, (.p (.faddr 1)), [.tmp 50]⟩,
         ⟨(some 52), none, .load1, [.tmp 51]⟩,
         ⟨(some 53), none, (.p (.cutS 1 true true false)), [.tmp 42, .tmp 48, .tmp 52]⟩,
         ⟨(some 4), none, (.p .mv), [.tmp 53]⟩] (.pu 0 (.pu 1 (.pu 2 (.pu 4 (.pu 5 (.pu 6 (.pu 8 (.pu 10 (.pu 11 (.pu 12 (.fl 3 (.fl 7 (.pu 9 (.fl 13 (.pu 14 (.pu 15 .done)))))))))))))))))
       .ret)))))),
 [.t 4]⟩
theorem ir35_ok : cFn Try.prog Try.f35 = some ir35 := by kernel_rfl

end Go.Proofs.Ytahjmibamponnaa
