/- The typed form of each function, by program (printir.py), checked by the kernel. -/
import Derived.Test.YtffbkmlgmmokiaaDenL
import Derived.Test.YtffbkmlgmmokiaaProg
import Derived.KernelRfl
set_option maxRecDepth 100000
namespace Go.Proofs.Ytffbkmlgmmokiaa

/- pumice/pumicelaw09.PageLays -/
def ir3 : FIR := ⟨37,
 (.seq
  (.ops [⟨(some 1), none, (.box 24), [.tmp 0]⟩,
    ⟨(some 2), none, (.p .mv), [.const (.bool false)]⟩])
  (.seq
   (.ops [⟨(some 8), none, (.call 11), []⟩,
     ⟨(some 3), none, (.p .mv), [.tmp 8]⟩])
   (.seq
    (.seq
     (.ops [⟨(some 9), none, (.p (.faddr 3)), [.tmp 1]⟩,
       ⟨(some 10), none, .load1, [.tmp 9]⟩,
       ⟨(some 11), none, (.p .lenS), [.tmp 10]⟩,
       ⟨(some 12), none, (.p (.cmp .gtr)), [.tmp 11, .const (.int .i64 10000)]⟩])
     (.cond (.tmp 12)
      (.seq
       (.ops [⟨(some 13), none, (.p .mv), [.tmp 3]⟩,
         ⟨(some 2), none, (.p .mv), [.tmp 13]⟩])
       .ret)
      .skip))
    (.seq
     (.ops [⟨(some 15), none, (.loadN 4), [.tmp 1]⟩,
       ⟨(some 16), none, (.call 12), [.tmp 15]⟩,
       ⟨(some 14), none, (.p .mv), [.tmp 16]⟩,
       ⟨(some 17), none, (.p (.ext 0)), [.tmp 14]⟩,
       ⟨(some 18), none, (.p (.ext 1)), [.tmp 14]⟩,
       ⟨(some 4), none, (.p .mv), [.tmp 17]⟩,
       ⟨(some 5), none, (.p .mv), [.tmp 18]⟩])
     (.seq
      (.ops [⟨(some 20), none, (.loadN 4), [.tmp 1]⟩,
        ⟨(some 21), none, (.call 13), [.tmp 20]⟩,
        ⟨(some 19), none, (.p .mv), [.tmp 21]⟩,
        ⟨(some 22), none, (.p (.ext 0)), [.tmp 19]⟩,
        ⟨(some 23), none, (.p (.ext 1)), [.tmp 19]⟩,
        ⟨(some 6), none, (.p .mv), [.tmp 22]⟩,
        ⟨(some 7), none, (.p .mv), [.tmp 23]⟩])
      (.seq
       (.ops [⟨(some 24), none, (.p .mv), [.tmp 3]⟩,
         ⟨(some 25), none, (.p .mv), [.tmp 24]⟩,
         ⟨(some 26), (some (25, true)), (.p .mv), [.tmp 4]⟩,
         ⟨(some 27), (some (25, true)), .b2s, [.tmp 26]⟩,
         ⟨(some 28), (some (25, true)), (.p .mv), [.tmp 6]⟩,
         ⟨(some 29), (some (25, true)), .b2s, [.tmp 28]⟩,
         ⟨(some 30), (some (25, true)), (.p (.seq false)), [.tmp 27, .tmp 29]⟩,
         ⟨(some 31), none, (.p .pick), [.tmp 25, .tmp 30, .const (.bool false)]⟩,
         ⟨(some 32), none, (.p .mv), [.tmp 31]⟩,
         ⟨(some 33), (some (32, true)), (.p .mv), [.tmp 5]⟩,
         ⟨(some 34), (some (32, true)), (.p .mv), [.tmp 7]⟩,
         ⟨(some 35), (some (32, true)), (.p (.cmp .eql)), [.tmp 33, .tmp 34]⟩,
         ⟨(some 36), none, (.p .pick), [.tmp 32, .tmp 35, .const (.bool false)]⟩,
         ⟨(some 2), none, (.p .mv), [.tmp 36]⟩])
       .ret)))))),
 [.t 2]⟩
theorem ir3_ok : cFn Try.prog Try.f3 = some ir3 := by kernel_rfl

/- pumice/pumicelaw09.PageTakes -/
def ir4 : FIR := ⟨51,
 (.seq
  (.ops [⟨(some 2), none, (.p .mv), [.const (.bool false)]⟩])
  (.seq
   (.ops [⟨(some 10), none, (.call 11), []⟩,
     ⟨(some 3), none, (.p .mv), [.tmp 10]⟩])
   (.seq
    (.seq
     (.ops [⟨(some 11), none, (.p .mv), [.tmp 0]⟩,
       ⟨(some 12), none, (.p .lenS), [.tmp 11]⟩,
       ⟨(some 13), none, (.p (.cmp .gtr)), [.tmp 12, .const (.int .i64 10000)]⟩])
     (.cond (.tmp 13)
      (.seq
       (.ops [⟨(some 14), none, (.p .mv), [.tmp 3]⟩,
         ⟨(some 2), none, (.p .mv), [.tmp 14]⟩])
       .ret)
      .skip))
    (.seq
     (.ops [⟨(some 15), none, (.bldSl 5 0 1 #[] []), []⟩,
       ⟨(some 16), none, (.p .mv), [.tmp 0]⟩,
       ⟨(some 17), none, (.app 22 5 1 1 #[(.int .u8 0)]), [.tmp 15, .tmp 16]⟩,
       ⟨(some 4), none, (.p .mv), [.tmp 17]⟩])
     (.seq
      (.ops [⟨(some 19), none, (.p .mv), [.tmp 4]⟩,
        ⟨(some 20), none, (.call 14), [.tmp 19]⟩,
        ⟨(some 18), none, (.p .mv), [.tmp 20]⟩,
        ⟨(some 21), none, (.p (.ext 0)), [.tmp 18]⟩,
        ⟨(some 22), none, (.p (.ext 1)), [.tmp 18]⟩,
        ⟨(some 5), none, (.alloc 24 #[(.int .u8 0), (.bool false), (.bool false), (.slice none 0 0)]), []⟩,
        ⟨none, none, (.storeN 4), [.tmp 5, .tmp 21]⟩,
        ⟨(some 6), none, (.p .mv), [.tmp 22]⟩])
      (.seq
       (.ops [⟨(some 24), none, (.p .mv), [.tmp 0]⟩,
         ⟨(some 25), none, (.call 15), [.tmp 24]⟩,
         ⟨(some 23), none, (.p .mv), [.tmp 25]⟩,
         ⟨(some 26), none, (.p (.ext 0)), [.tmp 23]⟩,
         ⟨(some 27), none, (.p (.ext 1)), [.tmp 23]⟩,
         ⟨(some 7), none, (.alloc 24 #[(.int .u8 0), (.bool false), (.bool false), (.slice none 0 0)]), []⟩,
         ⟨none, none, (.storeN 4), [.tmp 7, .tmp 26]⟩,
         ⟨(some 8), none, (.p .mv), [.tmp 27]⟩])
       (.seq
        (.seq
         (.ops [⟨(some 28), none, (.p .mv), [.tmp 4]⟩,
           ⟨(some 29), none, (.p .lenS), [.tmp 28]⟩,
           ⟨(some 30), none, (.p .mv), [.const (.int .i64 0)]⟩])
         (.block 0
          (.loop
           (.seq
            (.ops [⟨(some 31), none, (.p (.cmp .lss)), [.tmp 30, .tmp 29]⟩])
            (.seq
             (.cond (.tmp 31)
              .skip
              (.exit 0))
             (.seq
              (.block 1
               (.seq
                (.ops [⟨(some 32), none, (.p .mv), [.tmp 30]⟩,
                  ⟨(some 9), none, (.p .mv), [.tmp 32]⟩])
                (.ops [⟨(some 33), none, (.p .mv), [.tmp 4]⟩,
                  ⟨(some 34), none, (.p .mv), [.tmp 9]⟩,
                  ⟨(some 35), none, (.p (.iaddrS 1)), [.tmp 33, .tmp 34]⟩,
                  ⟨(some 36), none, .load1, [.tmp 35]⟩,
                  ⟨(some 37), none, (.p (.bin .xor)), [.tmp 36, .const (.int .u8 85)]⟩,
                  ⟨(some 38), none, (.p (.iaddrS 1)), [.tmp 33, .tmp 34]⟩,
                  ⟨none, none, .store1, [.tmp 38, .tmp 37]⟩])))
              (.ops [⟨(some 39), none, (.p (.bin .add)), [.tmp 30, .const (.int .i64 1)]⟩,
                ⟨(some 30), none, (.p .mv), [.tmp 39]⟩])))))))
        (.seq
         (.ops [⟨(some 40), none, (.p .mv), [.tmp 3]⟩,
           ⟨(some 41), none, (.p .mv), [.tmp 40]⟩,
           ⟨(some 42), (some (41, true)), (.loadN 4), [.tmp 5]⟩,
           ⟨(some 43), (some (41, true)), (.loadN 4), [.tmp 7]⟩,
           ⟨(some 44), (some (41, true)), (.call 16), [.tmp 42, .tmp 43]⟩,
           ⟨(some 45), none, (.p .pick), [.tmp 41, .tmp 44, .const (.bool false)]⟩,
           ⟨(some 46), none, (.p .mv), [.tmp 45]⟩,
           ⟨(some 47), (some (46, true)), (.p .mv), [.tmp 6]⟩,
           ⟨(some 48), (some (46, true)), (.p .mv), [.tmp 8]⟩,
           ⟨(some 49), (some (46, true)), (.p (.cmp .eql)), [.tmp 47, .tmp 48]⟩,
           ⟨(some 50), none, (.p .pick), [.tmp 46, .tmp 49, .const (.bool false)]⟩,
           ⟨(some 2), none, (.p .mv), [.tmp 50]⟩])
         .ret)))))))),
 [.t 2]⟩
theorem ir4_ok : cFn Try.prog Try.f4 = some ir4 := by kernel_rfl

/- pumice/pumicelaw09.PageSplits -/
def ir5 : FIR := ⟨56,
 (.seq
  (.ops [⟨(some 4), none, (.p .mv), [.const (.bool false)]⟩])
  (.seq
   (.ops [⟨(some 11), none, (.call 11), []⟩,
     ⟨(some 5), none, (.p .mv), [.tmp 11]⟩])
   (.seq
    (.seq
     (.ops [⟨(some 12), none, (.p .mv), [.tmp 1]⟩,
       ⟨(some 13), none, (.p .lenS), [.tmp 12]⟩,
       ⟨(some 14), none, (.p (.cmp .gtr)), [.tmp 13, .const (.int .i64 20000)]⟩])
     (.cond (.tmp 14)
      (.seq
       (.ops [⟨(some 15), none, (.p .mv), [.tmp 5]⟩,
         ⟨(some 4), none, (.p .mv), [.tmp 15]⟩])
       .ret)
      .skip))
    (.seq
     (.ops [⟨(some 17), none, (.p .mv), [.tmp 0]⟩,
       ⟨(some 18), none, (.p .mv), [.tmp 1]⟩,
       ⟨(some 19), none, (.call 17), [.tmp 17, .tmp 18]⟩,
       ⟨(some 16), none, (.p .mv), [.tmp 19]⟩,
       ⟨(some 20), none, (.p (.ext 0)), [.tmp 16]⟩,
       ⟨(some 21), none, (.p (.ext 1)), [.tmp 16]⟩,
       ⟨(some 6), none, (.p .mv), [.tmp 20]⟩,
       ⟨(some 7), none, (.p .mv), [.tmp 21]⟩])
     (.seq
      (.ops [⟨(some 23), none, (.p .mv), [.tmp 0]⟩,
        ⟨(some 24), none, (.p .mv), [.tmp 1]⟩,
        ⟨(some 25), none, (.call 18), [.tmp 23, .tmp 24]⟩,
        ⟨(some 22), none, (.p .mv), [.tmp 25]⟩,
        ⟨(some 26), none, (.p (.ext 0)), [.tmp 22]⟩,
        ⟨(some 27), none, (.p (.ext 1)), [.tmp 22]⟩,
        ⟨(some 8), none, (.p .mv), [.tmp 26]⟩,
        ⟨(some 9), none, (.p .mv), [.tmp 27]⟩])
      (.seq
       (.seq
        (.ops [⟨(some 28), none, (.p .mv), [.tmp 7]⟩,
          ⟨(some 29), none, (.p .mv), [.tmp 9]⟩,
          ⟨(some 30), none, (.p (.cmp .neq)), [.tmp 28, .tmp 29]⟩,
          ⟨(some 31), none, (.p .mv), [.tmp 30]⟩,
          ⟨(some 32), (some (31, false)), (.p .mv), [.tmp 6]⟩,
          ⟨(some 33), (some (31, false)), (.p .lenS), [.tmp 32]⟩,
          ⟨(some 34), (some (31, false)), (.p .mv), [.tmp 8]⟩,
          ⟨(some 35), (some (31, false)), (.p .lenS), [.tmp 34]⟩,
          ⟨(some 36), (some (31, false)), (.p (.cmp .neq)), [.tmp 33, .tmp 35]⟩,
          ⟨(some 37), none, (.p .pick), [.tmp 31, .const (.bool true), .tmp 36]⟩])
        (.cond (.tmp 37)
         (.seq
          (.ops [⟨(some 4), none, (.p .mv), [.const (.bool false)]⟩])
          .ret)
         .skip))
       (.seq
        (.seq
         (.ops [⟨(some 38), none, (.p .mv), [.tmp 6]⟩,
           ⟨(some 39), none, (.p .lenS), [.tmp 38]⟩,
           ⟨(some 40), none, (.p .mv), [.const (.int .i64 0)]⟩])
         (.block 0
          (.loop
           (.seq
            (.ops [⟨(some 41), none, (.p (.cmp .lss)), [.tmp 40, .tmp 39]⟩])
            (.seq
             (.cond (.tmp 41)
              .skip
              (.exit 0))
             (.seq
              (.block 1
               (.seq
                (.ops [⟨(some 42), none, (.p .mv), [.tmp 40]⟩,
                  ⟨(some 10), none, (.p .mv), [.tmp 42]⟩])
                (.seq
                 (.draw [⟨(some 43), none, (.p .mv), [.tmp 6]⟩,
                   ⟨(some 44), none, (.p .mv), [.tmp 10]⟩,
                   ⟨(some 45), none, (.p (.iaddrS 1)), [.tmp 43, .tmp 44]⟩,
                   ⟨(some 46), none, .load1, [.tmp 45]⟩,
                   ⟨(some 47), none, .b2s, [.tmp 46]⟩,
                   ⟨(some 48), none, (.p .mv), [.tmp 8]⟩,
                   ⟨(some 49), none, (.p .mv), [.tmp 10]⟩,
                   ⟨(some 50), none, (.p (.iaddrS 1)), [.tmp 48, .tmp 49]⟩,
                   ⟨(some 51), none, .load1, [.tmp 50]⟩,
                   ⟨(some 52), none, .b2s, [.tmp 51]⟩,
                   ⟨(some 53), none, (.p (.seq true)), [.tmp 47, .tmp 52]⟩] (.pu 0 (.pu 1 (.pu 2 (.pu 5 (.pu 6 (.pu 7 (.fl 3 (.fl 8 (.act true 4 [3] (.act true 9 [8] (.pu 10 .done) .stop) (.act false 9 [8] (.act true 4 [3] (.pu 10 .done) .stop) .stop)))))))))))
                 (.cond (.tmp 53)
                  (.seq
                   (.ops [⟨(some 4), none, (.p .mv), [.const (.bool false)]⟩])
                   .ret)
                  .skip))))
              (.ops [⟨(some 54), none, (.p (.bin .add)), [.tmp 40, .const (.int .i64 1)]⟩,
                ⟨(some 40), none, (.p .mv), [.tmp 54]⟩])))))))
        (.seq
         (.ops [⟨(some 55), none, (.p .mv), [.tmp 5]⟩,
           ⟨(some 4), none, (.p .mv), [.tmp 55]⟩])
         .ret)))))))),
 [.t 4]⟩
theorem ir5_ok : cFn Try.prog Try.f5 = some ir5 := by kernel_rfl

/- pumice/pumicelaw09.PageBack -/
def ir6 : FIR := ⟨95,
 (.seq
  (.ops [⟨(some 2), none, (.box 24), [.tmp 0]⟩,
    ⟨(some 4), none, (.p .mv), [.const (.bool false)]⟩])
  (.seq
   (.ops [⟨(some 14), none, (.call 11), []⟩,
     ⟨(some 5), none, (.p .mv), [.tmp 14]⟩])
   (.seq
    (.seq
     (.ops [⟨(some 15), none, (.p (.faddr 3)), [.tmp 2]⟩,
       ⟨(some 16), none, .load1, [.tmp 15]⟩,
       ⟨(some 17), none, (.p .lenS), [.tmp 16]⟩,
       ⟨(some 18), none, (.p (.cmp .gtr)), [.tmp 17, .const (.int .i64 10000)]⟩,
       ⟨(some 19), none, (.p .mv), [.tmp 18]⟩,
       ⟨(some 20), (some (19, false)), (.p .mv), [.tmp 1]⟩,
       ⟨(some 21), (some (19, false)), (.p .lenS), [.tmp 20]⟩,
       ⟨(some 22), (some (19, false)), (.p (.cmp .gtr)), [.tmp 21, .const (.int .i64 10000)]⟩,
       ⟨(some 23), none, (.p .pick), [.tmp 19, .const (.bool true), .tmp 22]⟩])
     (.cond (.tmp 23)
      (.seq
       (.ops [⟨(some 24), none, (.p .mv), [.tmp 5]⟩,
         ⟨(some 4), none, (.p .mv), [.tmp 24]⟩])
       .ret)
      .skip))
    (.seq
     (.ops [⟨(some 26), none, (.loadN 4), [.tmp 2]⟩,
       ⟨(some 27), none, (.call 12), [.tmp 26]⟩,
       ⟨(some 25), none, (.p .mv), [.tmp 27]⟩,
       ⟨(some 28), none, (.p (.ext 0)), [.tmp 25]⟩,
       ⟨(some 29), none, (.p (.ext 1)), [.tmp 25]⟩,
       ⟨(some 6), none, (.p .mv), [.tmp 28]⟩,
       ⟨(some 7), none, (.p .mv), [.tmp 29]⟩])
     (.seq
      (.ops [⟨(some 31), none, (.p .mv), [.tmp 6]⟩,
        ⟨(some 32), none, (.call 14), [.tmp 31]⟩,
        ⟨(some 30), none, (.p .mv), [.tmp 32]⟩,
        ⟨(some 33), none, (.p (.ext 0)), [.tmp 30]⟩,
        ⟨(some 34), none, (.p (.ext 1)), [.tmp 30]⟩,
        ⟨(some 8), none, (.alloc 24 #[(.int .u8 0), (.bool false), (.bool false), (.slice none 0 0)]), []⟩,
        ⟨none, none, (.storeN 4), [.tmp 8, .tmp 33]⟩,
        ⟨(some 9), none, (.p .mv), [.tmp 34]⟩])
      (.seq
       (.seq
        (.ops [⟨(some 35), none, (.p .mv), [.tmp 7]⟩,
          ⟨(some 36), none, (.p (.cmp .eql)), [.tmp 35, .const (.int .i64 0)]⟩,
          ⟨(some 37), none, (.p .mv), [.tmp 36]⟩,
          ⟨(some 38), (some (37, true)), (.p .mv), [.tmp 9]⟩,
          ⟨(some 39), (some (37, true)), (.p (.cmp .neq)), [.tmp 38, .const (.int .i64 0)]⟩,
          ⟨(some 40), (some (37, true)), (.p .mv), [.tmp 39]⟩,
          ⟨(some 41), (some (40, false)), (.loadN 4), [.tmp 2]⟩,
          ⟨(some 42), (some (40, false)), (.loadN 4), [.tmp 8]⟩,
          ⟨(some 43), (some (40, false)), (.call 16), [.tmp 41, .tmp 42]⟩,
          ⟨(some 44), (some (40, false)), (.p .not), [.tmp 43]⟩,
          ⟨(some 45), (some (37, true)), (.p .pick), [.tmp 40, .const (.bool true), .tmp 44]⟩,
          ⟨(some 46), none, (.p .pick), [.tmp 37, .tmp 45, .const (.bool false)]⟩,
          ⟨(some 47), none, (.p .mv), [.tmp 46]⟩,
          ⟨(some 48), (some (47, false)), (.p .mv), [.tmp 7]⟩,
          ⟨(some 49), (some (47, false)), (.p (.cmp .neq)), [.tmp 48, .const (.int .i64 0)]⟩,
          ⟨(some 50), (some (47, false)), (.p .mv), [.tmp 49]⟩,
          ⟨(some 51), (some (50, true)), (.p .mv), [.tmp 6]⟩,
          ⟨(some 52), (some (50, true)), (.p .lenS), [.tmp 51]⟩,
          ⟨(some 53), (some (50, true)), (.p (.cmp .gtr)), [.tmp 52, .const (.int .i64 0)]⟩,
          ⟨(some 54), (some (50, true)), (.p .mv), [.tmp 53]⟩,
          ⟨(some 55), (some (54, false)), (.p .mv), [.tmp 9]⟩,
          ⟨(some 56), (some (54, false)), (.p (.cmp .neq)), [.tmp 55, .const (.int .i64 90)]⟩,
          ⟨(some 57), (some (50, true)), (.p .pick), [.tmp 54, .const (.bool true), .tmp 56]⟩,
          ⟨(some 58), (some (47, false)), (.p .pick), [.tmp 50, .tmp 57, .const (.bool false)]⟩,
          ⟨(some 59), none, (.p .pick), [.tmp 47, .const (.bool true), .tmp 58]⟩])
        (.cond (.tmp 59)
         (.seq
          (.ops [⟨(some 4), none, (.p .mv), [.const (.bool false)]⟩])
          .ret)
         .skip))
       (.seq
        (.ops [⟨(some 61), none, (.p .mv), [.tmp 1]⟩,
          ⟨(some 62), none, (.call 14), [.tmp 61]⟩,
          ⟨(some 60), none, (.p .mv), [.tmp 62]⟩,
          ⟨(some 63), none, (.p (.ext 0)), [.tmp 60]⟩,
          ⟨(some 64), none, (.p (.ext 1)), [.tmp 60]⟩,
          ⟨(some 10), none, (.alloc 24 #[(.int .u8 0), (.bool false), (.bool false), (.slice none 0 0)]), []⟩,
          ⟨none, none, (.storeN 4), [.tmp 10, .tmp 63]⟩,
          ⟨(some 11), none, (.p .mv), [.tmp 64]⟩])
        (.seq
         (.ops [⟨(some 66), none, (.loadN 4), [.tmp 10]⟩,
           ⟨(some 67), none, (.call 12), [.tmp 66]⟩,
           ⟨(some 65), none, (.p .mv), [.tmp 67]⟩,
           ⟨(some 68), none, (.p (.ext 0)), [.tmp 65]⟩,
           ⟨(some 69), none, (.p (.ext 1)), [.tmp 65]⟩,
           ⟨(some 12), none, (.p .mv), [.tmp 68]⟩,
           ⟨(some 13), none, (.p .mv), [.tmp 69]⟩])
         (.seq
          (.ops [⟨(some 70), none, (.p .mv), [.tmp 5]⟩,
            ⟨(some 71), none, (.p .mv), [.tmp 70]⟩,
            ⟨(some 72), (some (71, true)), (.p .mv), [.tmp 11]⟩,
            ⟨(some 73), (some (71, true)), (.p (.cmp .eql)), [.tmp 72, .const (.int .i64 0)]⟩,
            ⟨(some 74), (some (71, true)), (.p .mv), [.tmp 73]⟩,
            ⟨(some 75), (some (74, true)), (.p .mv), [.tmp 13]⟩,
            ⟨(some 76), (some (74, true)), (.p (.cmp .eql)), [.tmp 75, .const (.int .i64 0)]⟩,
            ⟨(some 77), (some (71, true)), (.p .pick), [.tmp 74, .tmp 76, .const (.bool false)]⟩,
            ⟨(some 78), (some (71, true)), (.p .mv), [.tmp 77]⟩,
            ⟨(some 79), (some (78, true)), (.p .mv), [.tmp 12]⟩,
            ⟨(some 80), (some (78, true)), .b2s, [.tmp 79]⟩,
            ⟨(some 81), (some (78, true)), (.p .mv), [.tmp 1]⟩,
            ⟨(some 82), (some (78, true)), .b2s, [.tmp 81]⟩,
            ⟨(some 83), (some (78, true)), (.p (.seq false)), [.tmp 80, .tmp 82]⟩,
            ⟨(some 84), (some (71, true)), (.p .pick), [.tmp 78, .tmp 83, .const (.bool false)]⟩,
            ⟨(some 85), (some (71, true)), (.p .mv), [.tmp 84]⟩,
            ⟨(some 86), (some (85, false)), (.p .mv), [.tmp 11]⟩,
            ⟨(some 87), (some (85, false)), (.p (.cmp .eql)), [.tmp 86, .const (.int .i64 90)]⟩,
            ⟨(some 88), (some (85, false)), (.p .mv), [.tmp 87]⟩,
            ⟨(some 89), (some (88, true)), (.loadN 4), [.tmp 10]⟩,
            ⟨(some 90), (some (88, true)), (.p (.bldS #[(.int .u8 0), (.bool false), (.bool false), (.slice none 0 0)] #[(0, 1), (1, 1), (2, 1), (3, 1)] [])), []⟩,
            ⟨(some 91), (some (88, true)), (.call 16), [.tmp 89, .tmp 90]⟩,
            ⟨(some 92), (some (85, false)), (.p .pick), [.tmp 88, .tmp 91, .const (.bool false)]⟩,
            ⟨(some 93), (some (71, true)), (.p .pick), [.tmp 85, .const (.bool true), .tmp 92]⟩,
            ⟨(some 94), none, (.p .pick), [.tmp 71, .tmp 93, .const (.bool false)]⟩,
            ⟨(some 4), none, (.p .mv), [.tmp 94]⟩])
          .ret))))))))),
 [.t 4]⟩
theorem ir6_ok : cFn Try.prog Try.f6 = some ir6 := by kernel_rfl

/- pumice/pumicelaw09.PageTorn -/
def ir7 : FIR := ⟨71,
 (.seq
  (.ops [⟨(some 2), none, (.box 24), [.tmp 0]⟩,
    ⟨(some 4), none, (.p .mv), [.const (.bool false)]⟩])
  (.seq
   (.ops [⟨(some 11), none, (.call 11), []⟩,
     ⟨(some 5), none, (.p .mv), [.tmp 11]⟩])
   (.seq
    (.ops [⟨(some 12), none, (.p (.faddr 0)), [.tmp 2]⟩,
      ⟨(some 13), none, .load1, [.tmp 12]⟩,
      ⟨(some 14), none, (.p (.bin .rem)), [.tmp 13, .const (.int .u8 64)]⟩,
      ⟨(some 15), none, (.p (.faddr 0)), [.tmp 2]⟩,
      ⟨none, none, .store1, [.tmp 15, .tmp 14]⟩])
    (.seq
     (.seq
      (.ops [⟨(some 16), none, (.p (.faddr 3)), [.tmp 2]⟩,
        ⟨(some 17), none, .load1, [.tmp 16]⟩,
        ⟨(some 18), none, (.p .lenS), [.tmp 17]⟩,
        ⟨(some 19), none, (.p (.cmp .gtr)), [.tmp 18, .const (.int .i64 125)]⟩])
      (.cond (.tmp 19)
       (.seq
        (.ops [⟨(some 20), none, (.p .mv), [.tmp 5]⟩,
          ⟨(some 4), none, (.p .mv), [.tmp 20]⟩])
        .ret)
       .skip))
     (.seq
      (.ops [⟨(some 22), none, (.loadN 4), [.tmp 2]⟩,
        ⟨(some 23), none, (.call 12), [.tmp 22]⟩,
        ⟨(some 21), none, (.p .mv), [.tmp 23]⟩,
        ⟨(some 24), none, (.p (.ext 0)), [.tmp 21]⟩,
        ⟨(some 25), none, (.p (.ext 1)), [.tmp 21]⟩,
        ⟨(some 6), none, (.p .mv), [.tmp 24]⟩,
        ⟨(some 7), none, (.p .mv), [.tmp 25]⟩])
      (.seq
       (.seq
        (.ops [⟨(some 26), none, (.p .mv), [.tmp 7]⟩,
          ⟨(some 27), none, (.p (.cmp .neq)), [.tmp 26, .const (.int .i64 0)]⟩,
          ⟨(some 28), none, (.p .mv), [.tmp 27]⟩,
          ⟨(some 29), (some (28, false)), (.p .mv), [.tmp 6]⟩,
          ⟨(some 30), (some (28, false)), (.p .lenS), [.tmp 29]⟩,
          ⟨(some 31), (some (28, false)), (.p (.cmp .neq)), [.tmp 30, .const (.int .i64 128)]⟩,
          ⟨(some 32), none, (.p .pick), [.tmp 28, .const (.bool true), .tmp 31]⟩])
        (.cond (.tmp 32)
         (.seq
          (.ops [⟨(some 4), none, (.p .mv), [.const (.bool false)]⟩])
          .ret)
         .skip))
       (.seq
        (.ops [⟨(some 33), none, (.p .mv), [.tmp 1]⟩,
          ⟨(some 34), none, (.p (.conv .i64)), [.tmp 33]⟩,
          ⟨(some 35), none, (.p (.bin .rem)), [.tmp 34, .const (.int .i64 129)]⟩,
          ⟨(some 8), none, (.p .mv), [.tmp 35]⟩])
        (.seq
         (.ops [⟨(some 37), none, (.bldSl 5 0 1 #[] []), []⟩,
           ⟨(some 38), none, (.p .mv), [.tmp 6]⟩,
           ⟨(some 39), none, (.p .mv), [.tmp 8]⟩,
           ⟨(some 40), none, (.p (.cutS 1 false true false)), [.tmp 38, .tmp 39]⟩,
           ⟨(some 41), none, (.app 22 5 1 1 #[(.int .u8 0)]), [.tmp 37, .tmp 40]⟩,
           ⟨(some 42), none, (.call 19), []⟩,
           ⟨(some 43), none, (.p .mv), [.tmp 8]⟩,
           ⟨(some 44), none, (.p (.cutS 1 true false false)), [.tmp 42, .tmp 43]⟩,
           ⟨(some 45), none, (.app 22 5 1 1 #[(.int .u8 0)]), [.tmp 41, .tmp 44]⟩,
           ⟨(some 46), none, (.call 14), [.tmp 45]⟩,
           ⟨(some 36), none, (.p .mv), [.tmp 46]⟩,
           ⟨(some 47), none, (.p (.ext 0)), [.tmp 36]⟩,
           ⟨(some 48), none, (.p (.ext 1)), [.tmp 36]⟩,
           ⟨(some 9), none, (.alloc 24 #[(.int .u8 0), (.bool false), (.bool false), (.slice none 0 0)]), []⟩,
           ⟨none, none, (.storeN 4), [.tmp 9, .tmp 47]⟩,
           ⟨(some 10), none, (.p .mv), [.tmp 48]⟩])
         (.seq
          (.seq
           (.ops [⟨(some 49), none, (.p .mv), [.tmp 8]⟩,
             ⟨(some 50), none, (.p (.cmp .eql)), [.tmp 49, .const (.int .i64 128)]⟩])
           (.cond (.tmp 50)
            (.seq
             (.ops [⟨(some 51), none, (.p .mv), [.tmp 5]⟩,
               ⟨(some 52), none, (.p .mv), [.tmp 51]⟩,
               ⟨(some 53), (some (52, true)), (.p .mv), [.tmp 10]⟩,
               ⟨(some 54), (some (52, true)), (.p (.cmp .eql)), [.tmp 53, .const (.int .i64 0)]⟩,
               ⟨(some 55), none, (.p .pick), [.tmp 52, .tmp 54, .const (.bool false)]⟩,
               ⟨(some 56), none, (.p .mv), [.tmp 55]⟩,
               ⟨(some 57), (some (56, true)), (.loadN 4), [.tmp 2]⟩,
               ⟨(some 58), (some (56, true)), (.loadN 4), [.tmp 9]⟩,
               ⟨(some 59), (some (56, true)), (.call 16), [.tmp 57, .tmp 58]⟩,
               ⟨(some 60), none, (.p .pick), [.tmp 56, .tmp 59, .const (.bool false)]⟩,
               ⟨(some 4), none, (.p .mv), [.tmp 60]⟩])
             .ret)
            .skip))
          (.seq
           (.ops [⟨(some 61), none, (.p .mv), [.tmp 5]⟩,
             ⟨(some 62), none, (.p .mv), [.tmp 61]⟩,
             ⟨(some 63), (some (62, true)), (.p .mv), [.tmp 10]⟩,
             ⟨(some 64), (some (62, true)), (.p (.cmp .eql)), [.tmp 63, .const (.int .i64 90)]⟩,
             ⟨(some 65), none, (.p .pick), [.tmp 62, .tmp 64, .const (.bool false)]⟩,
             ⟨(some 66), none, (.p .mv), [.tmp 65]⟩,
             ⟨(some 67), (some (66, true)), (.loadN 4), [.tmp 9]⟩,
             ⟨(some 68), (some (66, true)), (.p (.bldS #[(.int .u8 0), (.bool false), (.bool false), (.slice none 0 0)] #[(0, 1), (1, 1), (2, 1), (3, 1)] [])), []⟩,
             ⟨(some 69), (some (66, true)), (.call 16), [.tmp 67, .tmp 68]⟩,
             ⟨(some 70), none, (.p .pick), [.tmp 66, .tmp 69, .const (.bool false)]⟩,
             ⟨(some 4), none, (.p .mv), [.tmp 70]⟩])
           .ret)))))))))),
 [.t 4]⟩
theorem ir7_ok : cFn Try.prog Try.f7 = some ir7 := by kernel_rfl

/- pumice/pumicelaw09.PageCounts -/
def ir8 : FIR := ⟨97,
 (.seq
  (.ops [⟨(some 4), none, (.p .mv), [.const (.bool false)]⟩])
  (.seq
   (.ops [⟨(some 13), none, (.call 11), []⟩,
     ⟨(some 5), none, (.p .mv), [.tmp 13]⟩])
   (.seq
    (.seq
     (.ops [⟨(some 14), none, (.p .mv), [.tmp 1]⟩,
       ⟨(some 15), none, (.p .lenS), [.tmp 14]⟩,
       ⟨(some 16), none, (.p (.cmp .gtr)), [.tmp 15, .const (.int .i64 8000)]⟩])
     (.cond (.tmp 16)
      (.seq
       (.ops [⟨(some 17), none, (.p .mv), [.tmp 5]⟩,
         ⟨(some 4), none, (.p .mv), [.tmp 17]⟩])
       .ret)
      .skip))
    (.seq
     (.ops [⟨(some 19), none, (.p .mv), [.tmp 0]⟩,
       ⟨(some 20), none, (.p (.bin .rem)), [.tmp 19, .const (.int .u8 64)]⟩,
       ⟨(some 21), none, (.p .mv), [.tmp 1]⟩,
       ⟨(some 22), none, (.call 17), [.tmp 20, .tmp 21]⟩,
       ⟨(some 18), none, (.p .mv), [.tmp 22]⟩,
       ⟨(some 23), none, (.p (.ext 0)), [.tmp 18]⟩,
       ⟨(some 24), none, (.p (.ext 1)), [.tmp 18]⟩,
       ⟨(some 6), none, (.p .mv), [.tmp 23]⟩,
       ⟨(some 7), none, (.p .mv), [.tmp 24]⟩])
     (.seq
      (.seq
       (.ops [⟨(some 25), none, (.p .mv), [.tmp 7]⟩,
         ⟨(some 26), none, (.p (.cmp .neq)), [.tmp 25, .const (.int .i64 0)]⟩,
         ⟨(some 27), none, (.p .mv), [.tmp 26]⟩,
         ⟨(some 28), (some (27, false)), (.p .mv), [.tmp 6]⟩,
         ⟨(some 29), (some (27, false)), (.p .lenS), [.tmp 28]⟩,
         ⟨(some 30), (some (27, false)), (.p .mv), [.tmp 1]⟩,
         ⟨(some 31), (some (27, false)), (.p .lenS), [.tmp 30]⟩,
         ⟨(some 32), (some (27, false)), (.p (.bin .add)), [.tmp 31, .const (.int .i64 125)]⟩,
         ⟨(some 33), (some (27, false)), (.p (.bin .sub)), [.tmp 32, .const (.int .i64 1)]⟩,
         ⟨(some 34), (some (27, false)), (.p (.bin .quo)), [.tmp 33, .const (.int .i64 125)]⟩,
         ⟨(some 35), (some (27, false)), (.p .max), [.const (.int .i64 1), .tmp 34]⟩,
         ⟨(some 36), (some (27, false)), (.p (.cmp .neq)), [.tmp 29, .tmp 35]⟩,
         ⟨(some 37), none, (.p .pick), [.tmp 27, .const (.bool true), .tmp 36]⟩])
       (.cond (.tmp 37)
        (.seq
         (.ops [⟨(some 4), none, (.p .mv), [.const (.bool false)]⟩])
         .ret)
        .skip))
      (.seq
       (.ops [⟨(some 38), none, (.p .mv), [.tmp 1]⟩,
         ⟨(some 39), none, (.p .lenS), [.tmp 38]⟩,
         ⟨(some 8), none, (.p .mv), [.tmp 39]⟩])
       (.seq
        (.seq
         (.ops [⟨(some 40), none, (.p .mv), [.tmp 6]⟩,
           ⟨(some 41), none, (.p .lenS), [.tmp 40]⟩,
           ⟨(some 42), none, (.p .mv), [.const (.int .i64 0)]⟩])
         (.block 0
          (.loop
           (.seq
            (.ops [⟨(some 43), none, (.p (.cmp .lss)), [.tmp 42, .tmp 41]⟩])
            (.seq
             (.cond (.tmp 43)
              .skip
              (.exit 0))
             (.seq
              (.block 1
               (.seq
                (.ops [⟨(some 44), none, (.p .mv), [.tmp 42]⟩,
                  ⟨(some 9), none, (.p .mv), [.tmp 44]⟩])
                (.seq
                 (.ops [⟨(some 46), none, (.p .mv), [.tmp 6]⟩,
                   ⟨(some 47), none, (.p .mv), [.tmp 9]⟩,
                   ⟨(some 48), none, (.p (.iaddrS 1)), [.tmp 46, .tmp 47]⟩,
                   ⟨(some 49), none, .load1, [.tmp 48]⟩,
                   ⟨(some 50), none, (.call 14), [.tmp 49]⟩,
                   ⟨(some 45), none, (.p .mv), [.tmp 50]⟩,
                   ⟨(some 51), none, (.p (.ext 0)), [.tmp 45]⟩,
                   ⟨(some 52), none, (.p (.ext 1)), [.tmp 45]⟩,
                   ⟨(some 10), none, (.alloc 24 #[(.int .u8 0), (.bool false), (.bool false), (.slice none 0 0)]), []⟩,
                   ⟨none, none, (.storeN 4), [.tmp 10, .tmp 51]⟩,
                   ⟨(some 11), none, (.p .mv), [.tmp 52]⟩])
                 (.seq
                  (.ops [⟨(some 53), none, (.p .mv), [.tmp 8]⟩,
                    ⟨(some 54), none, (.p .min), [.tmp 53, .const (.int .i64 125)]⟩,
                    ⟨(some 12), none, (.p .mv), [.tmp 54]⟩])
                  (.seq
                   (.seq
                    (.ops [⟨(some 55), none, (.p .mv), [.tmp 11]⟩,
                      ⟨(some 56), none, (.p (.cmp .neq)), [.tmp 55, .const (.int .i64 0)]⟩,
                      ⟨(some 57), none, (.p .mv), [.tmp 56]⟩,
                      ⟨(some 58), (some (57, false)), (.p (.faddr 0)), [.tmp 10]⟩,
                      ⟨(some 59), (some (57, false)), .load1, [.tmp 58]⟩,
                      ⟨(some 60), (some (57, false)), (.p .mv), [.tmp 0]⟩,
                      ⟨(some 61), (some (57, false)), (.p (.bin .rem)), [.tmp 60, .const (.int .u8 64)]⟩,
                      ⟨(some 62), (some (57, false)), (.p (.cmp .neq)), [.tmp 59, .tmp 61]⟩,
                      ⟨(some 63), none, (.p .pick), [.tmp 57, .const (.bool true), .tmp 62]⟩,
                      ⟨(some 64), none, (.p .mv), [.tmp 63]⟩,
                      ⟨(some 65), (some (64, false)), (.p (.faddr 1)), [.tmp 10]⟩,
                      ⟨(some 66), (some (64, false)), .load1, [.tmp 65]⟩,
                      ⟨(some 67), (some (64, false)), (.p .mv), [.tmp 9]⟩,
                      ⟨(some 68), (some (64, false)), (.p (.cmp .eql)), [.tmp 67, .const (.int .i64 0)]⟩,
                      ⟨(some 69), (some (64, false)), (.p (.beq true)), [.tmp 66, .tmp 68]⟩,
                      ⟨(some 70), none, (.p .pick), [.tmp 64, .const (.bool true), .tmp 69]⟩,
                      ⟨(some 71), none, (.p .mv), [.tmp 70]⟩,
                      ⟨(some 72), (some (71, false)), (.p (.faddr 2)), [.tmp 10]⟩,
                      ⟨(some 73), (some (71, false)), .load1, [.tmp 72]⟩,
                      ⟨(some 74), (some (71, false)), (.p .mv), [.tmp 9]⟩,
                      ⟨(some 75), (some (71, false)), (.p .mv), [.tmp 6]⟩,
                      ⟨(some 76), (some (71, false)), (.p .lenS), [.tmp 75]⟩,
                      ⟨(some 77), (some (71, false)), (.p (.bin .sub)), [.tmp 76, .const (.int .i64 1)]⟩,
                      ⟨(some 78), (some (71, false)), (.p (.cmp .eql)), [.tmp 74, .tmp 77]⟩,
                      ⟨(some 79), (some (71, false)), (.p (.beq true)), [.tmp 73, .tmp 78]⟩,
                      ⟨(some 80), none, (.p .pick), [.tmp 71, .const (.bool true), .tmp 79]⟩,
                      ⟨(some 81), none, (.p .mv), [.tmp 80]⟩,
                      ⟨(some 82), (some (81, false)), (.p (.faddr 3)), [.tmp 10]⟩,
                      ⟨(some 83), (some (81, false)), .load1, [.tmp 82]⟩,
                      ⟨(some 84), (some (81, false)), (.p .lenS), [.tmp 83]⟩,
                      ⟨(some 85), (some (81, false)), (.p .mv), [.tmp 12]⟩,
                      ⟨(some 86), (some (81, false)), (.p (.cmp .neq)), [.tmp 84, .tmp 85]⟩,
                      ⟨(some 87), none, (.p .pick), [.tmp 81, .const (.bool true), .tmp 86]⟩])
                    (.cond (.tmp 87)
                     (.seq
                      (.ops [⟨(some 4), none, (.p .mv), [.const (.bool false)]⟩])
                      .ret)
                     .skip))
                   (.ops [⟨(some 88), none, (.p .mv), [.tmp 8]⟩,
                     ⟨(some 89), none, (.p .mv), [.tmp 12]⟩,
                     ⟨(some 90), none, (.p (.bin .sub)), [.tmp 88, .tmp 89]⟩,
                     ⟨(some 8), none, (.p .mv), [.tmp 90]⟩]))))))
              (.ops [⟨(some 91), none, (.p (.bin .add)), [.tmp 42, .const (.int .i64 1)]⟩,
                ⟨(some 42), none, (.p .mv), [.tmp 91]⟩])))))))
        (.seq
         (.ops [⟨(some 92), none, (.p .mv), [.tmp 5]⟩,
           ⟨(some 93), none, (.p .mv), [.tmp 92]⟩,
           ⟨(some 94), (some (93, true)), (.p .mv), [.tmp 8]⟩,
           ⟨(some 95), (some (93, true)), (.p (.cmp .eql)), [.tmp 94, .const (.int .i64 0)]⟩,
           ⟨(some 96), none, (.p .pick), [.tmp 93, .tmp 95, .const (.bool false)]⟩,
           ⟨(some 4), none, (.p .mv), [.tmp 96]⟩])
         .ret)))))))),
 [.t 4]⟩
theorem ir8_ok : cFn Try.prog Try.f8 = some ir8 := by kernel_rfl

/- pumice/pumicelaw09.PageJoins -/
def ir9 : FIR := ⟨50,
 (.seq
  (.ops [⟨(some 2), none, (.p .mv), [.const (.bool false)]⟩])
  (.seq
   (.ops [⟨(some 12), none, (.p .mv), [.tmp 0]⟩,
     ⟨(some 13), none, (.call 21), [.tmp 12]⟩,
     ⟨(some 14), none, (.call 20), [.tmp 13]⟩,
     ⟨(some 11), none, (.p .mv), [.tmp 14]⟩,
     ⟨(some 15), none, (.p (.ext 0)), [.tmp 11]⟩,
     ⟨(some 16), none, (.p (.ext 1)), [.tmp 11]⟩,
     ⟨(some 17), none, (.p (.ext 2)), [.tmp 11]⟩,
     ⟨(some 18), none, (.p (.ext 3)), [.tmp 11]⟩,
     ⟨(some 3), none, (.p .mv), [.tmp 15]⟩,
     ⟨(some 4), none, (.p .mv), [.tmp 16]⟩,
     ⟨(some 5), none, (.p .mv), [.tmp 17]⟩,
     ⟨(some 6), none, (.p .mv), [.tmp 18]⟩])
   (.seq
    (.ops [⟨(some 20), none, (.p .mv), [.tmp 0]⟩,
      ⟨(some 21), none, (.call 21), [.tmp 20]⟩,
      ⟨(some 22), none, (.call 22), [.tmp 21]⟩,
      ⟨(some 19), none, (.p .mv), [.tmp 22]⟩,
      ⟨(some 23), none, (.p (.ext 0)), [.tmp 19]⟩,
      ⟨(some 24), none, (.p (.ext 1)), [.tmp 19]⟩,
      ⟨(some 25), none, (.p (.ext 2)), [.tmp 19]⟩,
      ⟨(some 26), none, (.p (.ext 3)), [.tmp 19]⟩,
      ⟨(some 7), none, (.p .mv), [.tmp 23]⟩,
      ⟨(some 8), none, (.p .mv), [.tmp 24]⟩,
      ⟨(some 9), none, (.p .mv), [.tmp 25]⟩,
      ⟨(some 10), none, (.p .mv), [.tmp 26]⟩])
    (.seq
     (.ops [⟨(some 27), none, (.call 11), []⟩,
       ⟨(some 28), none, (.p .mv), [.tmp 27]⟩,
       ⟨(some 29), (some (28, true)), (.p .mv), [.tmp 3]⟩,
       ⟨(some 30), (some (28, true)), (.p .mv), [.tmp 7]⟩,
       ⟨(some 31), (some (28, true)), (.p (.cmp .eql)), [.tmp 29, .tmp 30]⟩,
       ⟨(some 32), none, (.p .pick), [.tmp 28, .tmp 31, .const (.bool false)]⟩,
       ⟨(some 33), none, (.p .mv), [.tmp 32]⟩,
       ⟨(some 34), (some (33, true)), (.p .mv), [.tmp 4]⟩,
       ⟨(some 35), (some (33, true)), .b2s, [.tmp 34]⟩,
       ⟨(some 36), (some (33, true)), (.p .mv), [.tmp 8]⟩,
       ⟨(some 37), (some (33, true)), .b2s, [.tmp 36]⟩,
       ⟨(some 38), (some (33, true)), (.p (.seq false)), [.tmp 35, .tmp 37]⟩,
       ⟨(some 39), none, (.p .pick), [.tmp 33, .tmp 38, .const (.bool false)]⟩,
       ⟨(some 40), none, (.p .mv), [.tmp 39]⟩,
       ⟨(some 41), (some (40, true)), (.p .mv), [.tmp 5]⟩,
       ⟨(some 42), (some (40, true)), (.p .mv), [.tmp 9]⟩,
       ⟨(some 43), (some (40, true)), (.p (.cmp .eql)), [.tmp 41, .tmp 42]⟩,
       ⟨(some 44), none, (.p .pick), [.tmp 40, .tmp 43, .const (.bool false)]⟩,
       ⟨(some 45), none, (.p .mv), [.tmp 44]⟩,
       ⟨(some 46), (some (45, true)), (.p .mv), [.tmp 6]⟩,
       ⟨(some 47), (some (45, true)), (.p .mv), [.tmp 10]⟩,
       ⟨(some 48), (some (45, true)), (.p (.cmp .eql)), [.tmp 46, .tmp 47]⟩,
       ⟨(some 49), none, (.p .pick), [.tmp 45, .tmp 48, .const (.bool false)]⟩,
       ⟨(some 2), none, (.p .mv), [.tmp 49]⟩])
     .ret)))),
 [.t 2]⟩
theorem ir9_ok : cFn Try.prog Try.f9 = some ir9 := by kernel_rfl

/- pumice/pumicelaw09.PageWhole -/
def ir10 : FIR := ⟨124,
 (.seq
  (.ops [⟨(some 8), none, (.p .mv), [.const (.bool false)]⟩])
  (.seq
   (.ops [⟨(some 25), none, (.call 11), []⟩,
     ⟨(some 9), none, (.p .mv), [.tmp 25]⟩])
   (.seq
    (.seq
     (.ops [⟨(some 26), none, (.p .mv), [.tmp 1]⟩,
       ⟨(some 27), none, (.p .lenS), [.tmp 26]⟩,
       ⟨(some 28), none, (.p (.cmp .gtr)), [.tmp 27, .const (.int .i64 8000)]⟩])
     (.cond (.tmp 28)
      (.seq
       (.ops [⟨(some 29), none, (.p .mv), [.tmp 9]⟩,
         ⟨(some 8), none, (.p .mv), [.tmp 29]⟩])
       .ret)
      .skip))
    (.seq
     (.ops [⟨(some 31), none, (.p .mv), [.tmp 0]⟩,
       ⟨(some 32), none, (.p (.bin .rem)), [.tmp 31, .const (.int .u8 64)]⟩,
       ⟨(some 33), none, (.p .mv), [.tmp 1]⟩,
       ⟨(some 34), none, (.call 17), [.tmp 32, .tmp 33]⟩,
       ⟨(some 30), none, (.p .mv), [.tmp 34]⟩,
       ⟨(some 35), none, (.p (.ext 0)), [.tmp 30]⟩,
       ⟨(some 36), none, (.p (.ext 1)), [.tmp 30]⟩,
       ⟨(some 10), none, (.p .mv), [.tmp 35]⟩,
       ⟨(some 11), none, (.p .mv), [.tmp 36]⟩])
     (.seq
      (.seq
       (.ops [⟨(some 37), none, (.p .mv), [.tmp 11]⟩,
         ⟨(some 38), none, (.p (.cmp .neq)), [.tmp 37, .const (.int .i64 0)]⟩,
         ⟨(some 39), none, (.p .mv), [.tmp 38]⟩,
         ⟨(some 40), (some (39, false)), (.p .mv), [.tmp 10]⟩,
         ⟨(some 41), (some (39, false)), (.p .lenS), [.tmp 40]⟩,
         ⟨(some 42), (some (39, false)), (.p (.cmp .eql)), [.tmp 41, .const (.int .i64 0)]⟩,
         ⟨(some 43), none, (.p .pick), [.tmp 39, .const (.bool true), .tmp 42]⟩,
         ⟨(some 44), none, (.p .mv), [.tmp 43]⟩,
         ⟨(some 45), (some (44, false)), (.p .mv), [.tmp 10]⟩,
         ⟨(some 46), (some (44, false)), (.p .lenS), [.tmp 45]⟩,
         ⟨(some 47), (some (44, false)), (.p (.cmp .gtr)), [.tmp 46, .const (.int .i64 64)]⟩,
         ⟨(some 48), none, (.p .pick), [.tmp 44, .const (.bool true), .tmp 47]⟩])
       (.cond (.tmp 48)
        (.seq
         (.ops [⟨(some 8), none, (.p .mv), [.const (.bool false)]⟩])
         .ret)
        .skip))
      (.seq
       (.ops [⟨(some 49), none, (.bldSl 22 0 1 #[] []), []⟩,
         ⟨(some 50), none, (.p .mv), [.tmp 10]⟩,
         ⟨(some 51), none, (.app 34 22 1 24 #[(.slice none 0 0)]), [.tmp 49, .tmp 50]⟩,
         ⟨(some 52), none, (.p .mv), [.tmp 2]⟩,
         ⟨(some 53), none, (.call 21), [.tmp 52]⟩,
         ⟨(some 54), none, (.app 34 22 1 24 #[(.slice none 0 0)]), [.tmp 51, .tmp 53]⟩,
         ⟨(some 12), none, (.p .mv), [.tmp 54]⟩])
       (.seq
        (.ops [⟨(some 56), none, (.p .mv), [.tmp 12]⟩,
          ⟨(some 57), none, (.call 20), [.tmp 56]⟩,
          ⟨(some 55), none, (.p .mv), [.tmp 57]⟩,
          ⟨(some 58), none, (.p (.ext 0)), [.tmp 55]⟩,
          ⟨(some 59), none, (.p (.ext 1)), [.tmp 55]⟩,
          ⟨(some 60), none, (.p (.ext 2)), [.tmp 55]⟩,
          ⟨(some 61), none, (.p (.ext 3)), [.tmp 55]⟩,
          ⟨(some 13), none, (.p .mv), [.tmp 58]⟩,
          ⟨(some 14), none, (.p .mv), [.tmp 59]⟩,
          ⟨(some 15), none, (.p .mv), [.tmp 60]⟩,
          ⟨(some 16), none, (.p .mv), [.tmp 61]⟩])
        (.seq
         (.ops [⟨(some 63), none, (.p .mv), [.tmp 10]⟩,
           ⟨(some 64), none, (.p .mv), [.tmp 3]⟩,
           ⟨(some 65), none, (.p (.conv .i64)), [.tmp 64]⟩,
           ⟨(some 66), none, (.p .mv), [.tmp 10]⟩,
           ⟨(some 67), none, (.p .lenS), [.tmp 66]⟩,
           ⟨(some 68), none, (.p (.bin .rem)), [.tmp 65, .tmp 67]⟩,
           ⟨(some 69), none, (.p (.cutS 1 false true false)), [.tmp 63, .tmp 68]⟩,
           ⟨(some 70), none, (.call 20), [.tmp 69]⟩,
           ⟨(some 62), none, (.p .mv), [.tmp 70]⟩,
           ⟨(some 71), none, (.p (.ext 0)), [.tmp 62]⟩,
           ⟨(some 72), none, (.p (.ext 1)), [.tmp 62]⟩,
           ⟨(some 73), none, (.p (.ext 2)), [.tmp 62]⟩,
           ⟨(some 74), none, (.p (.ext 3)), [.tmp 62]⟩,
           ⟨(some 17), none, (.p .mv), [.tmp 71]⟩,
           ⟨(some 18), none, (.p .mv), [.tmp 72]⟩,
           ⟨(some 19), none, (.p .mv), [.tmp 73]⟩,
           ⟨(some 20), none, (.p .mv), [.tmp 74]⟩])
         (.seq
          (.ops [⟨(some 76), none, (.p .mv), [.tmp 10]⟩,
            ⟨(some 77), none, (.p (.cutS 1 true false false)), [.tmp 76, .const (.int .i64 1)]⟩,
            ⟨(some 78), none, (.call 20), [.tmp 77]⟩,
            ⟨(some 75), none, (.p .mv), [.tmp 78]⟩,
            ⟨(some 79), none, (.p (.ext 0)), [.tmp 75]⟩,
            ⟨(some 80), none, (.p (.ext 1)), [.tmp 75]⟩,
            ⟨(some 81), none, (.p (.ext 2)), [.tmp 75]⟩,
            ⟨(some 82), none, (.p (.ext 3)), [.tmp 75]⟩,
            ⟨(some 21), none, (.p .mv), [.tmp 79]⟩,
            ⟨(some 22), none, (.p .mv), [.tmp 80]⟩,
            ⟨(some 23), none, (.p .mv), [.tmp 81]⟩,
            ⟨(some 24), none, (.p .mv), [.tmp 82]⟩])
          (.seq
           (.ops [⟨(some 83), none, (.p .mv), [.tmp 9]⟩,
             ⟨(some 84), none, (.p .mv), [.tmp 83]⟩,
             ⟨(some 85), (some (84, true)), (.p .mv), [.tmp 13]⟩,
             ⟨(some 86), (some (84, true)), (.p .mv), [.tmp 0]⟩,
             ⟨(some 87), (some (84, true)), (.p (.bin .rem)), [.tmp 86, .const (.int .u8 64)]⟩,
             ⟨(some 88), (some (84, true)), (.p (.cmp .eql)), [.tmp 85, .tmp 87]⟩,
             ⟨(some 89), none, (.p .pick), [.tmp 84, .tmp 88, .const (.bool false)]⟩,
             ⟨(some 90), none, (.p .mv), [.tmp 89]⟩,
             ⟨(some 91), (some (90, true)), (.p .mv), [.tmp 14]⟩,
             ⟨(some 92), (some (90, true)), .b2s, [.tmp 91]⟩,
             ⟨(some 93), (some (90, true)), (.p .mv), [.tmp 1]⟩,
             ⟨(some 94), (some (90, true)), .b2s, [.tmp 93]⟩,
             ⟨(some 95), (some (90, true)), (.p (.seq false)), [.tmp 92, .tmp 94]⟩,
             ⟨(some 96), none, (.p .pick), [.tmp 90, .tmp 95, .const (.bool false)]⟩,
             ⟨(some 97), none, (.p .mv), [.tmp 96]⟩,
             ⟨(some 98), (some (97, true)), (.p .mv), [.tmp 15]⟩,
             ⟨(some 99), (some (97, true)), (.p .mv), [.tmp 10]⟩,
             ⟨(some 100), (some (97, true)), (.p .lenS), [.tmp 99]⟩,
             ⟨(some 101), (some (97, true)), (.p (.cmp .eql)), [.tmp 98, .tmp 100]⟩,
             ⟨(some 102), none, (.p .pick), [.tmp 97, .tmp 101, .const (.bool false)]⟩,
             ⟨(some 103), none, (.p .mv), [.tmp 102]⟩,
             ⟨(some 104), (some (103, true)), (.p .mv), [.tmp 16]⟩,
             ⟨(some 105), (some (103, true)), (.p (.cmp .eql)), [.tmp 104, .const (.int .i64 0)]⟩,
             ⟨(some 106), none, (.p .pick), [.tmp 103, .tmp 105, .const (.bool false)]⟩,
             ⟨(some 107), none, (.p .mv), [.tmp 106]⟩,
             ⟨(some 108), (some (107, true)), (.p .mv), [.tmp 18]⟩,
             ⟨(some 109), (some (107, true)), (.p .lenS), [.tmp 108]⟩,
             ⟨(some 110), (some (107, true)), (.p (.cmp .eql)), [.tmp 109, .const (.int .i64 0)]⟩,
             ⟨(some 111), none, (.p .pick), [.tmp 107, .tmp 110, .const (.bool false)]⟩,
             ⟨(some 112), none, (.p .mv), [.tmp 111]⟩,
             ⟨(some 113), (some (112, true)), (.p .mv), [.tmp 19]⟩,
             ⟨(some 114), (some (112, true)), (.p (.cmp .eql)), [.tmp 113, .const (.int .i64 0)]⟩,
             ⟨(some 115), none, (.p .pick), [.tmp 112, .tmp 114, .const (.bool false)]⟩,
             ⟨(some 116), none, (.p .mv), [.tmp 115]⟩,
             ⟨(some 117), (some (116, true)), (.p .mv), [.tmp 20]⟩,
             ⟨(some 118), (some (116, true)), (.p (.cmp .eql)), [.tmp 117, .const (.int .i64 90)]⟩,
             ⟨(some 119), none, (.p .pick), [.tmp 116, .tmp 118, .const (.bool false)]⟩,
             ⟨(some 120), none, (.p .mv), [.tmp 119]⟩,
             ⟨(some 121), (some (120, true)), (.p .mv), [.tmp 24]⟩,
             ⟨(some 122), (some (120, true)), (.p (.cmp .eql)), [.tmp 121, .const (.int .i64 90)]⟩,
             ⟨(some 123), none, (.p .pick), [.tmp 120, .tmp 122, .const (.bool false)]⟩,
             ⟨(some 8), none, (.p .mv), [.tmp 123]⟩])
           .ret)))))))))),
 [.t 8]⟩
theorem ir10_ok : cFn Try.prog Try.f10 = some ir10 := by kernel_rfl

/- pumice/pumicelaw09.shown -/
def ir11 : FIR := ⟨56,
 (.seq
  (.ops [⟨(some 0), none, (.p .mv), [.const (.bool false)]⟩])
  (.seq
   (.ops [⟨(some 8), none, (.bldSl 5 2 1 #[(.int .u8 0), (.int .u8 0)] [0, 1]), [.const (.int .u8 97), .const (.int .u8 98)]⟩,
     ⟨(some 9), none, .mark, [.tmp 8]⟩,
     ⟨(some 10), none, (.p (.bldS #[(.int .u8 0), (.bool false), (.bool false), (.slice none 0 0)] #[(0, 1), (1, 1), (2, 1), (3, 1)] [0, 1, 2, 3])), [.const (.int .u8 2), .const (.bool true), .const (.bool true), .tmp 9]⟩,
     ⟨(some 11), none, (.call 12), [.tmp 10]⟩,
     ⟨(some 7), none, (.p .mv), [.tmp 11]⟩,
     ⟨(some 12), none, (.p (.ext 0)), [.tmp 7]⟩,
     ⟨(some 13), none, (.p (.ext 1)), [.tmp 7]⟩,
     ⟨(some 1), none, (.p .mv), [.tmp 12]⟩,
     ⟨(some 2), none, (.p .mv), [.tmp 13]⟩])
   (.seq
    (.ops [⟨(some 15), none, (.call 19), []⟩,
      ⟨(some 16), none, (.call 14), [.tmp 15]⟩,
      ⟨(some 14), none, (.p .mv), [.tmp 16]⟩,
      ⟨(some 17), none, (.p (.ext 0)), [.tmp 14]⟩,
      ⟨(some 18), none, (.p (.ext 1)), [.tmp 14]⟩,
      ⟨(some 3), none, (.alloc 24 #[(.int .u8 0), (.bool false), (.bool false), (.slice none 0 0)]), []⟩,
      ⟨none, none, (.storeN 4), [.tmp 3, .tmp 17]⟩,
      ⟨(some 4), none, (.p .mv), [.tmp 18]⟩])
    (.seq
     (.ops [⟨(some 20), none, (.mkS 5 1 1 #[(.int .u8 0)]), [.const (.int .i64 126), .const (.int .i64 126)]⟩,
       ⟨(some 21), none, (.call 17), [.const (.int .u8 2), .tmp 20]⟩,
       ⟨(some 19), none, (.p .mv), [.tmp 21]⟩,
       ⟨(some 22), none, (.p (.ext 0)), [.tmp 19]⟩,
       ⟨(some 23), none, (.p (.ext 1)), [.tmp 19]⟩,
       ⟨(some 5), none, (.p .mv), [.tmp 22]⟩,
       ⟨(some 6), none, (.p .mv), [.tmp 23]⟩])
     (.seq
      (.ops [⟨(some 24), none, (.p .mv), [.tmp 2]⟩,
        ⟨(some 25), none, (.p (.cmp .eql)), [.tmp 24, .const (.int .i64 0)]⟩,
        ⟨(some 26), none, (.p .mv), [.tmp 25]⟩,
        ⟨(some 27), (some (26, true)), (.p .mv), [.tmp 1]⟩,
        ⟨(some 28), (some (26, true)), (.p .lenS), [.tmp 27]⟩,
        ⟨(some 29), (some (26, true)), (.p (.cmp .eql)), [.tmp 28, .const (.int .i64 128)]⟩,
        ⟨(some 30), none, (.p .pick), [.tmp 26, .tmp 29, .const (.bool false)]⟩,
        ⟨(some 31), none, (.p .mv), [.tmp 30]⟩,
        ⟨(some 32), (some (31, true)), (.p .mv), [.tmp 1]⟩,
        ⟨(some 33), (some (31, true)), (.p (.cutS 1 false true false)), [.tmp 32, .const (.int .i64 5)]⟩,
        ⟨(some 34), (some (31, true)), .b2s, [.tmp 33]⟩,
        ⟨(some 35), (some (31, true)), (.p (.seq false)), [.tmp 34, .const (.string ⟨#[194, 2, 97, 98, 0]⟩)]⟩,
        ⟨(some 36), none, (.p .pick), [.tmp 31, .tmp 35, .const (.bool false)]⟩,
        ⟨(some 37), none, (.p .mv), [.tmp 36]⟩,
        ⟨(some 38), (some (37, true)), (.p .mv), [.tmp 1]⟩,
        ⟨(some 39), (some (37, true)), (.p (.iaddrS 1)), [.tmp 38, .const (.int .i64 127)]⟩,
        ⟨(some 40), (some (37, true)), .load1, [.tmp 39]⟩,
        ⟨(some 41), (some (37, true)), (.p (.cmp .eql)), [.tmp 40, .const (.int .u8 90)]⟩,
        ⟨(some 42), none, (.p .pick), [.tmp 37, .tmp 41, .const (.bool false)]⟩,
        ⟨(some 43), none, (.p .mv), [.tmp 42]⟩,
        ⟨(some 44), (some (43, true)), (.p .mv), [.tmp 4]⟩,
        ⟨(some 45), (some (43, true)), (.p (.cmp .eql)), [.tmp 44, .const (.int .i64 90)]⟩,
        ⟨(some 46), none, (.p .pick), [.tmp 43, .tmp 45, .const (.bool false)]⟩,
        ⟨(some 47), none, (.p .mv), [.tmp 46]⟩,
        ⟨(some 48), (some (47, true)), (.p .mv), [.tmp 6]⟩,
        ⟨(some 49), (some (47, true)), (.p (.cmp .eql)), [.tmp 48, .const (.int .i64 0)]⟩,
        ⟨(some 50), none, (.p .pick), [.tmp 47, .tmp 49, .const (.bool false)]⟩,
        ⟨(some 51), none, (.p .mv), [.tmp 50]⟩,
        ⟨(some 52), (some (51, true)), (.p .mv), [.tmp 5]⟩,
        ⟨(some 53), (some (51, true)), (.p .lenS), [.tmp 52]⟩,
        ⟨(some 54), (some (51, true)), (.p (.cmp .eql)), [.tmp 53, .const (.int .i64 2)]⟩,
        ⟨(some 55), none, (.p .pick), [.tmp 51, .tmp 54, .const (.bool false)]⟩,
        ⟨(some 0), none, (.p .mv), [.tmp 55]⟩])
      .ret))))),
 [.t 0]⟩
theorem ir11_ok : cFn Try.prog Try.f11 = some ir11 := by kernel_rfl

/- pumice/page.Lay -/
def ir12 : FIR := ⟨17,
 (.seq
  (.ops [⟨(some 1), none, (.box 24), [.tmp 0]⟩,
    ⟨(some 2), none, (.p .mv), [.const (.slice none 0 0)]⟩,
    ⟨(some 3), none, (.p .mv), [.const (.int .i64 0)]⟩])
  (.seq
   (.block 0
    (.seq
     (.ops [⟨(some 6), none, (.p (.faddr 0)), [.tmp 1]⟩,
       ⟨(some 7), none, .load1, [.tmp 6]⟩,
       ⟨(some 8), none, (.p (.cmp .gtr)), [.tmp 7, .const (.int .u8 63)]⟩,
       ⟨(some 5), none, (.p .mv), [.tmp 8]⟩])
     (.cond (.tmp 5)
      (.seq
       (.ops [⟨(some 2), none, (.p .mv), [.const (.slice none 0 0)]⟩,
         ⟨(some 3), none, (.p .mv), [.const (.int .i64 1)]⟩])
       .ret)
      (.seq
       (.ops [⟨(some 10), none, (.p (.faddr 3)), [.tmp 1]⟩,
         ⟨(some 11), none, .load1, [.tmp 10]⟩,
         ⟨(some 12), none, (.p .lenS), [.tmp 11]⟩,
         ⟨(some 13), none, (.p (.cmp .gtr)), [.tmp 12, .const (.int .i64 125)]⟩,
         ⟨(some 9), none, (.p .mv), [.tmp 13]⟩])
       (.cond (.tmp 9)
        (.seq
         (.ops [⟨(some 2), none, (.p .mv), [.const (.slice none 0 0)]⟩,
           ⟨(some 3), none, (.p .mv), [.const (.int .i64 4)]⟩])
         .ret)
        .skip)))))
   (.seq
    (.ops [⟨(some 14), none, (.loadN 4), [.tmp 1]⟩,
      ⟨(some 15), none, (.call 23), [.tmp 14]⟩,
      ⟨(some 4), none, (.alloc 47 (Array.replicate 128 (.int .u8 0))), []⟩,
      ⟨none, none, (.storeN 128), [.tmp 4, .tmp 15]⟩])
    (.seq
     (.ops [⟨(some 16), none, (.p (.cutA 128 1 false false false)), [.tmp 4]⟩,
       ⟨(some 2), none, (.p .mv), [.tmp 16]⟩,
       ⟨(some 3), none, (.p .mv), [.const (.int .i64 0)]⟩])
     .ret)))),
 [.t 2, .t 3]⟩
theorem ir12_ok : cFn Try.prog Try.f12 = some ir12 := by kernel_rfl

/- pumice/pumiceref09.Lay -/
def ir13 : FIR := ⟨43,
 (.seq
  (.ops [⟨(some 1), none, (.box 24), [.tmp 0]⟩,
    ⟨(some 2), none, (.p .mv), [.const (.slice none 0 0)]⟩,
    ⟨(some 3), none, (.p .mv), [.const (.int .i64 0)]⟩])
  (.seq
   (.seq
    (.ops [⟨(some 6), none, (.p (.faddr 0)), [.tmp 1]⟩,
      ⟨(some 7), none, .load1, [.tmp 6]⟩,
      ⟨(some 8), none, (.p (.cmp .gtr)), [.tmp 7, .const (.int .u8 63)]⟩])
    (.cond (.tmp 8)
     (.seq
      (.ops [⟨(some 2), none, (.p .mv), [.const (.slice none 0 0)]⟩,
        ⟨(some 3), none, (.p .mv), [.const (.int .i64 1)]⟩])
      .ret)
     .skip))
   (.seq
    (.seq
     (.ops [⟨(some 9), none, (.p (.faddr 3)), [.tmp 1]⟩,
       ⟨(some 10), none, .load1, [.tmp 9]⟩,
       ⟨(some 11), none, (.p .lenS), [.tmp 10]⟩,
       ⟨(some 12), none, (.p (.cmp .gtr)), [.tmp 11, .const (.int .i64 125)]⟩])
     (.cond (.tmp 12)
      (.seq
       (.ops [⟨(some 2), none, (.p .mv), [.const (.slice none 0 0)]⟩,
         ⟨(some 3), none, (.p .mv), [.const (.int .i64 4)]⟩])
       .ret)
      .skip))
    (.seq
     (.ops [⟨(some 13), none, (.p (.faddr 0)), [.tmp 1]⟩,
       ⟨(some 14), none, .load1, [.tmp 13]⟩,
       ⟨(some 4), none, (.p .mv), [.tmp 14]⟩])
     (.seq
      (.seq
       (.ops [⟨(some 15), none, (.p (.faddr 1)), [.tmp 1]⟩,
         ⟨(some 16), none, .load1, [.tmp 15]⟩])
       (.cond (.tmp 16)
        (.ops [⟨(some 17), none, (.p .mv), [.tmp 4]⟩,
          ⟨(some 18), none, (.p (.bin .add)), [.tmp 17, .const (.int .u8 64)]⟩,
          ⟨(some 4), none, (.p .mv), [.tmp 18]⟩])
        .skip))
      (.seq
       (.seq
        (.ops [⟨(some 19), none, (.p (.faddr 2)), [.tmp 1]⟩,
          ⟨(some 20), none, .load1, [.tmp 19]⟩])
        (.cond (.tmp 20)
         (.ops [⟨(some 21), none, (.p .mv), [.tmp 4]⟩,
           ⟨(some 22), none, (.p (.bin .add)), [.tmp 21, .const (.int .u8 128)]⟩,
           ⟨(some 4), none, (.p .mv), [.tmp 22]⟩])
         .skip))
       (.seq
        (.ops [⟨(some 23), none, (.p .mv), [.tmp 4]⟩,
          ⟨(some 24), none, (.p (.faddr 3)), [.tmp 1]⟩,
          ⟨(some 25), none, .load1, [.tmp 24]⟩,
          ⟨(some 26), none, (.p .lenS), [.tmp 25]⟩,
          ⟨(some 27), none, (.p (.conv .u8)), [.tmp 26]⟩,
          ⟨(some 28), none, (.bldSl 5 2 1 #[(.int .u8 0), (.int .u8 0)] [0, 1]), [.tmp 23, .tmp 27]⟩,
          ⟨(some 5), none, (.p .mv), [.tmp 28]⟩])
        (.seq
         (.ops [⟨(some 29), none, (.p .mv), [.tmp 5]⟩,
           ⟨(some 30), none, (.p (.faddr 3)), [.tmp 1]⟩,
           ⟨(some 31), none, .load1, [.tmp 30]⟩,
           ⟨(some 32), none, (.app 22 5 1 1 #[(.int .u8 0)]), [.tmp 29, .tmp 31]⟩,
           ⟨(some 5), none, (.p .mv), [.tmp 32]⟩])
         (.seq
          (.block 0
           (.loop
            (.seq
             (.seq
              (.ops [⟨(some 33), none, (.p .mv), [.tmp 5]⟩,
                ⟨(some 34), none, (.p .lenS), [.tmp 33]⟩,
                ⟨(some 35), none, (.p (.cmp .lss)), [.tmp 34, .const (.int .i64 127)]⟩])
              (.cond (.tmp 35)
               .skip
               (.exit 0)))
             (.block 1
              (.ops [⟨(some 36), none, (.p .mv), [.tmp 5]⟩,
                ⟨(some 37), none, (.bldSl 5 1 1 #[(.int .u8 0)] [0]), [.const (.int .u8 0)]⟩,
                ⟨(some 38), none, (.app 22 5 1 1 #[(.int .u8 0)]), [.tmp 36, .tmp 37]⟩,
                ⟨(some 5), none, (.p .mv), [.tmp 38]⟩])))))
          (.seq
           (.ops [⟨(some 39), none, (.p .mv), [.tmp 5]⟩,
             ⟨(some 40), none, (.bldSl 5 1 1 #[(.int .u8 0)] [0]), [.const (.int .u8 90)]⟩,
             ⟨(some 41), none, (.app 22 5 1 1 #[(.int .u8 0)]), [.tmp 39, .tmp 40]⟩,
             ⟨(some 5), none, (.p .mv), [.tmp 41]⟩])
           (.seq
            (.ops [⟨(some 42), none, (.p .mv), [.tmp 5]⟩,
              ⟨(some 2), none, (.p .mv), [.tmp 42]⟩,
              ⟨(some 3), none, (.p .mv), [.const (.int .i64 0)]⟩])
            .ret))))))))))),
 [.t 2, .t 3]⟩
theorem ir13_ok : cFn Try.prog Try.f13 = some ir13 := by kernel_rfl

/- pumice/page.Take -/
def ir14 : FIR := ⟨46,
 (.seq
  (.ops [⟨(some 2), none, (.alloc 24 #[(.int .u8 0), (.bool false), (.bool false), (.slice none 0 0)]), []⟩,
    ⟨(some 3), none, (.p .mv), [.const (.int .i64 0)]⟩])
  (.seq
   (.seq
    (.ops [⟨(some 5), none, (.p .mv), [.tmp 0]⟩,
      ⟨(some 6), none, (.p .lenS), [.tmp 5]⟩,
      ⟨(some 7), none, (.p (.cmp .neq)), [.tmp 6, .const (.int .i64 128)]⟩,
      ⟨(some 8), none, (.p .mv), [.tmp 7]⟩,
      ⟨(some 9), (some (8, false)), (.p .mv), [.tmp 0]⟩,
      ⟨(some 10), (some (8, false)), (.p (.iaddrS 1)), [.tmp 9, .const (.int .i64 1)]⟩,
      ⟨(some 11), (some (8, false)), .load1, [.tmp 10]⟩,
      ⟨(some 12), (some (8, false)), (.p (.cmp .gtr)), [.tmp 11, .const (.int .u8 125)]⟩,
      ⟨(some 13), none, (.p .pick), [.tmp 8, .const (.bool true), .tmp 12]⟩])
    (.cond (.tmp 13)
     (.seq
      (.ops [⟨(some 14), none, (.p (.bldS #[(.int .u8 0), (.bool false), (.bool false), (.slice none 0 0)] #[(0, 1), (1, 1), (2, 1), (3, 1)] [])), []⟩,
        ⟨none, none, (.storeN 4), [.tmp 2, .tmp 14]⟩,
        ⟨(some 3), none, (.p .mv), [.const (.int .i64 90)]⟩])
      .ret)
     .skip))
   (.seq
    (.draw [⟨(some 15), none, (.p .mv), [.tmp 0]⟩,
      ⟨(some 16), none, (.p (.iaddrS 1)), [.tmp 15, .const (.int .i64 0)]⟩,
      ⟨(some 17), none, .load1, [.tmp 16]⟩,
      ⟨(some 18), none, (.p (.bin .and)), [.tmp 17, .const (.int .u8 63)]⟩,
      ⟨(some 19), none, (.p .mv), [.tmp 0]⟩,
      ⟨(some 20), none, (.p (.iaddrS 1)), [.tmp 19, .const (.int .i64 0)]⟩,
      ⟨(some 21), none, .load1, [.tmp 20]⟩,
      ⟨(some 22), none, (.p (.bin .and)), [.tmp 21, .const (.int .u8 64)]⟩,
      ⟨(some 23), none, (.p (.cmp .neq)), [.tmp 22, .const (.int .u8 0)]⟩,
      ⟨(some 24), none, (.p .mv), [.tmp 0]⟩,
      ⟨(some 25), none, (.p (.iaddrS 1)), [.tmp 24, .const (.int .i64 0)]⟩,
      ⟨(some 26), none, .load1, [.tmp 25]⟩,
      ⟨(some 27), none, (.p (.bin .and)), [.tmp 26, .const (.int .u8 128)]⟩,
      ⟨(some 28), none, (.p (.cmp .neq)), [.tmp 27, .const (.int .u8 0)]⟩,
      ⟨(some 29), none, (.p .mv), [.tmp 0]⟩,
      ⟨(some 30), none, (.p .mv), [.tmp 0]⟩,
      ⟨(some 31), none, (.p (.iaddrS 1)), [.tmp 30, .const (.int .i64 1)]⟩,
      ⟨(some 32), none, .load1, [.tmp 31]⟩,
      ⟨(some 33), none, (.p (.conv .i64)), [.tmp 32]⟩,
      ⟨(some 34), none, (.p (.bin .add)), [.const (.int .i64 2), .tmp 33]⟩,
      ⟨(some 35), none, (.p (.cutS 1 true true false)), [.tmp 29, .const (.int .i64 2), .tmp 34]⟩,
      ⟨(some 36), none, (.app 22 5 1 1 #[(.int .u8 0)]), [.const (.slice none 0 0), .tmp 35]⟩,
      ⟨(some 37), none, (.p (.bldS #[(.int .u8 0), (.bool false), (.bool false), (.slice none 0 0)] #[(0, 1), (1, 1), (2, 1), (3, 1)] [0, 1, 2, 3])), [.tmp 18, .tmp 23, .tmp 28, .tmp 36]⟩,
      ⟨(some 4), none, (.alloc 24 #[(.int .u8 0), (.bool false), (.bool false), (.slice none 0 0)]), []⟩,
      ⟨none, none, (.storeN 4), [.tmp 4, .tmp 37]⟩] (.pu 0 (.pu 1 (.pu 4 (.pu 5 (.pu 9 (.pu 10 (.pu 14 (.pu 15 (.pu 16 (.fl 2 (.pu 3 (.fl 6 (.pu 7 (.pu 8 (.fl 11 (.pu 12 (.pu 13 (.fl 17 (.pu 18 (.pu 19 (.pu 20 (.act true 21 [20] (.pu 22 (.act true 23 [] (.act true 24 [0, 1, 2, 3, 4, 5, 6, 7, 8, 9, 10, 11, 12, 13, 14, 15, 16, 17, 18, 19, 20, 21, 22, 23] .done .stop) .stop)) (.act false 23 [] (.act true 21 [20] (.pu 22 (.act true 24 [0, 1, 2, 3, 4, 5, 6, 7, 8, 9, 10, 11, 12, 13, 14, 15, 16, 17, 18, 19, 20, 21, 22, 23] .done .stop)) .stop) .stop))))))))))))))))))))))))
    (.seq
     (.seq
      (.draw [⟨(some 38), none, (.loadN 4), [.tmp 4]⟩,
        ⟨(some 39), none, (.call 23), [.tmp 38]⟩,
        ⟨(some 40), none, (.p .mv), [.tmp 0]⟩,
        ⟨(some 41), none, (.p (.toArr 128)), [.tmp 40]⟩,
        ⟨(some 42), none, (.loadN 128), [.tmp 41]⟩,
        ⟨(some 43), none, (.eqv true 47), [.tmp 39, .tmp 42]⟩] (.pu 2 (.pu 3 (.fl 0 (.fl 4 (.act true 1 [0] (.act true 5 [1, 4] .done .stop) .stop))))))
      (.cond (.tmp 43)
       (.seq
        (.ops [⟨(some 44), none, (.p (.bldS #[(.int .u8 0), (.bool false), (.bool false), (.slice none 0 0)] #[(0, 1), (1, 1), (2, 1), (3, 1)] [])), []⟩,
          ⟨none, none, (.storeN 4), [.tmp 2, .tmp 44]⟩,
          ⟨(some 3), none, (.p .mv), [.const (.int .i64 90)]⟩])
        .ret)
       .skip))
     (.seq
      (.ops [⟨(some 45), none, (.loadN 4), [.tmp 4]⟩,
        ⟨none, none, (.storeN 4), [.tmp 2, .tmp 45]⟩,
        ⟨(some 3), none, (.p .mv), [.const (.int .i64 0)]⟩])
      .ret))))),
 [.cN 2 4, .t 3]⟩
theorem ir14_ok : cFn Try.prog Try.f14 = some ir14 := by kernel_rfl

/- pumice/pumiceref09.Take -/
def ir15 : FIR := ⟨56,
 (.seq
  (.ops [⟨(some 2), none, (.alloc 24 #[(.int .u8 0), (.bool false), (.bool false), (.slice none 0 0)]), []⟩,
    ⟨(some 3), none, (.p .mv), [.const (.int .i64 0)]⟩])
  (.seq
   (.seq
    (.ops [⟨(some 7), none, (.p .mv), [.tmp 0]⟩,
      ⟨(some 8), none, (.p .lenS), [.tmp 7]⟩,
      ⟨(some 9), none, (.p (.cmp .neq)), [.tmp 8, .const (.int .i64 128)]⟩,
      ⟨(some 10), none, (.p .mv), [.tmp 9]⟩,
      ⟨(some 11), (some (10, false)), (.p .mv), [.tmp 0]⟩,
      ⟨(some 12), (some (10, false)), (.p (.iaddrS 1)), [.tmp 11, .const (.int .i64 1)]⟩,
      ⟨(some 13), (some (10, false)), .load1, [.tmp 12]⟩,
      ⟨(some 14), (some (10, false)), (.p (.cmp .gtr)), [.tmp 13, .const (.int .u8 125)]⟩,
      ⟨(some 15), none, (.p .pick), [.tmp 10, .const (.bool true), .tmp 14]⟩])
    (.cond (.tmp 15)
     (.seq
      (.ops [⟨(some 16), none, (.p (.bldS #[(.int .u8 0), (.bool false), (.bool false), (.slice none 0 0)] #[(0, 1), (1, 1), (2, 1), (3, 1)] [])), []⟩,
        ⟨none, none, (.storeN 4), [.tmp 2, .tmp 16]⟩,
        ⟨(some 3), none, (.p .mv), [.const (.int .i64 90)]⟩])
      .ret)
     .skip))
   (.seq
    (.draw [⟨(some 17), none, (.p .mv), [.tmp 0]⟩,
      ⟨(some 18), none, (.p (.iaddrS 1)), [.tmp 17, .const (.int .i64 0)]⟩,
      ⟨(some 19), none, .load1, [.tmp 18]⟩,
      ⟨(some 20), none, (.p (.bin .rem)), [.tmp 19, .const (.int .u8 64)]⟩,
      ⟨(some 21), none, (.p .mv), [.tmp 0]⟩,
      ⟨(some 22), none, (.p (.iaddrS 1)), [.tmp 21, .const (.int .i64 0)]⟩,
      ⟨(some 23), none, .load1, [.tmp 22]⟩,
      ⟨(some 24), none, (.p (.bin .quo)), [.tmp 23, .const (.int .u8 64)]⟩,
      ⟨(some 25), none, (.p (.bin .rem)), [.tmp 24, .const (.int .u8 2)]⟩,
      ⟨(some 26), none, (.p (.cmp .eql)), [.tmp 25, .const (.int .u8 1)]⟩,
      ⟨(some 27), none, (.p .mv), [.tmp 0]⟩,
      ⟨(some 28), none, (.p (.iaddrS 1)), [.tmp 27, .const (.int .i64 0)]⟩,
      ⟨(some 29), none, .load1, [.tmp 28]⟩,
      ⟨(some 30), none, (.p (.bin .quo)), [.tmp 29, .const (.int .u8 128)]⟩,
      ⟨(some 31), none, (.p (.cmp .eql)), [.tmp 30, .const (.int .u8 1)]⟩,
      ⟨(some 32), none, (.p .mv), [.tmp 0]⟩,
      ⟨(some 33), none, (.p .mv), [.tmp 0]⟩,
      ⟨(some 34), none, (.p (.iaddrS 1)), [.tmp 33, .const (.int .i64 1)]⟩,
      ⟨(some 35), none, .load1, [.tmp 34]⟩,
      ⟨(some 36), none, (.p (.conv .i64)), [.tmp 35]⟩,
      ⟨(some 37), none, (.p (.bin .add)), [.const (.int .i64 2), .tmp 36]⟩,
      ⟨(some 38), none, (.p (.cutS 1 true true false)), [.tmp 32, .const (.int .i64 2), .tmp 37]⟩,
      ⟨(some 39), none, (.p (.bldS #[(.int .u8 0), (.bool false), (.bool false), (.slice none 0 0)] #[(0, 1), (1, 1), (2, 1), (3, 1)] [0, 1, 2, 3])), [.tmp 20, .tmp 26, .tmp 31, .tmp 38]⟩,
      ⟨(some 4), none, (.alloc 24 #[(.int .u8 0), (.bool false), (.bool false), (.slice none 0 0)]), []⟩,
      ⟨none, none, (.storeN 4), [.tmp 4, .tmp 39]⟩] (.pu 0 (.pu 1 (.pu 4 (.pu 5 (.pu 10 (.pu 11 (.pu 15 (.pu 16 (.pu 17 (.fl 2 (.pu 3 (.fl 6 (.pu 7 (.pu 8 (.pu 9 (.fl 12 (.pu 13 (.pu 14 (.fl 18 (.pu 19 (.pu 20 (.pu 21 (.pu 22 (.act true 23 [] (.act true 24 [0, 1, 2, 3, 4, 5, 6, 7, 8, 9, 10, 11, 12, 13, 14, 15, 16, 17, 18, 19, 20, 21, 22, 23] .done .stop) .stop)))))))))))))))))))))))))
    (.seq
     (.ops [⟨(some 41), none, (.loadN 4), [.tmp 4]⟩,
       ⟨(some 42), none, (.call 13), [.tmp 41]⟩,
       ⟨(some 40), none, (.p .mv), [.tmp 42]⟩,
       ⟨(some 43), none, (.p (.ext 0)), [.tmp 40]⟩,
       ⟨(some 44), none, (.p (.ext 1)), [.tmp 40]⟩,
       ⟨(some 5), none, (.p .mv), [.tmp 43]⟩,
       ⟨(some 6), none, (.p .mv), [.tmp 44]⟩])
     (.seq
      (.seq
       (.ops [⟨(some 45), none, (.p .mv), [.tmp 6]⟩,
         ⟨(some 46), none, (.p (.cmp .neq)), [.tmp 45, .const (.int .i64 0)]⟩,
         ⟨(some 47), none, (.p .mv), [.tmp 46]⟩,
         ⟨(some 48), (some (47, false)), (.p .mv), [.tmp 5]⟩,
         ⟨(some 49), (some (47, false)), .b2s, [.tmp 48]⟩,
         ⟨(some 50), (some (47, false)), (.p .mv), [.tmp 0]⟩,
         ⟨(some 51), (some (47, false)), .b2s, [.tmp 50]⟩,
         ⟨(some 52), (some (47, false)), (.p (.seq true)), [.tmp 49, .tmp 51]⟩,
         ⟨(some 53), none, (.p .pick), [.tmp 47, .const (.bool true), .tmp 52]⟩])
       (.cond (.tmp 53)
        (.seq
         (.ops [⟨(some 54), none, (.p (.bldS #[(.int .u8 0), (.bool false), (.bool false), (.slice none 0 0)] #[(0, 1), (1, 1), (2, 1), (3, 1)] [])), []⟩,
           ⟨none, none, (.storeN 4), [.tmp 2, .tmp 54]⟩,
           ⟨(some 3), none, (.p .mv), [.const (.int .i64 90)]⟩])
         .ret)
        .skip))
      (.seq
       (.ops [⟨(some 55), none, (.loadN 4), [.tmp 4]⟩,
         ⟨none, none, (.storeN 4), [.tmp 2, .tmp 55]⟩,
         ⟨(some 3), none, (.p .mv), [.const (.int .i64 0)]⟩])
       .ret)))))),
 [.cN 2 4, .t 3]⟩
theorem ir15_ok : cFn Try.prog Try.f15 = some ir15 := by kernel_rfl

/- pumice/pumicelaw09.same -/
def ir16 : FIR := ⟨33,
 (.seq
  (.ops [⟨(some 2), none, (.box 24), [.tmp 0]⟩,
    ⟨(some 3), none, (.box 24), [.tmp 1]⟩,
    ⟨(some 4), none, (.p .mv), [.const (.bool false)]⟩])
  (.seq
   (.ops [⟨(some 5), none, (.p (.faddr 0)), [.tmp 2]⟩,
     ⟨(some 6), none, .load1, [.tmp 5]⟩,
     ⟨(some 7), none, (.p (.faddr 0)), [.tmp 3]⟩,
     ⟨(some 8), none, .load1, [.tmp 7]⟩,
     ⟨(some 9), none, (.p (.cmp .eql)), [.tmp 6, .tmp 8]⟩,
     ⟨(some 10), none, (.p .mv), [.tmp 9]⟩,
     ⟨(some 11), (some (10, true)), (.p (.faddr 1)), [.tmp 2]⟩,
     ⟨(some 12), (some (10, true)), .load1, [.tmp 11]⟩,
     ⟨(some 13), (some (10, true)), (.p (.faddr 1)), [.tmp 3]⟩,
     ⟨(some 14), (some (10, true)), .load1, [.tmp 13]⟩,
     ⟨(some 15), (some (10, true)), (.p (.beq false)), [.tmp 12, .tmp 14]⟩,
     ⟨(some 16), none, (.p .pick), [.tmp 10, .tmp 15, .const (.bool false)]⟩,
     ⟨(some 17), none, (.p .mv), [.tmp 16]⟩,
     ⟨(some 18), (some (17, true)), (.p (.faddr 2)), [.tmp 2]⟩,
     ⟨(some 19), (some (17, true)), .load1, [.tmp 18]⟩,
     ⟨(some 20), (some (17, true)), (.p (.faddr 2)), [.tmp 3]⟩,
     ⟨(some 21), (some (17, true)), .load1, [.tmp 20]⟩,
     ⟨(some 22), (some (17, true)), (.p (.beq false)), [.tmp 19, .tmp 21]⟩,
     ⟨(some 23), none, (.p .pick), [.tmp 17, .tmp 22, .const (.bool false)]⟩,
     ⟨(some 24), none, (.p .mv), [.tmp 23]⟩,
     ⟨(some 25), (some (24, true)), (.p (.faddr 3)), [.tmp 2]⟩,
     ⟨(some 26), (some (24, true)), .load1, [.tmp 25]⟩,
     ⟨(some 27), (some (24, true)), .b2s, [.tmp 26]⟩,
     ⟨(some 28), (some (24, true)), (.p (.faddr 3)), [.tmp 3]⟩,
     ⟨(some 29), (some (24, true)), .load1, [.tmp 28]⟩,
     ⟨(some 30), (some (24, true)), .b2s, [.tmp 29]⟩,
     ⟨(some 31), (some (24, true)), (.p (.seq false)), [.tmp 27, .tmp 30]⟩,
     ⟨(some 32), none, (.p .pick), [.tmp 24, .tmp 31, .const (.bool false)]⟩,
     ⟨(some 4), none, (.p .mv), [.tmp 32]⟩])
   .ret)),
 [.t 4]⟩
theorem ir16_ok : cFn Try.prog Try.f16 = some ir16 := by kernel_rfl

/- pumice/page.Split -/
def ir17 : FIR := ⟨45,
 (.seq
  (.ops [⟨(some 4), none, (.p .mv), [.const (.slice none 0 0)]⟩,
    ⟨(some 5), none, (.p .mv), [.const (.int .i64 0)]⟩])
  (.seq
   (.block 0
    (.seq
     (.ops [⟨(some 11), none, (.p .mv), [.tmp 0]⟩,
       ⟨(some 12), none, (.p (.cmp .gtr)), [.tmp 11, .const (.int .u8 63)]⟩,
       ⟨(some 10), none, (.p .mv), [.tmp 12]⟩])
     (.cond (.tmp 10)
      (.seq
       (.ops [⟨(some 4), none, (.p .mv), [.const (.slice none 0 0)]⟩,
         ⟨(some 5), none, (.p .mv), [.const (.int .i64 1)]⟩])
       .ret)
      (.seq
       (.ops [⟨(some 14), none, (.p .mv), [.tmp 1]⟩,
         ⟨(some 15), none, (.p .lenS), [.tmp 14]⟩,
         ⟨(some 16), none, (.p (.cmp .gtr)), [.tmp 15, .const (.int .i64 8000)]⟩,
         ⟨(some 13), none, (.p .mv), [.tmp 16]⟩])
       (.cond (.tmp 13)
        (.seq
         (.ops [⟨(some 4), none, (.p .mv), [.const (.slice none 0 0)]⟩,
           ⟨(some 5), none, (.p .mv), [.const (.int .i64 4)]⟩])
         .ret)
        .skip)))))
   (.seq
    (.ops [⟨(some 6), none, (.p .mv), [.const (.slice none 0 0)]⟩])
    (.seq
     (.ops [⟨(some 17), none, (.p .mv), [.tmp 0]⟩,
       ⟨(some 18), none, (.p (.bldS #[(.int .u8 0), (.bool false), (.bool false), (.slice none 0 0)] #[(0, 1), (1, 1), (2, 1), (3, 1)] [0, 1])), [.tmp 17, .const (.bool true)]⟩,
       ⟨(some 7), none, (.alloc 24 #[(.int .u8 0), (.bool false), (.bool false), (.slice none 0 0)]), []⟩,
       ⟨none, none, (.storeN 4), [.tmp 7, .tmp 18]⟩])
     (.seq
      (.block 1
       (.loop
        (.seq
         (.seq
          (.ops [⟨(some 19), none, (.p (.faddr 2)), [.tmp 7]⟩,
            ⟨(some 20), none, .load1, [.tmp 19]⟩,
            ⟨(some 21), none, (.p .not), [.tmp 20]⟩])
          (.cond (.tmp 21)
           .skip
           (.exit 1)))
         (.block 2
          (.seq
           (.ops [⟨(some 22), none, (.p .mv), [.tmp 1]⟩,
             ⟨(some 23), none, (.p .lenS), [.tmp 22]⟩,
             ⟨(some 24), none, (.p .min), [.tmp 23, .const (.int .i64 125)]⟩,
             ⟨(some 8), none, (.p .mv), [.tmp 24]⟩])
           (.seq
            (.ops [⟨(some 25), none, (.p .mv), [.tmp 1]⟩,
              ⟨(some 26), none, (.p .mv), [.tmp 8]⟩,
              ⟨(some 27), none, (.p (.cutS 1 false true false)), [.tmp 25, .tmp 26]⟩,
              ⟨(some 28), none, (.p .mv), [.tmp 8]⟩,
              ⟨(some 29), none, (.p .mv), [.tmp 1]⟩,
              ⟨(some 30), none, (.p .lenS), [.tmp 29]⟩,
              ⟨(some 31), none, (.p (.cmp .eql)), [.tmp 28, .tmp 30]⟩,
              ⟨(some 32), none, (.p (.faddr 3)), [.tmp 7]⟩,
              ⟨none, none, .store1, [.tmp 32, .tmp 27]⟩,
              ⟨(some 33), none, (.p (.faddr 2)), [.tmp 7]⟩,
              ⟨none, none, .store1, [.tmp 33, .tmp 31]⟩])
            (.seq
             (.ops [⟨(some 34), none, (.loadN 4), [.tmp 7]⟩,
               ⟨(some 35), none, (.call 23), [.tmp 34]⟩,
               ⟨(some 9), none, (.alloc 47 (Array.replicate 128 (.int .u8 0))), []⟩,
               ⟨none, none, (.storeN 128), [.tmp 9, .tmp 35]⟩])
             (.seq
              (.ops [⟨(some 36), none, (.p .mv), [.tmp 6]⟩,
                ⟨(some 37), none, (.p (.cutA 128 1 false false false)), [.tmp 9]⟩,
                ⟨(some 38), none, (.bldSl 22 1 1 #[(.slice none 0 0)] [0]), [.tmp 37]⟩,
                ⟨(some 39), none, (.app 34 22 1 24 #[(.slice none 0 0)]), [.tmp 36, .tmp 38]⟩,
                ⟨(some 6), none, (.p .mv), [.tmp 39]⟩])
              (.ops [⟨(some 40), none, (.p .mv), [.tmp 1]⟩,
                ⟨(some 41), none, (.p .mv), [.tmp 8]⟩,
                ⟨(some 42), none, (.p (.cutS 1 true false false)), [.tmp 40, .tmp 41]⟩,
                ⟨(some 1), none, (.p .mv), [.tmp 42]⟩,
                ⟨(some 43), none, (.p (.faddr 1)), [.tmp 7]⟩,
                ⟨none, none, .store1, [.tmp 43, .const (.bool false)]⟩])))))))))
      (.seq
       (.ops [⟨(some 44), none, (.p .mv), [.tmp 6]⟩,
         ⟨(some 4), none, (.p .mv), [.tmp 44]⟩,
         ⟨(some 5), none, (.p .mv), [.const (.int .i64 0)]⟩])
       .ret)))))),
 [.t 4, .t 5]⟩
theorem ir17_ok : cFn Try.prog Try.f17 = some ir17 := by kernel_rfl

/- pumice/pumiceref09.Split -/
def ir18 : FIR := ⟨47,
 (.seq
  (.ops [⟨(some 4), none, (.p .mv), [.const (.slice none 0 0)]⟩,
    ⟨(some 5), none, (.p .mv), [.const (.int .i64 0)]⟩])
  (.seq
   (.seq
    (.ops [⟨(some 11), none, (.p .mv), [.tmp 0]⟩,
      ⟨(some 12), none, (.p (.cmp .gtr)), [.tmp 11, .const (.int .u8 63)]⟩])
    (.cond (.tmp 12)
     (.seq
      (.ops [⟨(some 4), none, (.p .mv), [.const (.slice none 0 0)]⟩,
        ⟨(some 5), none, (.p .mv), [.const (.int .i64 1)]⟩])
      .ret)
     .skip))
   (.seq
    (.seq
     (.ops [⟨(some 13), none, (.p .mv), [.tmp 1]⟩,
       ⟨(some 14), none, (.p .lenS), [.tmp 13]⟩,
       ⟨(some 15), none, (.p (.cmp .gtr)), [.tmp 14, .const (.int .i64 8000)]⟩])
     (.cond (.tmp 15)
      (.seq
       (.ops [⟨(some 4), none, (.p .mv), [.const (.slice none 0 0)]⟩,
         ⟨(some 5), none, (.p .mv), [.const (.int .i64 4)]⟩])
       .ret)
      .skip))
    (.seq
     (.ops [⟨(some 6), none, (.p .mv), [.const (.slice none 0 0)]⟩])
     (.seq
      (.seq
       (.ops [⟨(some 7), none, (.p .mv), [.const (.bool true)]⟩])
       (.block 0
        (.loop
         (.seq
          (.seq
           (.ops [⟨(some 16), none, (.p .mv), [.tmp 7]⟩,
             ⟨(some 17), none, (.p .mv), [.tmp 16]⟩,
             ⟨(some 18), (some (17, false)), (.p .mv), [.tmp 1]⟩,
             ⟨(some 19), (some (17, false)), (.p .lenS), [.tmp 18]⟩,
             ⟨(some 20), (some (17, false)), (.p (.cmp .gtr)), [.tmp 19, .const (.int .i64 0)]⟩,
             ⟨(some 21), none, (.p .pick), [.tmp 17, .const (.bool true), .tmp 20]⟩])
           (.cond (.tmp 21)
            .skip
            (.exit 0)))
          (.seq
           (.block 1
            (.seq
             (.ops [⟨(some 22), none, (.p .mv), [.tmp 1]⟩,
               ⟨(some 23), none, (.p .lenS), [.tmp 22]⟩,
               ⟨(some 24), none, (.p .min), [.tmp 23, .const (.int .i64 125)]⟩,
               ⟨(some 8), none, (.p .mv), [.tmp 24]⟩])
             (.seq
              (.ops [⟨(some 26), none, (.p .mv), [.tmp 0]⟩,
                ⟨(some 27), none, (.p .mv), [.tmp 7]⟩,
                ⟨(some 28), none, (.p .mv), [.tmp 8]⟩,
                ⟨(some 29), none, (.p .mv), [.tmp 1]⟩,
                ⟨(some 30), none, (.p .lenS), [.tmp 29]⟩,
                ⟨(some 31), none, (.p (.cmp .eql)), [.tmp 28, .tmp 30]⟩,
                ⟨(some 32), none, (.p .mv), [.tmp 1]⟩,
                ⟨(some 33), none, (.p .mv), [.tmp 8]⟩,
                ⟨(some 34), none, (.p (.cutS 1 false true false)), [.tmp 32, .tmp 33]⟩,
                ⟨(some 35), none, (.p (.bldS #[(.int .u8 0), (.bool false), (.bool false), (.slice none 0 0)] #[(0, 1), (1, 1), (2, 1), (3, 1)] [0, 1, 2, 3])), [.tmp 26, .tmp 27, .tmp 31, .tmp 34]⟩,
                ⟨(some 36), none, (.call 13), [.tmp 35]⟩,
                ⟨(some 25), none, (.p .mv), [.tmp 36]⟩,
                ⟨(some 37), none, (.p (.ext 0)), [.tmp 25]⟩,
                ⟨(some 38), none, (.p (.ext 1)), [.tmp 25]⟩,
                ⟨(some 9), none, (.p .mv), [.tmp 37]⟩,
                ⟨(some 10), none, (.p .mv), [.tmp 38]⟩])
              (.seq
               (.ops [⟨(some 39), none, (.p .mv), [.tmp 6]⟩,
                 ⟨(some 40), none, (.p .mv), [.tmp 9]⟩,
                 ⟨(some 41), none, (.bldSl 22 1 1 #[(.slice none 0 0)] [0]), [.tmp 40]⟩,
                 ⟨(some 42), none, (.app 34 22 1 24 #[(.slice none 0 0)]), [.tmp 39, .tmp 41]⟩,
                 ⟨(some 6), none, (.p .mv), [.tmp 42]⟩])
               (.ops [⟨(some 43), none, (.p .mv), [.tmp 1]⟩,
                 ⟨(some 44), none, (.p .mv), [.tmp 8]⟩,
                 ⟨(some 45), none, (.p (.cutS 1 true false false)), [.tmp 43, .tmp 44]⟩,
                 ⟨(some 1), none, (.p .mv), [.tmp 45]⟩])))))
           (.ops [⟨(some 7), none, (.p .mv), [.const (.bool false)]⟩]))))))
      (.seq
       (.ops [⟨(some 46), none, (.p .mv), [.tmp 6]⟩,
         ⟨(some 4), none, (.p .mv), [.tmp 46]⟩,
         ⟨(some 5), none, (.p .mv), [.const (.int .i64 0)]⟩])
       .ret)))))),
 [.t 4, .t 5]⟩
theorem ir18_ok : cFn Try.prog Try.f18 = some ir18 := by kernel_rfl

/- pumice/pumicelaw09.erased -/
def ir19 : FIR := ⟨14,
 (.seq
  (.ops [⟨(some 0), none, (.p .mv), [.const (.slice none 0 0)]⟩])
  (.seq
   (.ops [⟨(some 3), none, (.mkS 5 1 1 #[(.int .u8 0)]), [.const (.int .i64 128), .const (.int .i64 128)]⟩,
     ⟨(some 1), none, (.p .mv), [.tmp 3]⟩])
   (.seq
    (.seq
     (.ops [⟨(some 4), none, (.p .mv), [.tmp 1]⟩,
       ⟨(some 5), none, (.p .lenS), [.tmp 4]⟩,
       ⟨(some 6), none, (.p .mv), [.const (.int .i64 0)]⟩])
     (.block 0
      (.loop
       (.seq
        (.ops [⟨(some 7), none, (.p (.cmp .lss)), [.tmp 6, .tmp 5]⟩])
        (.seq
         (.cond (.tmp 7)
          .skip
          (.exit 0))
         (.seq
          (.block 1
           (.seq
            (.ops [⟨(some 8), none, (.p .mv), [.tmp 6]⟩,
              ⟨(some 2), none, (.p .mv), [.tmp 8]⟩])
            (.ops [⟨(some 9), none, (.p .mv), [.tmp 1]⟩,
              ⟨(some 10), none, (.p .mv), [.tmp 2]⟩,
              ⟨(some 11), none, (.p (.iaddrS 1)), [.tmp 9, .tmp 10]⟩,
              ⟨none, none, .store1, [.tmp 11, .const (.int .u8 255)]⟩])))
          (.ops [⟨(some 12), none, (.p (.bin .add)), [.tmp 6, .const (.int .i64 1)]⟩,
            ⟨(some 6), none, (.p .mv), [.tmp 12]⟩])))))))
    (.seq
     (.ops [⟨(some 13), none, (.p .mv), [.tmp 1]⟩,
       ⟨(some 0), none, (.p .mv), [.tmp 13]⟩])
     .ret)))),
 [.t 0]⟩
theorem ir19_ok : cFn Try.prog Try.f19 = some ir19 := by kernel_rfl

/- pumice/page.Join -/
def ir20 : FIR := ⟨63,
 (.seq
  (.ops [⟨(some 2), none, (.p .mv), [.const (.int .u8 0)]⟩,
    ⟨(some 3), none, (.p .mv), [.const (.slice none 0 0)]⟩,
    ⟨(some 4), none, (.p .mv), [.const (.int .i64 0)]⟩,
    ⟨(some 5), none, (.p .mv), [.const (.int .i64 0)]⟩])
  (.seq
   (.ops [⟨(some 6), none, (.p .mv), [.const (.int .u8 0)]⟩])
   (.seq
    (.ops [⟨(some 7), none, (.p .mv), [.const (.slice none 0 0)]⟩])
    (.seq
     (.seq
      (.ops [⟨(some 12), none, (.p .mv), [.tmp 0]⟩,
        ⟨(some 13), none, (.p .mv), [.tmp 0]⟩,
        ⟨(some 14), none, (.p .lenS), [.tmp 13]⟩,
        ⟨(some 15), none, (.p .min), [.tmp 14, .const (.int .i64 64)]⟩,
        ⟨(some 16), none, (.p (.cutS 1 false true false)), [.tmp 12, .tmp 15]⟩,
        ⟨(some 17), none, (.p .lenS), [.tmp 16]⟩,
        ⟨(some 18), none, (.p .mv), [.const (.int .i64 0)]⟩])
      (.block 0
       (.loop
        (.seq
         (.ops [⟨(some 19), none, (.p (.cmp .lss)), [.tmp 18, .tmp 17]⟩])
         (.seq
          (.cond (.tmp 19)
           .skip
           (.exit 0))
          (.seq
           (.block 1
            (.seq
             (.ops [⟨(some 20), none, (.p .mv), [.tmp 18]⟩,
               ⟨(some 21), none, (.p (.iaddrS 1)), [.tmp 16, .tmp 18]⟩,
               ⟨(some 22), none, .load1, [.tmp 21]⟩,
               ⟨(some 8), none, (.p .mv), [.tmp 20]⟩,
               ⟨(some 9), none, (.p .mv), [.tmp 22]⟩])
             (.seq
              (.ops [⟨(some 24), none, (.p .mv), [.tmp 9]⟩,
                ⟨(some 25), none, (.call 14), [.tmp 24]⟩,
                ⟨(some 23), none, (.p .mv), [.tmp 25]⟩,
                ⟨(some 26), none, (.p (.ext 0)), [.tmp 23]⟩,
                ⟨(some 27), none, (.p (.ext 1)), [.tmp 23]⟩,
                ⟨(some 10), none, (.alloc 24 #[(.int .u8 0), (.bool false), (.bool false), (.slice none 0 0)]), []⟩,
                ⟨none, none, (.storeN 4), [.tmp 10, .tmp 26]⟩,
                ⟨(some 11), none, (.p .mv), [.tmp 27]⟩])
              (.seq
               (.block 2
                (.seq
                 (.ops [⟨(some 29), none, (.p .mv), [.tmp 11]⟩,
                   ⟨(some 30), none, (.p (.cmp .neq)), [.tmp 29, .const (.int .i64 0)]⟩,
                   ⟨(some 31), none, (.p .mv), [.tmp 30]⟩,
                   ⟨(some 32), (some (31, false)), (.p (.faddr 1)), [.tmp 10]⟩,
                   ⟨(some 33), (some (31, false)), .load1, [.tmp 32]⟩,
                   ⟨(some 34), (some (31, false)), (.p .mv), [.tmp 8]⟩,
                   ⟨(some 35), (some (31, false)), (.p (.cmp .eql)), [.tmp 34, .const (.int .i64 0)]⟩,
                   ⟨(some 36), (some (31, false)), (.p (.beq true)), [.tmp 33, .tmp 35]⟩,
                   ⟨(some 37), none, (.p .pick), [.tmp 31, .const (.bool true), .tmp 36]⟩,
                   ⟨(some 28), none, (.p .mv), [.tmp 37]⟩])
                 (.cond (.tmp 28)
                  (.seq
                   (.ops [⟨(some 2), none, (.p .mv), [.const (.int .u8 0)]⟩,
                     ⟨(some 3), none, (.p .mv), [.const (.slice none 0 0)]⟩,
                     ⟨(some 4), none, (.p .mv), [.const (.int .i64 0)]⟩,
                     ⟨(some 5), none, (.p .mv), [.const (.int .i64 90)]⟩])
                   .ret)
                  (.seq
                   (.ops [⟨(some 39), none, (.p .mv), [.tmp 8]⟩,
                     ⟨(some 40), none, (.p (.cmp .eql)), [.tmp 39, .const (.int .i64 0)]⟩,
                     ⟨(some 38), none, (.p .mv), [.tmp 40]⟩])
                   (.cond (.tmp 38)
                    (.ops [⟨(some 41), none, (.p (.faddr 0)), [.tmp 10]⟩,
                      ⟨(some 42), none, .load1, [.tmp 41]⟩,
                      ⟨(some 6), none, (.p .mv), [.tmp 42]⟩])
                    (.seq
                     (.ops [⟨(some 44), none, (.p (.faddr 0)), [.tmp 10]⟩,
                       ⟨(some 45), none, .load1, [.tmp 44]⟩,
                       ⟨(some 46), none, (.p .mv), [.tmp 6]⟩,
                       ⟨(some 47), none, (.p (.cmp .neq)), [.tmp 45, .tmp 46]⟩,
                       ⟨(some 43), none, (.p .mv), [.tmp 47]⟩])
                     (.cond (.tmp 43)
                      (.seq
                       (.ops [⟨(some 2), none, (.p .mv), [.const (.int .u8 0)]⟩,
                         ⟨(some 3), none, (.p .mv), [.const (.slice none 0 0)]⟩,
                         ⟨(some 4), none, (.p .mv), [.const (.int .i64 0)]⟩,
                         ⟨(some 5), none, (.p .mv), [.const (.int .i64 90)]⟩])
                       .ret)
                      .skip)))))))
               (.seq
                (.ops [⟨(some 48), none, (.p .mv), [.tmp 7]⟩,
                  ⟨(some 49), none, (.p (.faddr 3)), [.tmp 10]⟩,
                  ⟨(some 50), none, .load1, [.tmp 49]⟩,
                  ⟨(some 51), none, (.app 22 5 1 1 #[(.int .u8 0)]), [.tmp 48, .tmp 50]⟩,
                  ⟨(some 7), none, (.p .mv), [.tmp 51]⟩])
                (.seq
                 (.seq
                  (.ops [⟨(some 52), none, (.p (.faddr 2)), [.tmp 10]⟩,
                    ⟨(some 53), none, .load1, [.tmp 52]⟩])
                  (.cond (.tmp 53)
                   (.seq
                    (.ops [⟨(some 54), none, (.p .mv), [.tmp 6]⟩,
                      ⟨(some 55), none, (.p .mv), [.tmp 7]⟩,
                      ⟨(some 56), none, (.p .mv), [.tmp 8]⟩,
                      ⟨(some 57), none, (.p (.bin .add)), [.tmp 56, .const (.int .i64 1)]⟩,
                      ⟨(some 2), none, (.p .mv), [.tmp 54]⟩,
                      ⟨(some 3), none, (.p .mv), [.tmp 55]⟩,
                      ⟨(some 4), none, (.p .mv), [.tmp 57]⟩,
                      ⟨(some 5), none, (.p .mv), [.const (.int .i64 0)]⟩])
                    .ret)
                   .skip))
                 (.seq
                  (.ops [⟨(some 58), none, (.p (.faddr 3)), [.tmp 10]⟩,
                    ⟨(some 59), none, .load1, [.tmp 58]⟩,
                    ⟨(some 60), none, (.p .lenS), [.tmp 59]⟩,
                    ⟨(some 61), none, (.p (.cmp .neq)), [.tmp 60, .const (.int .i64 125)]⟩])
                  (.cond (.tmp 61)
                   (.exit 0)
                   .skip))))))))
           (.ops [⟨(some 62), none, (.p (.bin .add)), [.tmp 18, .const (.int .i64 1)]⟩,
             ⟨(some 18), none, (.p .mv), [.tmp 62]⟩])))))))
     (.seq
      (.ops [⟨(some 2), none, (.p .mv), [.const (.int .u8 0)]⟩,
        ⟨(some 3), none, (.p .mv), [.const (.slice none 0 0)]⟩,
        ⟨(some 4), none, (.p .mv), [.const (.int .i64 0)]⟩,
        ⟨(some 5), none, (.p .mv), [.const (.int .i64 90)]⟩])
      .ret))))),
 [.t 2, .t 3, .t 4, .t 5]⟩
theorem ir20_ok : cFn Try.prog Try.f20 = some ir20 := by kernel_rfl

/- pumice/pumicelaw09.few -/
def ir21 : FIR := ⟨24,
 (.seq
  (.ops [⟨(some 2), none, (.p .mv), [.const (.slice none 0 0)]⟩])
  (.seq
   (.seq
    (.ops [⟨(some 4), none, (.p .mv), [.tmp 0]⟩,
      ⟨(some 5), none, (.p .lenS), [.tmp 4]⟩,
      ⟨(some 6), none, (.p .mv), [.const (.int .i64 0)]⟩])
    (.block 0
     (.loop
      (.seq
       (.ops [⟨(some 7), none, (.p (.cmp .lss)), [.tmp 6, .tmp 5]⟩])
       (.seq
        (.cond (.tmp 7)
         .skip
         (.exit 0))
        (.seq
         (.block 1
          (.seq
           (.ops [⟨(some 8), none, (.p .mv), [.tmp 6]⟩,
             ⟨(some 3), none, (.p .mv), [.tmp 8]⟩])
           (.seq
            (.ops [⟨(some 9), none, (.p .mv), [.tmp 3]⟩,
              ⟨(some 10), none, (.p (.cmp .geq)), [.tmp 9, .const (.int .i64 70)]⟩,
              ⟨(some 11), none, (.p .mv), [.tmp 10]⟩,
              ⟨(some 12), (some (11, false)), (.p .mv), [.tmp 0]⟩,
              ⟨(some 13), (some (11, false)), (.p .mv), [.tmp 3]⟩,
              ⟨(some 14), (some (11, false)), (.p (.iaddrS 1)), [.tmp 12, .tmp 13]⟩,
              ⟨(some 15), (some (11, false)), .load1, [.tmp 14]⟩,
              ⟨(some 16), (some (11, false)), (.p .lenS), [.tmp 15]⟩,
              ⟨(some 17), (some (11, false)), (.p (.cmp .gtr)), [.tmp 16, .const (.int .i64 200)]⟩,
              ⟨(some 18), none, (.p .pick), [.tmp 11, .const (.bool true), .tmp 17]⟩])
            (.cond (.tmp 18)
             (.seq
              (.ops [⟨(some 19), none, (.p .mv), [.tmp 0]⟩,
                ⟨(some 20), none, (.p .mv), [.tmp 3]⟩,
                ⟨(some 21), none, (.p (.cutS 1 false true false)), [.tmp 19, .tmp 20]⟩,
                ⟨(some 2), none, (.p .mv), [.tmp 21]⟩])
              .ret)
             .skip))))
         (.ops [⟨(some 22), none, (.p (.bin .add)), [.tmp 6, .const (.int .i64 1)]⟩,
           ⟨(some 6), none, (.p .mv), [.tmp 22]⟩])))))))
   (.seq
    (.ops [⟨(some 23), none, (.p .mv), [.tmp 0]⟩,
      ⟨(some 2), none, (.p .mv), [.tmp 23]⟩])
    .ret))),
 [.t 2]⟩
theorem ir21_ok : cFn Try.prog Try.f21 = some ir21 := by kernel_rfl

/- pumice/pumiceref09.Join -/
def ir22 : FIR := ⟨71,
 (.seq
  (.ops [⟨(some 2), none, (.p .mv), [.const (.int .u8 0)]⟩,
    ⟨(some 3), none, (.p .mv), [.const (.slice none 0 0)]⟩,
    ⟨(some 4), none, (.p .mv), [.const (.int .i64 0)]⟩,
    ⟨(some 5), none, (.p .mv), [.const (.int .i64 0)]⟩])
  (.seq
   (.ops [⟨(some 6), none, (.p .mv), [.const (.slice none 0 0)]⟩])
   (.seq
    (.ops [⟨(some 7), none, (.p .mv), [.const (.int .u8 0)]⟩])
    (.seq
     (.seq
      (.ops [⟨(some 8), none, (.p .mv), [.const (.int .i64 0)]⟩])
      (.block 0
       (.loop
        (.seq
         (.seq
          (.ops [⟨(some 11), none, (.p .mv), [.tmp 8]⟩,
            ⟨(some 12), none, (.p .mv), [.tmp 0]⟩,
            ⟨(some 13), none, (.p .lenS), [.tmp 12]⟩,
            ⟨(some 14), none, (.p (.cmp .lss)), [.tmp 11, .tmp 13]⟩,
            ⟨(some 15), none, (.p .mv), [.tmp 14]⟩,
            ⟨(some 16), (some (15, true)), (.p .mv), [.tmp 8]⟩,
            ⟨(some 17), (some (15, true)), (.p (.cmp .lss)), [.tmp 16, .const (.int .i64 64)]⟩,
            ⟨(some 18), none, (.p .pick), [.tmp 15, .tmp 17, .const (.bool false)]⟩])
          (.cond (.tmp 18)
           .skip
           (.exit 0)))
         (.seq
          (.block 1
           (.seq
            (.ops [⟨(some 22), none, (.p .mv), [.tmp 0]⟩,
              ⟨(some 23), none, (.p .mv), [.tmp 8]⟩,
              ⟨(some 24), none, (.p (.iaddrS 1)), [.tmp 22, .tmp 23]⟩,
              ⟨(some 25), none, .load1, [.tmp 24]⟩,
              ⟨(some 26), none, (.call 15), [.tmp 25]⟩,
              ⟨(some 21), none, (.p .mv), [.tmp 26]⟩,
              ⟨(some 27), none, (.p (.ext 0)), [.tmp 21]⟩,
              ⟨(some 28), none, (.p (.ext 1)), [.tmp 21]⟩,
              ⟨(some 9), none, (.alloc 24 #[(.int .u8 0), (.bool false), (.bool false), (.slice none 0 0)]), []⟩,
              ⟨none, none, (.storeN 4), [.tmp 9, .tmp 27]⟩,
              ⟨(some 10), none, (.p .mv), [.tmp 28]⟩])
            (.seq
             (.seq
              (.ops [⟨(some 29), none, (.p .mv), [.tmp 10]⟩,
                ⟨(some 30), none, (.p (.cmp .neq)), [.tmp 29, .const (.int .i64 0)]⟩,
                ⟨(some 31), none, (.p .mv), [.tmp 30]⟩,
                ⟨(some 32), (some (31, false)), (.p (.faddr 1)), [.tmp 9]⟩,
                ⟨(some 33), (some (31, false)), .load1, [.tmp 32]⟩,
                ⟨(some 34), (some (31, false)), (.p .mv), [.tmp 8]⟩,
                ⟨(some 35), (some (31, false)), (.p (.cmp .eql)), [.tmp 34, .const (.int .i64 0)]⟩,
                ⟨(some 36), (some (31, false)), (.p (.beq true)), [.tmp 33, .tmp 35]⟩,
                ⟨(some 37), none, (.p .pick), [.tmp 31, .const (.bool true), .tmp 36]⟩,
                ⟨(some 38), none, (.p .mv), [.tmp 37]⟩,
                ⟨(some 39), (some (38, false)), (.p .mv), [.tmp 8]⟩,
                ⟨(some 40), (some (38, false)), (.p (.cmp .gtr)), [.tmp 39, .const (.int .i64 0)]⟩,
                ⟨(some 41), (some (38, false)), (.p .mv), [.tmp 40]⟩,
                ⟨(some 42), (some (41, true)), (.p (.faddr 0)), [.tmp 9]⟩,
                ⟨(some 43), (some (41, true)), .load1, [.tmp 42]⟩,
                ⟨(some 44), (some (41, true)), (.p .mv), [.tmp 7]⟩,
                ⟨(some 45), (some (41, true)), (.p (.cmp .neq)), [.tmp 43, .tmp 44]⟩,
                ⟨(some 46), (some (38, false)), (.p .pick), [.tmp 41, .tmp 45, .const (.bool false)]⟩,
                ⟨(some 47), none, (.p .pick), [.tmp 38, .const (.bool true), .tmp 46]⟩,
                ⟨(some 48), none, (.p .mv), [.tmp 47]⟩,
                ⟨(some 49), (some (48, false)), (.p (.faddr 2)), [.tmp 9]⟩,
                ⟨(some 50), (some (48, false)), .load1, [.tmp 49]⟩,
                ⟨(some 51), (some (48, false)), (.p .not), [.tmp 50]⟩,
                ⟨(some 52), (some (48, false)), (.p .mv), [.tmp 51]⟩,
                ⟨(some 53), (some (52, true)), (.p (.faddr 3)), [.tmp 9]⟩,
                ⟨(some 54), (some (52, true)), .load1, [.tmp 53]⟩,
                ⟨(some 55), (some (52, true)), (.p .lenS), [.tmp 54]⟩,
                ⟨(some 56), (some (52, true)), (.p (.cmp .neq)), [.tmp 55, .const (.int .i64 125)]⟩,
                ⟨(some 57), (some (48, false)), (.p .pick), [.tmp 52, .tmp 56, .const (.bool false)]⟩,
                ⟨(some 58), none, (.p .pick), [.tmp 48, .const (.bool true), .tmp 57]⟩])
              (.cond (.tmp 58)
               (.seq
                (.ops [⟨(some 2), none, (.p .mv), [.const (.int .u8 0)]⟩,
                  ⟨(some 3), none, (.p .mv), [.const (.slice none 0 0)]⟩,
                  ⟨(some 4), none, (.p .mv), [.const (.int .i64 0)]⟩,
                  ⟨(some 5), none, (.p .mv), [.const (.int .i64 90)]⟩])
                .ret)
               .skip))
             (.seq
              (.ops [⟨(some 59), none, (.p (.faddr 0)), [.tmp 9]⟩,
                ⟨(some 60), none, .load1, [.tmp 59]⟩,
                ⟨(some 7), none, (.p .mv), [.tmp 60]⟩])
              (.seq
               (.ops [⟨(some 61), none, (.p .mv), [.tmp 6]⟩,
                 ⟨(some 62), none, (.p (.faddr 3)), [.tmp 9]⟩,
                 ⟨(some 63), none, .load1, [.tmp 62]⟩,
                 ⟨(some 64), none, (.app 22 5 1 1 #[(.int .u8 0)]), [.tmp 61, .tmp 63]⟩,
                 ⟨(some 6), none, (.p .mv), [.tmp 64]⟩])
               (.seq
                (.ops [⟨(some 65), none, (.p (.faddr 2)), [.tmp 9]⟩,
                  ⟨(some 66), none, .load1, [.tmp 65]⟩])
                (.cond (.tmp 66)
                 (.seq
                  (.ops [⟨(some 67), none, (.p .mv), [.tmp 7]⟩,
                    ⟨(some 68), none, (.p .mv), [.tmp 6]⟩,
                    ⟨(some 69), none, (.p .mv), [.tmp 8]⟩,
                    ⟨(some 70), none, (.p (.bin .add)), [.tmp 69, .const (.int .i64 1)]⟩,
                    ⟨(some 2), none, (.p .mv), [.tmp 67]⟩,
                    ⟨(some 3), none, (.p .mv), [.tmp 68]⟩,
                    ⟨(some 4), none, (.p .mv), [.tmp 70]⟩,
                    ⟨(some 5), none, (.p .mv), [.const (.int .i64 0)]⟩])
                  .ret)
                 .skip)))))))
          (.ops [⟨(some 19), none, (.p .mv), [.tmp 8]⟩,
            ⟨(some 20), none, (.p (.bin .add)), [.tmp 19, .const (.int .i64 1)]⟩,
            ⟨(some 8), none, (.p .mv), [.tmp 20]⟩]))))))
     (.seq
      (.ops [⟨(some 2), none, (.p .mv), [.const (.int .u8 0)]⟩,
        ⟨(some 3), none, (.p .mv), [.const (.slice none 0 0)]⟩,
        ⟨(some 4), none, (.p .mv), [.const (.int .i64 0)]⟩,
        ⟨(some 5), none, (.p .mv), [.const (.int .i64 90)]⟩])
      .ret))))),
 [.t 2, .t 3, .t 4, .t 5]⟩
theorem ir22_ok : cFn Try.prog Try.f22 = some ir22 := by kernel_rfl

/- pumice/page.lay -/
def ir23 : FIR := ⟨30,
 (.seq
  (.ops [⟨(some 1), none, (.box 24), [.tmp 0]⟩,
    ⟨(some 2), none, (.alloc 47 (Array.replicate 128 (.int .u8 0))), []⟩])
  (.seq
   (.ops [⟨(some 3), none, (.alloc 47 (Array.replicate 128 (.int .u8 0))), []⟩])
   (.seq
    (.ops [⟨(some 4), none, (.p (.faddr 0)), [.tmp 1]⟩,
      ⟨(some 5), none, .load1, [.tmp 4]⟩,
      ⟨(some 6), none, (.p (.iaddrA 128 1)), [.tmp 3, .const (.int .i64 0)]⟩,
      ⟨none, none, .store1, [.tmp 6, .tmp 5]⟩])
    (.seq
     (.seq
      (.ops [⟨(some 7), none, (.p (.faddr 1)), [.tmp 1]⟩,
        ⟨(some 8), none, .load1, [.tmp 7]⟩])
      (.cond (.tmp 8)
       (.ops [⟨(some 9), none, (.p (.iaddrA 128 1)), [.tmp 3, .const (.int .i64 0)]⟩,
         ⟨(some 10), none, .load1, [.tmp 9]⟩,
         ⟨(some 11), none, (.p (.bin .or)), [.tmp 10, .const (.int .u8 64)]⟩,
         ⟨(some 12), none, (.p (.iaddrA 128 1)), [.tmp 3, .const (.int .i64 0)]⟩,
         ⟨none, none, .store1, [.tmp 12, .tmp 11]⟩])
       .skip))
     (.seq
      (.seq
       (.ops [⟨(some 13), none, (.p (.faddr 2)), [.tmp 1]⟩,
         ⟨(some 14), none, .load1, [.tmp 13]⟩])
       (.cond (.tmp 14)
        (.ops [⟨(some 15), none, (.p (.iaddrA 128 1)), [.tmp 3, .const (.int .i64 0)]⟩,
          ⟨(some 16), none, .load1, [.tmp 15]⟩,
          ⟨(some 17), none, (.p (.bin .or)), [.tmp 16, .const (.int .u8 128)]⟩,
          ⟨(some 18), none, (.p (.iaddrA 128 1)), [.tmp 3, .const (.int .i64 0)]⟩,
          ⟨none, none, .store1, [.tmp 18, .tmp 17]⟩])
        .skip))
      (.seq
       (.ops [⟨(some 19), none, (.p (.faddr 3)), [.tmp 1]⟩,
         ⟨(some 20), none, .load1, [.tmp 19]⟩,
         ⟨(some 21), none, (.p .lenS), [.tmp 20]⟩,
         ⟨(some 22), none, (.p (.conv .u8)), [.tmp 21]⟩,
         ⟨(some 23), none, (.p (.iaddrA 128 1)), [.tmp 3, .const (.int .i64 1)]⟩,
         ⟨none, none, .store1, [.tmp 23, .tmp 22]⟩])
       (.seq
        (.draw [⟨(some 24), none, (.p (.cutA 128 1 true false false)), [.tmp 3, .const (.int .i64 2)]⟩,
          ⟨(some 25), none, (.p (.faddr 3)), [.tmp 1]⟩,
          ⟨(some 26), none, .load1, [.tmp 25]⟩,
          ⟨(some 27), none, (.cpy 22 1), [.tmp 24, .tmp 26]⟩] (.pu 0 (.pu 1 (.fl 2 (.act true 3 [0, 2] .done .stop)))))
        (.seq
         (.ops [⟨(some 28), none, (.p (.iaddrA 128 1)), [.tmp 3, .const (.int .i64 127)]⟩,
           ⟨none, none, .store1, [.tmp 28, .const (.int .u8 90)]⟩])
         (.seq
          (.ops [⟨(some 29), none, (.loadN 128), [.tmp 3]⟩,
            ⟨none, none, (.storeN 128), [.tmp 2, .tmp 29]⟩])
          .ret))))))))),
 [.cN 2 128]⟩
theorem ir23_ok : cFn Try.prog Try.f23 = some ir23 := by kernel_rfl

end Go.Proofs.Ytffbkmlgmmokiaa
