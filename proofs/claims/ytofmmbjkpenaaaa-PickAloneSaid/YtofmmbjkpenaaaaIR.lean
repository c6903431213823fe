/- The typed form of each function, by program (printir.py), checked by the kernel. -/
import Derived.Test.YtofmmbjkpenaaaaDenL
import Derived.Test.YtofmmbjkpenaaaaProg
import Derived.KernelRfl
set_option maxRecDepth 100000
namespace Go.Proofs.Ytofmmbjkpenaaaa

/- pumice/pumicelaw17.PickCompares -/
def ir3 : FIR := ⟨29,
 (.seq
  (.ops [⟨(some 2), none, (.box 24), [.tmp 0]⟩,
    ⟨(some 3), none, (.box 24), [.tmp 1]⟩,
    ⟨(some 4), none, (.p .mv), [.const (.bool false)]⟩])
  (.seq
   (.draw [⟨(some 5), none, (.call 9), []⟩,
     ⟨(some 6), none, (.p .mv), [.tmp 5]⟩,
     ⟨(some 7), (some (6, true)), (.loadN 4), [.tmp 2]⟩,
     ⟨(some 8), (some (6, true)), (.call 10), [.tmp 7]⟩,
     ⟨(some 9), (some (6, true)), (.loadN 4), [.tmp 2]⟩,
     ⟨(some 10), (some (6, true)), (.call 11), [.tmp 9]⟩,
     ⟨(some 11), (some (6, true)), (.p (.beq false)), [.tmp 8, .tmp 10]⟩,
     ⟨(some 12), none, (.p .pick), [.tmp 6, .tmp 11, .const (.bool false)]⟩,
     ⟨(some 13), none, (.p .mv), [.tmp 12]⟩,
     ⟨(some 14), (some (13, true)), (.loadN 4), [.tmp 2]⟩,
     ⟨(some 15), (some (13, true)), (.call 12), [.tmp 14]⟩,
     ⟨(some 16), (some (13, true)), (.loadN 4), [.tmp 2]⟩,
     ⟨(some 17), (some (13, true)), (.call 13), [.tmp 16]⟩,
     ⟨(some 18), (some (13, true)), (.p (.beq false)), [.tmp 15, .tmp 17]⟩,
     ⟨(some 19), none, (.p .pick), [.tmp 13, .tmp 18, .const (.bool false)]⟩,
     ⟨(some 20), none, (.p .mv), [.tmp 19]⟩,
     ⟨(some 21), (some (20, true)), (.loadN 4), [.tmp 2]⟩,
     ⟨(some 22), (some (20, true)), (.loadN 4), [.tmp 3]⟩,
     ⟨(some 23), (some (20, true)), (.call 14), [.tmp 21, .tmp 22]⟩,
     ⟨(some 24), (some (20, true)), (.loadN 4), [.tmp 2]⟩,
     ⟨(some 25), (some (20, true)), (.loadN 4), [.tmp 3]⟩,
     ⟨(some 26), (some (20, true)), (.call 15), [.tmp 24, .tmp 25]⟩,
     ⟨(some 27), (some (20, true)), (.p (.beq false)), [.tmp 23, .tmp 26]⟩,
     ⟨(some 28), none, (.p .pick), [.tmp 20, .tmp 27, .const (.bool false)]⟩,
     ⟨(some 4), none, (.p .mv), [.tmp 28]⟩] (.act true 0 [] (.pu 1 (.fl 2 (.fl 4 (.act true 3 [1, 2] (.act true 5 [1, 3, 4] (.pu 6 (.pu 7 (.pu 8 (.fl 9 (.fl 11 (.act true 10 [8, 9] (.act true 12 [8, 10, 11] (.pu 13 (.pu 14 (.pu 15 (.fl 16 (.fl 17 (.fl 19 (.fl 20 (.act true 18 [15, 16, 17] (.act true 21 [15, 18, 19, 20] (.pu 22 (.pu 23 (.pu 24 .done))) .stop) .stop)))))))) .stop) .stop)))))) .stop) .stop)))) .stop))
   .ret)),
 [.t 4]⟩
theorem ir3_ok : cFn Try.prog Try.f3 = some ir3 := by kernel_rfl

/- pumice/pumicelaw17.PickBests -/
def ir4 : FIR := ⟨17,
 (.seq
  (.ops [⟨(some 2), none, (.p .mv), [.const (.bool false)]⟩])
  (.seq
   (.ops [⟨(some 4), none, (.p .mv), [.tmp 0]⟩,
     ⟨(some 5), none, (.p .mv), [.tmp 0]⟩,
     ⟨(some 6), none, (.p .lenS), [.tmp 5]⟩,
     ⟨(some 7), none, (.p .min), [.tmp 6, .const (.int .i64 200)]⟩,
     ⟨(some 8), none, (.p (.cutS 4 false true false)), [.tmp 4, .tmp 7]⟩,
     ⟨(some 3), none, (.p .mv), [.tmp 8]⟩])
   (.seq
    (.ops [⟨(some 9), none, (.call 9), []⟩,
      ⟨(some 10), none, (.p .mv), [.tmp 9]⟩,
      ⟨(some 11), (some (10, true)), (.p .mv), [.tmp 3]⟩,
      ⟨(some 12), (some (10, true)), (.call 16), [.tmp 11]⟩,
      ⟨(some 13), (some (10, true)), (.p .mv), [.tmp 3]⟩,
      ⟨(some 14), (some (10, true)), (.call 17), [.tmp 13]⟩,
      ⟨(some 15), (some (10, true)), (.p (.cmp .eql)), [.tmp 12, .tmp 14]⟩,
      ⟨(some 16), none, (.p .pick), [.tmp 10, .tmp 15, .const (.bool false)]⟩,
      ⟨(some 2), none, (.p .mv), [.tmp 16]⟩])
    .ret))),
 [.t 2]⟩
theorem ir4_ok : cFn Try.prog Try.f4 = some ir4 := by kernel_rfl

/- pumice/pumicelaw17.PickOrder -/
def ir5 : FIR := ⟨68,
 (.seq
  (.ops [⟨(some 3), none, (.box 24), [.tmp 0]⟩,
    ⟨(some 4), none, (.box 24), [.tmp 1]⟩,
    ⟨(some 5), none, (.box 24), [.tmp 2]⟩,
    ⟨(some 6), none, (.p .mv), [.const (.bool false)]⟩])
  (.seq
   (.ops [⟨(some 9), none, (.call 9), []⟩,
     ⟨(some 7), none, (.p .mv), [.tmp 9]⟩])
   (.seq
    (.seq
     (.ops [⟨(some 10), none, (.loadN 4), [.tmp 3]⟩,
       ⟨(some 11), none, (.loadN 4), [.tmp 3]⟩,
       ⟨(some 12), none, (.call 14), [.tmp 10, .tmp 11]⟩,
       ⟨(some 13), none, (.p .mv), [.tmp 12]⟩,
       ⟨(some 14), (some (13, false)), (.loadN 4), [.tmp 3]⟩,
       ⟨(some 15), (some (13, false)), (.loadN 4), [.tmp 4]⟩,
       ⟨(some 16), (some (13, false)), (.call 14), [.tmp 14, .tmp 15]⟩,
       ⟨(some 17), (some (13, false)), (.p .mv), [.tmp 16]⟩,
       ⟨(some 18), (some (17, true)), (.loadN 4), [.tmp 4]⟩,
       ⟨(some 19), (some (17, true)), (.loadN 4), [.tmp 3]⟩,
       ⟨(some 20), (some (17, true)), (.call 14), [.tmp 18, .tmp 19]⟩,
       ⟨(some 21), (some (13, false)), (.p .pick), [.tmp 17, .tmp 20, .const (.bool false)]⟩,
       ⟨(some 22), none, (.p .pick), [.tmp 13, .const (.bool true), .tmp 21]⟩,
       ⟨(some 23), none, (.p .mv), [.tmp 22]⟩,
       ⟨(some 24), (some (23, false)), (.loadN 4), [.tmp 3]⟩,
       ⟨(some 25), (some (23, false)), (.loadN 4), [.tmp 4]⟩,
       ⟨(some 26), (some (23, false)), (.call 14), [.tmp 24, .tmp 25]⟩,
       ⟨(some 27), (some (23, false)), (.p .mv), [.tmp 26]⟩,
       ⟨(some 28), (some (27, true)), (.loadN 4), [.tmp 4]⟩,
       ⟨(some 29), (some (27, true)), (.loadN 4), [.tmp 5]⟩,
       ⟨(some 30), (some (27, true)), (.call 14), [.tmp 28, .tmp 29]⟩,
       ⟨(some 31), (some (23, false)), (.p .pick), [.tmp 27, .tmp 30, .const (.bool false)]⟩,
       ⟨(some 32), (some (23, false)), (.p .mv), [.tmp 31]⟩,
       ⟨(some 33), (some (32, true)), (.loadN 4), [.tmp 3]⟩,
       ⟨(some 34), (some (32, true)), (.loadN 4), [.tmp 5]⟩,
       ⟨(some 35), (some (32, true)), (.call 14), [.tmp 33, .tmp 34]⟩,
       ⟨(some 36), (some (32, true)), (.p .not), [.tmp 35]⟩,
       ⟨(some 37), (some (23, false)), (.p .pick), [.tmp 32, .tmp 36, .const (.bool false)]⟩,
       ⟨(some 38), none, (.p .pick), [.tmp 23, .const (.bool true), .tmp 37]⟩])
     (.cond (.tmp 38)
      (.seq
       (.ops [⟨(some 6), none, (.p .mv), [.const (.bool false)]⟩])
       .ret)
      .skip))
    (.seq
     (.ops [⟨(some 39), none, (.p (.faddr 0)), [.tmp 3]⟩,
       ⟨(some 40), none, .load1, [.tmp 39]⟩,
       ⟨(some 41), none, (.p (.faddr 0)), [.tmp 4]⟩,
       ⟨(some 42), none, .load1, [.tmp 41]⟩,
       ⟨(some 43), none, (.p (.cmp .eql)), [.tmp 40, .tmp 42]⟩,
       ⟨(some 8), none, (.p .mv), [.tmp 43]⟩])
     (.seq
      (.ops [⟨(some 44), none, (.p .mv), [.tmp 7]⟩,
        ⟨(some 45), none, (.p .mv), [.tmp 44]⟩,
        ⟨(some 46), (some (45, true)), (.p .mv), [.tmp 8]⟩,
        ⟨(some 47), (some (45, true)), (.p .mv), [.tmp 46]⟩,
        ⟨(some 48), (some (47, false)), (.loadN 4), [.tmp 3]⟩,
        ⟨(some 49), (some (47, false)), (.call 12), [.tmp 48]⟩,
        ⟨(some 50), (some (47, false)), (.p .not), [.tmp 49]⟩,
        ⟨(some 51), (some (45, true)), (.p .pick), [.tmp 47, .const (.bool true), .tmp 50]⟩,
        ⟨(some 52), (some (45, true)), (.p .mv), [.tmp 51]⟩,
        ⟨(some 53), (some (52, false)), (.loadN 4), [.tmp 4]⟩,
        ⟨(some 54), (some (52, false)), (.call 12), [.tmp 53]⟩,
        ⟨(some 55), (some (52, false)), (.p .not), [.tmp 54]⟩,
        ⟨(some 56), (some (45, true)), (.p .pick), [.tmp 52, .const (.bool true), .tmp 55]⟩,
        ⟨(some 57), (some (45, true)), (.p .mv), [.tmp 56]⟩,
        ⟨(some 58), (some (57, false)), (.loadN 4), [.tmp 3]⟩,
        ⟨(some 59), (some (57, false)), (.loadN 4), [.tmp 4]⟩,
        ⟨(some 60), (some (57, false)), (.call 14), [.tmp 58, .tmp 59]⟩,
        ⟨(some 61), (some (45, true)), (.p .pick), [.tmp 57, .const (.bool true), .tmp 60]⟩,
        ⟨(some 62), (some (45, true)), (.p .mv), [.tmp 61]⟩,
        ⟨(some 63), (some (62, false)), (.loadN 4), [.tmp 4]⟩,
        ⟨(some 64), (some (62, false)), (.loadN 4), [.tmp 3]⟩,
        ⟨(some 65), (some (62, false)), (.call 14), [.tmp 63, .tmp 64]⟩,
        ⟨(some 66), (some (45, true)), (.p .pick), [.tmp 62, .const (.bool true), .tmp 65]⟩,
        ⟨(some 67), none, (.p .pick), [.tmp 45, .tmp 66, .const (.bool false)]⟩,
        ⟨(some 6), none, (.p .mv), [.tmp 67]⟩])
      .ret))))),
 [.t 6]⟩
theorem ir5_ok : cFn Try.prog Try.f5 = some ir5 := by kernel_rfl

/- pumice/pumicelaw17.PickTops -/
def ir6 : FIR := ⟨65,
 (.seq
  (.ops [⟨(some 2), none, (.p .mv), [.const (.bool false)]⟩])
  (.seq
   (.ops [⟨(some 7), none, (.call 9), []⟩,
     ⟨(some 3), none, (.p .mv), [.tmp 7]⟩])
   (.seq
    (.ops [⟨(some 8), none, (.p .mv), [.tmp 0]⟩,
      ⟨(some 9), none, (.p .mv), [.tmp 0]⟩,
      ⟨(some 10), none, (.p .lenS), [.tmp 9]⟩,
      ⟨(some 11), none, (.p .min), [.tmp 10, .const (.int .i64 200)]⟩,
      ⟨(some 12), none, (.p (.cutS 4 false true false)), [.tmp 8, .tmp 11]⟩,
      ⟨(some 4), none, (.p .mv), [.tmp 12]⟩])
    (.seq
     (.ops [⟨(some 13), none, (.p .mv), [.tmp 4]⟩,
       ⟨(some 14), none, (.call 16), [.tmp 13]⟩,
       ⟨(some 5), none, (.p .mv), [.tmp 14]⟩])
     (.seq
      (.seq
       (.ops [⟨(some 15), none, (.p .mv), [.tmp 5]⟩,
         ⟨(some 16), none, (.p (.cmp .lss)), [.tmp 15, .const (.int .i64 (-1))]⟩,
         ⟨(some 17), none, (.p .mv), [.tmp 16]⟩,
         ⟨(some 18), (some (17, false)), (.p .mv), [.tmp 5]⟩,
         ⟨(some 19), (some (17, false)), (.p .mv), [.tmp 4]⟩,
         ⟨(some 20), (some (17, false)), (.p .lenS), [.tmp 19]⟩,
         ⟨(some 21), (some (17, false)), (.p (.cmp .geq)), [.tmp 18, .tmp 20]⟩,
         ⟨(some 22), none, (.p .pick), [.tmp 17, .const (.bool true), .tmp 21]⟩])
       (.cond (.tmp 22)
        (.seq
         (.ops [⟨(some 2), none, (.p .mv), [.const (.bool false)]⟩])
         .ret)
        .skip))
      (.seq
       (.seq
        (.ops [⟨(some 23), none, (.p .mv), [.tmp 4]⟩,
          ⟨(some 24), none, (.p .lenS), [.tmp 23]⟩,
          ⟨(some 25), none, (.p .mv), [.const (.int .i64 0)]⟩])
        (.block 0
         (.loop
          (.seq
           (.ops [⟨(some 26), none, (.p (.cmp .lss)), [.tmp 25, .tmp 24]⟩])
           (.seq
            (.cond (.tmp 26)
             .skip
             (.exit 0))
            (.seq
             (.block 1
              (.seq
               (.ops [⟨(some 27), none, (.p .mv), [.tmp 25]⟩,
                 ⟨(some 6), none, (.p .mv), [.tmp 27]⟩])
               (.seq
                (.draw [⟨(some 28), none, (.p .mv), [.tmp 5]⟩,
                  ⟨(some 29), none, (.p (.cmp .lss)), [.tmp 28, .const (.int .i64 0)]⟩,
                  ⟨(some 30), none, (.p .mv), [.tmp 29]⟩,
                  ⟨(some 31), (some (30, true)), (.p .mv), [.tmp 4]⟩,
                  ⟨(some 32), (some (30, true)), (.p .mv), [.tmp 6]⟩,
                  ⟨(some 33), (some (30, true)), (.p (.iaddrS 4)), [.tmp 31, .tmp 32]⟩,
                  ⟨(some 34), (some (30, true)), (.loadN 4), [.tmp 33]⟩,
                  ⟨(some 35), (some (30, true)), (.call 12), [.tmp 34]⟩,
                  ⟨(some 36), none, (.p .pick), [.tmp 30, .tmp 35, .const (.bool false)]⟩,
                  ⟨(some 37), none, (.p .mv), [.tmp 36]⟩,
                  ⟨(some 38), (some (37, false)), (.p .mv), [.tmp 5]⟩,
                  ⟨(some 39), (some (37, false)), (.p (.cmp .geq)), [.tmp 38, .const (.int .i64 0)]⟩,
                  ⟨(some 40), (some (37, false)), (.p .mv), [.tmp 39]⟩,
                  ⟨(some 41), (some (40, true)), (.p .mv), [.tmp 4]⟩,
                  ⟨(some 42), (some (40, true)), (.p .mv), [.tmp 6]⟩,
                  ⟨(some 43), (some (40, true)), (.p (.iaddrS 4)), [.tmp 41, .tmp 42]⟩,
                  ⟨(some 44), (some (40, true)), (.loadN 4), [.tmp 43]⟩,
                  ⟨(some 45), (some (40, true)), (.p .mv), [.tmp 4]⟩,
                  ⟨(some 46), (some (40, true)), (.p .mv), [.tmp 5]⟩,
                  ⟨(some 47), (some (40, true)), (.p (.iaddrS 4)), [.tmp 45, .tmp 46]⟩,
                  ⟨(some 48), (some (40, true)), (.loadN 4), [.tmp 47]⟩,
                  ⟨(some 49), (some (40, true)), (.call 14), [.tmp 44, .tmp 48]⟩,
                  ⟨(some 50), (some (37, false)), (.p .pick), [.tmp 40, .tmp 49, .const (.bool false)]⟩,
                  ⟨(some 51), none, (.p .pick), [.tmp 37, .const (.bool true), .tmp 50]⟩] (.pu 0 (.pu 1 (.pu 2 (.pu 3 (.pu 4 (.pu 5 (.fl 6 (.act true 7 [2, 6] (.pu 8 (.pu 9 (.pu 10 (.pu 11 (.pu 12 (.pu 13 (.pu 14 (.pu 15 (.pu 17 (.pu 18 (.pu 19 (.fl 16 (.fl 20 (.act true 21 [12, 16, 20] (.pu 22 (.pu 23 .done)) .stop)))))))))))))) .stop)))))))))
                (.cond (.tmp 51)
                 (.seq
                  (.ops [⟨(some 2), none, (.p .mv), [.const (.bool false)]⟩])
                  .ret)
                 .skip))))
             (.ops [⟨(some 52), none, (.p (.bin .add)), [.tmp 25, .const (.int .i64 1)]⟩,
               ⟨(some 25), none, (.p .mv), [.tmp 52]⟩])))))))
       (.seq
        (.ops [⟨(some 53), none, (.p .mv), [.tmp 3]⟩,
          ⟨(some 54), none, (.p .mv), [.tmp 53]⟩,
          ⟨(some 55), (some (54, true)), (.p .mv), [.tmp 5]⟩,
          ⟨(some 56), (some (54, true)), (.p (.cmp .lss)), [.tmp 55, .const (.int .i64 0)]⟩,
          ⟨(some 57), (some (54, true)), (.p .mv), [.tmp 56]⟩,
          ⟨(some 58), (some (57, false)), (.p .mv), [.tmp 4]⟩,
          ⟨(some 59), (some (57, false)), (.p .mv), [.tmp 5]⟩,
          ⟨(some 60), (some (57, false)), (.p (.iaddrS 4)), [.tmp 58, .tmp 59]⟩,
          ⟨(some 61), (some (57, false)), (.loadN 4), [.tmp 60]⟩,
          ⟨(some 62), (some (57, false)), (.call 12), [.tmp 61]⟩,
          ⟨(some 63), (some (54, true)), (.p .pick), [.tmp 57, .const (.bool true), .tmp 62]⟩,
          ⟨(some 64), none, (.p .pick), [.tmp 54, .tmp 63, .const (.bool false)]⟩,
          ⟨(some 2), none, (.p .mv), [.tmp 64]⟩])
        .ret))))))),
 [.t 2]⟩
theorem ir6_ok : cFn Try.prog Try.f6 = some ir6 := by kernel_rfl

/- pumice/pumicelaw17.PickLess -/
def ir7 : FIR := ⟨58,
 (.seq
  (.ops [⟨(some 3), none, (.box 24), [.tmp 0]⟩,
    ⟨(some 6), none, (.p .mv), [.const (.bool false)]⟩])
  (.seq
   (.ops [⟨(some 10), none, (.call 9), []⟩,
     ⟨(some 7), none, (.p .mv), [.tmp 10]⟩])
   (.seq
    (.draw [⟨(some 11), none, (.loadN 4), [.tmp 3]⟩,
      ⟨(some 12), none, (.loadN 4), [.tmp 3]⟩,
      ⟨(some 8), none, (.alloc 24 #[(.int .i64 0), (.int .i64 0), (.int .i64 0), (.int .u64 0)]), []⟩,
      ⟨(some 9), none, (.alloc 24 #[(.int .i64 0), (.int .i64 0), (.int .i64 0), (.int .u64 0)]), []⟩,
      ⟨none, none, (.storeN 4), [.tmp 8, .tmp 11]⟩,
      ⟨none, none, (.storeN 4), [.tmp 9, .tmp 12]⟩] (.fl 0 (.fl 1 (.act true 2 [] (.act true 3 [] (.act true 4 [0, 2, 3] (.act true 5 [0, 1, 2, 3, 4] .done .stop) .stop) .stop) (.act false 3 [] (.act true 2 [] (.act true 4 [0, 2, 3] (.act true 5 [0, 1, 2, 3, 4] .done .stop) .stop) .stop) .stop)))))
    (.seq
     (.ops [⟨(some 13), none, (.p .mv), [.tmp 1]⟩,
       ⟨(some 14), none, (.p (.faddr 1)), [.tmp 8]⟩,
       ⟨none, none, .store1, [.tmp 14, .tmp 13]⟩])
     (.seq
      (.ops [⟨(some 15), none, (.p .mv), [.tmp 2]⟩,
        ⟨(some 16), none, (.p (.faddr 3)), [.tmp 9]⟩,
        ⟨none, none, .store1, [.tmp 16, .tmp 15]⟩])
      (.seq
       (.seq
        (.ops [⟨(some 17), none, (.loadN 4), [.tmp 3]⟩,
          ⟨(some 18), none, (.call 10), [.tmp 17]⟩,
          ⟨(some 19), none, (.p .not), [.tmp 18]⟩,
          ⟨(some 20), none, (.p .mv), [.tmp 19]⟩,
          ⟨(some 21), (some (20, false)), (.loadN 4), [.tmp 8]⟩,
          ⟨(some 22), (some (20, false)), (.call 10), [.tmp 21]⟩,
          ⟨(some 23), (some (20, false)), (.p .not), [.tmp 22]⟩,
          ⟨(some 24), none, (.p .pick), [.tmp 20, .const (.bool true), .tmp 23]⟩])
        (.cond (.tmp 24)
         (.seq
          (.ops [⟨(some 25), none, (.p .mv), [.tmp 7]⟩,
            ⟨(some 6), none, (.p .mv), [.tmp 25]⟩])
          .ret)
         .skip))
       (.seq
        (.seq
         (.ops [⟨(some 26), none, (.p .mv), [.tmp 1]⟩,
           ⟨(some 27), none, (.p (.faddr 1)), [.tmp 3]⟩,
           ⟨(some 28), none, .load1, [.tmp 27]⟩,
           ⟨(some 29), none, (.p (.cmp .lss)), [.tmp 26, .tmp 28]⟩,
           ⟨(some 30), none, (.p .mv), [.tmp 29]⟩,
           ⟨(some 31), (some (30, true)), (.loadN 4), [.tmp 8]⟩,
           ⟨(some 32), (some (30, true)), (.loadN 4), [.tmp 3]⟩,
           ⟨(some 33), (some (30, true)), (.call 14), [.tmp 31, .tmp 32]⟩,
           ⟨(some 34), (some (30, true)), (.p .not), [.tmp 33]⟩,
           ⟨(some 35), none, (.p .pick), [.tmp 30, .tmp 34, .const (.bool false)]⟩])
         (.cond (.tmp 35)
          (.seq
           (.ops [⟨(some 6), none, (.p .mv), [.const (.bool false)]⟩])
           .ret)
          .skip))
        (.seq
         (.ops [⟨(some 36), none, (.p .mv), [.tmp 7]⟩,
           ⟨(some 37), none, (.p .mv), [.tmp 36]⟩,
           ⟨(some 38), (some (37, true)), (.p .mv), [.tmp 2]⟩,
           ⟨(some 39), (some (37, true)), (.p (.faddr 3)), [.tmp 3]⟩,
           ⟨(some 40), (some (37, true)), .load1, [.tmp 39]⟩,
           ⟨(some 41), (some (37, true)), (.p (.cmp .leq)), [.tmp 38, .tmp 40]⟩,
           ⟨(some 42), (some (37, true)), (.p .mv), [.tmp 41]⟩,
           ⟨(some 43), (some (42, false)), (.p (.faddr 3)), [.tmp 3]⟩,
           ⟨(some 44), (some (42, false)), .load1, [.tmp 43]⟩,
           ⟨(some 45), (some (42, false)), (.p (.cmp .geq)), [.tmp 44, .const (.int .u64 4294967296)]⟩,
           ⟨(some 46), (some (37, true)), (.p .pick), [.tmp 42, .const (.bool true), .tmp 45]⟩,
           ⟨(some 47), (some (37, true)), (.p .mv), [.tmp 46]⟩,
           ⟨(some 48), (some (47, false)), (.loadN 4), [.tmp 3]⟩,
           ⟨(some 49), (some (47, false)), (.call 12), [.tmp 48]⟩,
           ⟨(some 50), (some (47, false)), (.p .not), [.tmp 49]⟩,
           ⟨(some 51), (some (37, true)), (.p .pick), [.tmp 47, .const (.bool true), .tmp 50]⟩,
           ⟨(some 52), (some (37, true)), (.p .mv), [.tmp 51]⟩,
           ⟨(some 53), (some (52, false)), (.loadN 4), [.tmp 9]⟩,
           ⟨(some 54), (some (52, false)), (.loadN 4), [.tmp 3]⟩,
           ⟨(some 55), (some (52, false)), (.call 14), [.tmp 53, .tmp 54]⟩,
           ⟨(some 56), (some (37, true)), (.p .pick), [.tmp 52, .const (.bool true), .tmp 55]⟩,
           ⟨(some 57), none, (.p .pick), [.tmp 37, .tmp 56, .const (.bool false)]⟩,
           ⟨(some 6), none, (.p .mv), [.tmp 57]⟩])
         .ret)))))))),
 [.t 6]⟩
theorem ir7_ok : cFn Try.prog Try.f7 = some ir7 := by kernel_rfl

/- pumice/pumicelaw17.PickAlone -/
def ir8 : FIR := ⟨73,
 (.seq
  (.ops [⟨(some 4), none, (.p .mv), [.const (.bool false)]⟩])
  (.seq
   (.ops [⟨(some 10), none, (.call 9), []⟩,
     ⟨(some 5), none, (.p .mv), [.tmp 10]⟩])
   (.seq
    (.ops [⟨(some 11), none, (.p .mv), [.tmp 0]⟩,
      ⟨(some 12), none, (.p .mv), [.tmp 0]⟩,
      ⟨(some 13), none, (.p .lenS), [.tmp 12]⟩,
      ⟨(some 14), none, (.p .min), [.tmp 13, .const (.int .i64 200)]⟩,
      ⟨(some 15), none, (.p (.cutS 4 false true false)), [.tmp 11, .tmp 14]⟩,
      ⟨(some 6), none, (.p .mv), [.tmp 15]⟩])
    (.seq
     (.ops [⟨(some 16), none, (.p .mv), [.tmp 6]⟩,
       ⟨(some 17), none, (.call 16), [.tmp 16]⟩,
       ⟨(some 7), none, (.p .mv), [.tmp 17]⟩])
     (.seq
      (.seq
       (.ops [⟨(some 18), none, (.p .mv), [.tmp 7]⟩,
         ⟨(some 19), none, (.p (.cmp .lss)), [.tmp 18, .const (.int .i64 (-1))]⟩,
         ⟨(some 20), none, (.p .mv), [.tmp 19]⟩,
         ⟨(some 21), (some (20, false)), (.p .mv), [.tmp 7]⟩,
         ⟨(some 22), (some (20, false)), (.p .mv), [.tmp 6]⟩,
         ⟨(some 23), (some (20, false)), (.p .lenS), [.tmp 22]⟩,
         ⟨(some 24), (some (20, false)), (.p (.cmp .geq)), [.tmp 21, .tmp 23]⟩,
         ⟨(some 25), none, (.p .pick), [.tmp 20, .const (.bool true), .tmp 24]⟩])
       (.cond (.tmp 25)
        (.seq
         (.ops [⟨(some 4), none, (.p .mv), [.const (.bool false)]⟩])
         .ret)
        .skip))
      (.seq
       (.seq
        (.ops [⟨(some 26), none, (.p .mv), [.tmp 6]⟩,
          ⟨(some 27), none, (.p .lenS), [.tmp 26]⟩,
          ⟨(some 28), none, (.p .mv), [.const (.int .i64 0)]⟩])
        (.block 0
         (.loop
          (.seq
           (.ops [⟨(some 29), none, (.p (.cmp .lss)), [.tmp 28, .tmp 27]⟩])
           (.seq
            (.cond (.tmp 29)
             .skip
             (.exit 0))
            (.seq
             (.block 1
              (.seq
               (.ops [⟨(some 30), none, (.p .mv), [.tmp 28]⟩,
                 ⟨(some 8), none, (.p .mv), [.tmp 30]⟩])
               (.seq
                (.draw [⟨(some 31), none, (.p .mv), [.tmp 6]⟩,
                  ⟨(some 32), none, (.p .mv), [.tmp 8]⟩,
                  ⟨(some 33), none, (.p .mv), [.tmp 8]⟩,
                  ⟨(some 34), none, (.p (.bin .add)), [.tmp 33, .const (.int .i64 1)]⟩,
                  ⟨(some 35), none, (.p (.cutS 4 true true false)), [.tmp 31, .tmp 32, .tmp 34]⟩,
                  ⟨(some 36), none, (.call 16), [.tmp 35]⟩,
                  ⟨(some 37), none, (.p (.cmp .eql)), [.tmp 36, .const (.int .i64 0)]⟩,
                  ⟨(some 38), none, (.p .mv), [.tmp 6]⟩,
                  ⟨(some 39), none, (.p .mv), [.tmp 8]⟩,
                  ⟨(some 40), none, (.p (.iaddrS 4)), [.tmp 38, .tmp 39]⟩,
                  ⟨(some 41), none, (.loadN 4), [.tmp 40]⟩,
                  ⟨(some 42), none, (.call 12), [.tmp 41]⟩,
                  ⟨(some 43), none, (.p (.beq true)), [.tmp 37, .tmp 42]⟩] (.pu 0 (.pu 1 (.pu 2 (.pu 3 (.pu 4 (.pu 7 (.pu 8 (.pu 9 (.fl 10 (.act true 5 [4] (.pu 6 (.act true 11 [5, 10] (.pu 12 .done) .stop)) .stop)))))))))))
                (.cond (.tmp 43)
                 (.seq
                  (.ops [⟨(some 4), none, (.p .mv), [.const (.bool false)]⟩])
                  .ret)
                 .skip))))
             (.ops [⟨(some 44), none, (.p (.bin .add)), [.tmp 28, .const (.int .i64 1)]⟩,
               ⟨(some 28), none, (.p .mv), [.tmp 44]⟩])))))))
       (.seq
        (.seq
         (.ops [⟨(some 45), none, (.p .mv), [.tmp 7]⟩,
           ⟨(some 46), none, (.p (.cmp .lss)), [.tmp 45, .const (.int .i64 0)]⟩])
         (.cond (.tmp 46)
          (.seq
           (.ops [⟨(some 47), none, (.p .mv), [.tmp 5]⟩,
             ⟨(some 4), none, (.p .mv), [.tmp 47]⟩])
           .ret)
          .skip))
        (.seq
         (.ops [⟨(some 48), none, (.p .mv), [.tmp 1]⟩,
           ⟨(some 49), none, (.p (.conv .i64)), [.tmp 48]⟩,
           ⟨(some 50), none, (.p .mv), [.tmp 7]⟩,
           ⟨(some 51), none, (.p (.bin .add)), [.tmp 50, .const (.int .i64 1)]⟩,
           ⟨(some 52), none, (.p (.bin .rem)), [.tmp 49, .tmp 51]⟩,
           ⟨(some 9), none, (.p .mv), [.tmp 52]⟩])
         (.seq
          (.ops [⟨(some 53), none, (.p .mv), [.tmp 5]⟩,
            ⟨(some 54), none, (.p .mv), [.tmp 53]⟩,
            ⟨(some 55), (some (54, true)), (.p .mv), [.tmp 6]⟩,
            ⟨(some 56), (some (54, true)), (.p .mv), [.tmp 9]⟩,
            ⟨(some 57), (some (54, true)), (.p (.cutS 4 true false false)), [.tmp 55, .tmp 56]⟩,
            ⟨(some 58), (some (54, true)), (.call 16), [.tmp 57]⟩,
            ⟨(some 59), (some (54, true)), (.p .mv), [.tmp 7]⟩,
            ⟨(some 60), (some (54, true)), (.p .mv), [.tmp 9]⟩,
            ⟨(some 61), (some (54, true)), (.p (.bin .sub)), [.tmp 59, .tmp 60]⟩,
            ⟨(some 62), (some (54, true)), (.p (.cmp .eql)), [.tmp 58, .tmp 61]⟩,
            ⟨(some 63), none, (.p .pick), [.tmp 54, .tmp 62, .const (.bool false)]⟩,
            ⟨(some 64), none, (.p .mv), [.tmp 63]⟩,
            ⟨(some 65), (some (64, true)), (.p .mv), [.tmp 6]⟩,
            ⟨(some 66), (some (64, true)), (.p .mv), [.tmp 7]⟩,
            ⟨(some 67), (some (64, true)), (.p (.bin .add)), [.tmp 66, .const (.int .i64 1)]⟩,
            ⟨(some 68), (some (64, true)), (.p (.cutS 4 false true false)), [.tmp 65, .tmp 67]⟩,
            ⟨(some 69), (some (64, true)), (.call 16), [.tmp 68]⟩,
            ⟨(some 70), (some (64, true)), (.p .mv), [.tmp 7]⟩,
            ⟨(some 71), (some (64, true)), (.p (.cmp .eql)), [.tmp 69, .tmp 70]⟩,
            ⟨(some 72), none, (.p .pick), [.tmp 64, .tmp 71, .const (.bool false)]⟩,
            ⟨(some 4), none, (.p .mv), [.tmp 72]⟩])
          .ret))))))))),
 [.t 4]⟩
theorem ir8_ok : cFn Try.prog Try.f8 = some ir8 := by kernel_rfl

/- pumice/pumicelaw17.shown -/
def ir9 : FIR := ⟨32,
 (.seq
  (.ops [⟨(some 0), none, (.p .mv), [.const (.bool false)]⟩])
  (.seq
   (.ops [⟨(some 2), none, (.p (.bldS #[(.int .i64 0), (.int .i64 0), (.int .i64 0), (.int .u64 0)] #[(0, 1), (1, 1), (2, 1), (3, 1)] [0, 1, 2])), [.const (.int .i64 1), .const (.int .i64 4), .const (.int .i64 8)]⟩,
     ⟨(some 3), none, (.p (.bldS #[(.int .i64 0), (.int .i64 0), (.int .i64 0), (.int .u64 0)] #[(0, 1), (1, 1), (2, 1), (3, 1)] [0, 2])), [.const (.int .i64 2), .const (.int .i64 8)]⟩,
     ⟨(some 4), none, (.p (.bldS #[(.int .i64 0), (.int .i64 0), (.int .i64 0), (.int .u64 0)] #[(0, 1), (1, 1), (2, 1), (3, 1)] [0, 1, 2, 3])), [.const (.int .i64 3), .const (.int .i64 6), .const (.int .i64 8), .const (.int .u64 30)]⟩,
     ⟨(some 5), none, (.bldSl 24 3 4 #[(.int .i64 0), (.int .i64 0), (.int .i64 0), (.int .u64 0), (.int .i64 0), (.int .i64 0), (.int .i64 0), (.int .u64 0), (.int .i64 0), (.int .i64 0), (.int .i64 0), (.int .u64 0)] [0, 1, 2]), [.tmp 2, .tmp 3, .tmp 4]⟩,
     ⟨(some 1), none, (.p .mv), [.tmp 5]⟩])
   (.seq
    (.draw [⟨(some 6), none, (.p .mv), [.tmp 1]⟩,
      ⟨(some 7), none, (.call 16), [.tmp 6]⟩,
      ⟨(some 8), none, (.p (.cmp .eql)), [.tmp 7, .const (.int .i64 2)]⟩,
      ⟨(some 9), none, (.p .mv), [.tmp 8]⟩,
      ⟨(some 10), (some (9, true)), (.p .mv), [.tmp 1]⟩,
      ⟨(some 11), (some (9, true)), (.p (.iaddrS 4)), [.tmp 10, .const (.int .i64 1)]⟩,
      ⟨(some 12), (some (9, true)), (.loadN 4), [.tmp 11]⟩,
      ⟨(some 13), (some (9, true)), (.p .mv), [.tmp 1]⟩,
      ⟨(some 14), (some (9, true)), (.p (.iaddrS 4)), [.tmp 13, .const (.int .i64 0)]⟩,
      ⟨(some 15), (some (9, true)), (.loadN 4), [.tmp 14]⟩,
      ⟨(some 16), (some (9, true)), (.call 14), [.tmp 12, .tmp 15]⟩,
      ⟨(some 17), none, (.p .pick), [.tmp 9, .tmp 16, .const (.bool false)]⟩,
      ⟨(some 18), none, (.p .mv), [.tmp 17]⟩,
      ⟨(some 19), (some (18, true)), (.p .mv), [.tmp 1]⟩,
      ⟨(some 20), (some (18, true)), (.p (.iaddrS 4)), [.tmp 19, .const (.int .i64 1)]⟩,
      ⟨(some 21), (some (18, true)), (.loadN 4), [.tmp 20]⟩,
      ⟨(some 22), (some (18, true)), (.p .mv), [.tmp 1]⟩,
      ⟨(some 23), (some (18, true)), (.p (.iaddrS 4)), [.tmp 22, .const (.int .i64 2)]⟩,
      ⟨(some 24), (some (18, true)), (.loadN 4), [.tmp 23]⟩,
      ⟨(some 25), (some (18, true)), (.call 14), [.tmp 21, .tmp 24]⟩,
      ⟨(some 26), (some (18, true)), (.p .not), [.tmp 25]⟩,
      ⟨(some 27), none, (.p .pick), [.tmp 18, .tmp 26, .const (.bool false)]⟩,
      ⟨(some 28), none, (.p .mv), [.tmp 27]⟩,
      ⟨(some 29), (some (28, true)), (.call 16), [.const (.slice none 0 0)]⟩,
      ⟨(some 30), (some (28, true)), (.p (.cmp .eql)), [.tmp 29, .const (.int .i64 (-1))]⟩,
      ⟨(some 31), none, (.p .pick), [.tmp 28, .tmp 30, .const (.bool false)]⟩,
      ⟨(some 0), none, (.p .mv), [.tmp 31]⟩] (.pu 0 (.act true 1 [0] (.pu 2 (.pu 3 (.pu 4 (.pu 5 (.pu 7 (.pu 8 (.fl 6 (.fl 9 (.act true 10 [3, 6, 9] (.pu 11 (.pu 12 (.pu 13 (.pu 14 (.pu 16 (.pu 17 (.fl 15 (.fl 18 (.act true 19 [12, 15, 18] (.pu 20 (.pu 21 (.pu 22 (.act true 23 [22] (.pu 24 (.pu 25 (.pu 26 .done))) .stop)))) .stop))))))))) .stop))))))))) .stop)))
    .ret))),
 [.t 0]⟩
theorem ir9_ok : cFn Try.prog Try.f9 = some ir9 := by kernel_rfl

/- pumice/pick.Right -/
def ir10 : FIR := ⟨23,
 (.seq
  (.ops [⟨(some 1), none, (.box 24), [.tmp 0]⟩,
    ⟨(some 2), none, (.p .mv), [.const (.bool false)]⟩])
  (.seq
   (.ops [⟨(some 3), none, (.p (.faddr 2)), [.tmp 1]⟩,
     ⟨(some 4), none, .load1, [.tmp 3]⟩,
     ⟨(some 5), none, (.p (.cmp .leq)), [.const (.int .i64 1), .tmp 4]⟩,
     ⟨(some 6), none, (.p .mv), [.tmp 5]⟩,
     ⟨(some 7), (some (6, true)), (.p (.faddr 2)), [.tmp 1]⟩,
     ⟨(some 8), (some (6, true)), .load1, [.tmp 7]⟩,
     ⟨(some 9), (some (6, true)), (.p (.cmp .leq)), [.tmp 8, .const (.int .i64 64)]⟩,
     ⟨(some 10), none, (.p .pick), [.tmp 6, .tmp 9, .const (.bool false)]⟩,
     ⟨(some 11), none, (.p .mv), [.tmp 10]⟩,
     ⟨(some 12), (some (11, true)), (.p (.faddr 1)), [.tmp 1]⟩,
     ⟨(some 13), (some (11, true)), .load1, [.tmp 12]⟩,
     ⟨(some 14), (some (11, true)), (.p (.cmp .leq)), [.const (.int .i64 0), .tmp 13]⟩,
     ⟨(some 15), none, (.p .pick), [.tmp 11, .tmp 14, .const (.bool false)]⟩,
     ⟨(some 16), none, (.p .mv), [.tmp 15]⟩,
     ⟨(some 17), (some (16, true)), (.p (.faddr 1)), [.tmp 1]⟩,
     ⟨(some 18), (some (16, true)), .load1, [.tmp 17]⟩,
     ⟨(some 19), (some (16, true)), (.p (.faddr 2)), [.tmp 1]⟩,
     ⟨(some 20), (some (16, true)), .load1, [.tmp 19]⟩,
     ⟨(some 21), (some (16, true)), (.p (.cmp .leq)), [.tmp 18, .tmp 20]⟩,
     ⟨(some 22), none, (.p .pick), [.tmp 16, .tmp 21, .const (.bool false)]⟩,
     ⟨(some 2), none, (.p .mv), [.tmp 22]⟩])
   .ret)),
 [.t 2]⟩
theorem ir10_ok : cFn Try.prog Try.f10 = some ir10 := by kernel_rfl

/- pumice/pumiceref17.Right -/
def ir11 : FIR := ⟨23,
 (.seq
  (.ops [⟨(some 1), none, (.box 24), [.tmp 0]⟩,
    ⟨(some 2), none, (.p .mv), [.const (.bool false)]⟩])
  (.seq
   (.ops [⟨(some 3), none, (.p (.faddr 2)), [.tmp 1]⟩,
     ⟨(some 4), none, .load1, [.tmp 3]⟩,
     ⟨(some 5), none, (.p (.cmp .geq)), [.tmp 4, .const (.int .i64 1)]⟩,
     ⟨(some 6), none, (.p .mv), [.tmp 5]⟩,
     ⟨(some 7), (some (6, true)), (.p (.faddr 2)), [.tmp 1]⟩,
     ⟨(some 8), (some (6, true)), .load1, [.tmp 7]⟩,
     ⟨(some 9), (some (6, true)), (.p (.cmp .leq)), [.tmp 8, .const (.int .i64 64)]⟩,
     ⟨(some 10), none, (.p .pick), [.tmp 6, .tmp 9, .const (.bool false)]⟩,
     ⟨(some 11), none, (.p .mv), [.tmp 10]⟩,
     ⟨(some 12), (some (11, true)), (.p (.faddr 1)), [.tmp 1]⟩,
     ⟨(some 13), (some (11, true)), .load1, [.tmp 12]⟩,
     ⟨(some 14), (some (11, true)), (.p (.cmp .geq)), [.tmp 13, .const (.int .i64 0)]⟩,
     ⟨(some 15), none, (.p .pick), [.tmp 11, .tmp 14, .const (.bool false)]⟩,
     ⟨(some 16), none, (.p .mv), [.tmp 15]⟩,
     ⟨(some 17), (some (16, true)), (.p (.faddr 1)), [.tmp 1]⟩,
     ⟨(some 18), (some (16, true)), .load1, [.tmp 17]⟩,
     ⟨(some 19), (some (16, true)), (.p (.faddr 2)), [.tmp 1]⟩,
     ⟨(some 20), (some (16, true)), .load1, [.tmp 19]⟩,
     ⟨(some 21), (some (16, true)), (.p (.cmp .leq)), [.tmp 18, .tmp 20]⟩,
     ⟨(some 22), none, (.p .pick), [.tmp 16, .tmp 21, .const (.bool false)]⟩,
     ⟨(some 2), none, (.p .mv), [.tmp 22]⟩])
   .ret)),
 [.t 2]⟩
theorem ir11_ok : cFn Try.prog Try.f11 = some ir11 := by kernel_rfl

/- pumice/pick.Gains -/
def ir12 : FIR := ⟨12,
 (.seq
  (.ops [⟨(some 1), none, (.box 24), [.tmp 0]⟩,
    ⟨(some 2), none, (.p .mv), [.const (.bool false)]⟩])
  (.seq
   (.ops [⟨(some 3), none, (.loadN 4), [.tmp 1]⟩,
     ⟨(some 4), none, (.call 10), [.tmp 3]⟩,
     ⟨(some 5), none, (.p .mv), [.tmp 4]⟩,
     ⟨(some 6), (some (5, true)), (.p (.faddr 1)), [.tmp 1]⟩,
     ⟨(some 7), (some (5, true)), .load1, [.tmp 6]⟩,
     ⟨(some 8), (some (5, true)), (.p (.faddr 2)), [.tmp 1]⟩,
     ⟨(some 9), (some (5, true)), .load1, [.tmp 8]⟩,
     ⟨(some 10), (some (5, true)), (.p (.cmp .neq)), [.tmp 7, .tmp 9]⟩,
     ⟨(some 11), none, (.p .pick), [.tmp 5, .tmp 10, .const (.bool false)]⟩,
     ⟨(some 2), none, (.p .mv), [.tmp 11]⟩])
   .ret)),
 [.t 2]⟩
theorem ir12_ok : cFn Try.prog Try.f12 = some ir12 := by kernel_rfl

/- pumice/pumiceref17.Gains -/
def ir13 : FIR := ⟨12,
 (.seq
  (.ops [⟨(some 1), none, (.box 24), [.tmp 0]⟩,
    ⟨(some 2), none, (.p .mv), [.const (.bool false)]⟩])
  (.seq
   (.ops [⟨(some 3), none, (.loadN 4), [.tmp 1]⟩,
     ⟨(some 4), none, (.call 11), [.tmp 3]⟩,
     ⟨(some 5), none, (.p .mv), [.tmp 4]⟩,
     ⟨(some 6), (some (5, true)), (.p (.faddr 1)), [.tmp 1]⟩,
     ⟨(some 7), (some (5, true)), .load1, [.tmp 6]⟩,
     ⟨(some 8), (some (5, true)), (.p (.faddr 2)), [.tmp 1]⟩,
     ⟨(some 9), (some (5, true)), .load1, [.tmp 8]⟩,
     ⟨(some 10), (some (5, true)), (.p (.cmp .lss)), [.tmp 7, .tmp 9]⟩,
     ⟨(some 11), none, (.p .pick), [.tmp 5, .tmp 10, .const (.bool false)]⟩,
     ⟨(some 2), none, (.p .mv), [.tmp 11]⟩])
   .ret)),
 [.t 2]⟩
theorem ir13_ok : cFn Try.prog Try.f13 = some ir13 := by kernel_rfl

/- pumice/pick.Better -/
def ir14 : FIR := ⟨69,
 (.seq
  (.ops [⟨(some 2), none, (.box 24), [.tmp 0]⟩,
    ⟨(some 3), none, (.box 24), [.tmp 1]⟩,
    ⟨(some 4), none, (.p .mv), [.const (.bool false)]⟩])
  (.seq
   (.block 0
    (.seq
     (.ops [⟨(some 14), none, (.loadN 4), [.tmp 2]⟩,
       ⟨(some 15), none, (.call 12), [.tmp 14]⟩,
       ⟨(some 16), none, (.p .not), [.tmp 15]⟩,
       ⟨(some 13), none, (.p .mv), [.tmp 16]⟩])
     (.cond (.tmp 13)
      (.seq
       (.ops [⟨(some 4), none, (.p .mv), [.const (.bool false)]⟩])
       .ret)
      (.seq
       (.ops [⟨(some 18), none, (.loadN 4), [.tmp 3]⟩,
         ⟨(some 19), none, (.call 12), [.tmp 18]⟩,
         ⟨(some 20), none, (.p .not), [.tmp 19]⟩,
         ⟨(some 17), none, (.p .mv), [.tmp 20]⟩])
       (.cond (.tmp 17)
        (.seq
         (.ops [⟨(some 4), none, (.p .mv), [.const (.bool true)]⟩])
         .ret)
        .skip)))))
   (.seq
    (.ops [⟨(some 22), none, (.loadN 4), [.tmp 2]⟩,
      ⟨(some 23), none, (.call 18), [.tmp 22]⟩,
      ⟨(some 21), none, (.p .mv), [.tmp 23]⟩,
      ⟨(some 24), none, (.p (.ext 0)), [.tmp 21]⟩,
      ⟨(some 25), none, (.p (.ext 1)), [.tmp 21]⟩,
      ⟨(some 5), none, (.p .mv), [.tmp 24]⟩,
      ⟨(some 6), none, (.p .mv), [.tmp 25]⟩])
    (.seq
     (.ops [⟨(some 27), none, (.loadN 4), [.tmp 3]⟩,
       ⟨(some 28), none, (.call 18), [.tmp 27]⟩,
       ⟨(some 26), none, (.p .mv), [.tmp 28]⟩,
       ⟨(some 29), none, (.p (.ext 0)), [.tmp 26]⟩,
       ⟨(some 30), none, (.p (.ext 1)), [.tmp 26]⟩,
       ⟨(some 7), none, (.p .mv), [.tmp 29]⟩,
       ⟨(some 8), none, (.p .mv), [.tmp 30]⟩])
     (.seq
      (.ops [⟨(some 32), none, (.p .mv), [.tmp 5]⟩,
        ⟨(some 33), none, (.p .mv), [.tmp 8]⟩,
        ⟨(some 34), none, (.call 19), [.tmp 32, .tmp 33]⟩,
        ⟨(some 31), none, (.p .mv), [.tmp 34]⟩,
        ⟨(some 35), none, (.p (.ext 0)), [.tmp 31]⟩,
        ⟨(some 36), none, (.p (.ext 1)), [.tmp 31]⟩,
        ⟨(some 9), none, (.p .mv), [.tmp 35]⟩,
        ⟨(some 10), none, (.p .mv), [.tmp 36]⟩])
      (.seq
       (.ops [⟨(some 38), none, (.p .mv), [.tmp 7]⟩,
         ⟨(some 39), none, (.p .mv), [.tmp 6]⟩,
         ⟨(some 40), none, (.call 19), [.tmp 38, .tmp 39]⟩,
         ⟨(some 37), none, (.p .mv), [.tmp 40]⟩,
         ⟨(some 41), none, (.p (.ext 0)), [.tmp 37]⟩,
         ⟨(some 42), none, (.p (.ext 1)), [.tmp 37]⟩,
         ⟨(some 11), none, (.p .mv), [.tmp 41]⟩,
         ⟨(some 12), none, (.p .mv), [.tmp 42]⟩])
       (.seq
        (.seq
         (.ops [⟨(some 43), none, (.p .mv), [.tmp 9]⟩,
           ⟨(some 44), none, (.p .mv), [.tmp 11]⟩,
           ⟨(some 45), none, (.p (.cmp .neq)), [.tmp 43, .tmp 44]⟩,
           ⟨(some 46), none, (.p .mv), [.tmp 45]⟩,
           ⟨(some 47), (some (46, false)), (.p .mv), [.tmp 10]⟩,
           ⟨(some 48), (some (46, false)), (.p .mv), [.tmp 12]⟩,
           ⟨(some 49), (some (46, false)), (.p (.cmp .neq)), [.tmp 47, .tmp 48]⟩,
           ⟨(some 50), none, (.p .pick), [.tmp 46, .const (.bool true), .tmp 49]⟩])
         (.cond (.tmp 50)
          (.seq
           (.ops [⟨(some 51), none, (.p .mv), [.tmp 9]⟩,
             ⟨(some 52), none, (.p .mv), [.tmp 11]⟩,
             ⟨(some 53), none, (.p (.cmp .gtr)), [.tmp 51, .tmp 52]⟩,
             ⟨(some 54), none, (.p .mv), [.tmp 53]⟩,
             ⟨(some 55), (some (54, false)), (.p .mv), [.tmp 9]⟩,
             ⟨(some 56), (some (54, false)), (.p .mv), [.tmp 11]⟩,
             ⟨(some 57), (some (54, false)), (.p (.cmp .eql)), [.tmp 55, .tmp 56]⟩,
             ⟨(some 58), (some (54, false)), (.p .mv), [.tmp 57]⟩,
             ⟨(some 59), (some (58, true)), (.p .mv), [.tmp 10]⟩,
             ⟨(some 60), (some (58, true)), (.p .mv), [.tmp 12]⟩,
             ⟨(some 61), (some (58, true)), (.p (.cmp .gtr)), [.tmp 59, .tmp 60]⟩,
             ⟨(some 62), (some (54, false)), (.p .pick), [.tmp 58, .tmp 61, .const (.bool false)]⟩,
             ⟨(some 63), none, (.p .pick), [.tmp 54, .const (.bool true), .tmp 62]⟩,
             ⟨(some 4), none, (.p .mv), [.tmp 63]⟩])
           .ret)
          .skip))
        (.seq
         (.ops [⟨(some 64), none, (.p (.faddr 0)), [.tmp 2]⟩,
           ⟨(some 65), none, .load1, [.tmp 64]⟩,
           ⟨(some 66), none, (.p (.faddr 0)), [.tmp 3]⟩,
           ⟨(some 67), none, .load1, [.tmp 66]⟩,
           ⟨(some 68), none, (.p (.cmp .lss)), [.tmp 65, .tmp 67]⟩,
           ⟨(some 4), none, (.p .mv), [.tmp 68]⟩])
         .ret)))))))),
 [.t 4]⟩
theorem ir14_ok : cFn Try.prog Try.f14 = some ir14 := by kernel_rfl

/- pumice/pumiceref17.Better -/
def ir15 : FIR := ⟨46,
 (.seq
  (.ops [⟨(some 2), none, (.box 24), [.tmp 0]⟩,
    ⟨(some 3), none, (.box 24), [.tmp 1]⟩,
    ⟨(some 4), none, (.p .mv), [.const (.bool false)]⟩])
  (.seq
   (.seq
    (.ops [⟨(some 7), none, (.loadN 4), [.tmp 2]⟩,
      ⟨(some 8), none, (.call 13), [.tmp 7]⟩,
      ⟨(some 9), none, (.p .not), [.tmp 8]⟩,
      ⟨(some 10), none, (.p .mv), [.tmp 9]⟩,
      ⟨(some 11), (some (10, false)), (.loadN 4), [.tmp 3]⟩,
      ⟨(some 12), (some (10, false)), (.call 13), [.tmp 11]⟩,
      ⟨(some 13), (some (10, false)), (.p .not), [.tmp 12]⟩,
      ⟨(some 14), none, (.p .pick), [.tmp 10, .const (.bool true), .tmp 13]⟩])
    (.cond (.tmp 14)
     (.seq
      (.ops [⟨(some 15), none, (.loadN 4), [.tmp 2]⟩,
        ⟨(some 16), none, (.call 13), [.tmp 15]⟩,
        ⟨(some 4), none, (.p .mv), [.tmp 16]⟩])
      .ret)
     .skip))
   (.seq
    (.draw [⟨(some 17), none, (.loadN 4), [.tmp 2]⟩,
      ⟨(some 18), none, (.call 20), [.tmp 17]⟩,
      ⟨(some 19), none, (.p (.faddr 1)), [.tmp 3]⟩,
      ⟨(some 20), none, .load1, [.tmp 19]⟩,
      ⟨(some 21), none, (.p (.bin .add)), [.tmp 20, .const (.int .i64 1)]⟩,
      ⟨(some 22), none, (.p (.conv .u64)), [.tmp 21]⟩,
      ⟨(some 23), none, (.p (.bin .mul)), [.tmp 18, .tmp 22]⟩,
      ⟨(some 5), none, (.p .mv), [.tmp 23]⟩] (.pu 2 (.fl 0 (.fl 3 (.pu 4 (.pu 5 (.act true 1 [0] (.pu 6 (.pu 7 .done)) .stop)))))))
    (.seq
     (.draw [⟨(some 24), none, (.loadN 4), [.tmp 3]⟩,
       ⟨(some 25), none, (.call 20), [.tmp 24]⟩,
       ⟨(some 26), none, (.p (.faddr 1)), [.tmp 2]⟩,
       ⟨(some 27), none, .load1, [.tmp 26]⟩,
       ⟨(some 28), none, (.p (.bin .add)), [.tmp 27, .const (.int .i64 1)]⟩,
       ⟨(some 29), none, (.p (.conv .u64)), [.tmp 28]⟩,
       ⟨(some 30), none, (.p (.bin .mul)), [.tmp 25, .tmp 29]⟩,
       ⟨(some 6), none, (.p .mv), [.tmp 30]⟩] (.pu 2 (.fl 0 (.fl 3 (.pu 4 (.pu 5 (.act true 1 [0] (.pu 6 (.pu 7 .done)) .stop)))))))
     (.seq
      (.ops [⟨(some 31), none, (.p .mv), [.tmp 5]⟩,
        ⟨(some 32), none, (.p .mv), [.tmp 6]⟩,
        ⟨(some 33), none, (.p (.cmp .gtr)), [.tmp 31, .tmp 32]⟩,
        ⟨(some 34), none, (.p .mv), [.tmp 33]⟩,
        ⟨(some 35), (some (34, false)), (.p .mv), [.tmp 5]⟩,
        ⟨(some 36), (some (34, false)), (.p .mv), [.tmp 6]⟩,
        ⟨(some 37), (some (34, false)), (.p (.cmp .eql)), [.tmp 35, .tmp 36]⟩,
        ⟨(some 38), (some (34, false)), (.p .mv), [.tmp 37]⟩,
        ⟨(some 39), (some (38, true)), (.p (.faddr 0)), [.tmp 2]⟩,
        ⟨(some 40), (some (38, true)), .load1, [.tmp 39]⟩,
        ⟨(some 41), (some (38, true)), (.p (.faddr 0)), [.tmp 3]⟩,
        ⟨(some 42), (some (38, true)), .load1, [.tmp 41]⟩,
        ⟨(some 43), (some (38, true)), (.p (.cmp .lss)), [.tmp 40, .tmp 42]⟩,
        ⟨(some 44), (some (34, false)), (.p .pick), [.tmp 38, .tmp 43, .const (.bool false)]⟩,
        ⟨(some 45), none, (.p .pick), [.tmp 34, .const (.bool true), .tmp 44]⟩,
        ⟨(some 4), none, (.p .mv), [.tmp 45]⟩])
      .ret))))),
 [.t 4]⟩
theorem ir15_ok : cFn Try.prog Try.f15 = some ir15 := by kernel_rfl

/- pumice/pick.Best -/
def ir16 : FIR := ⟨30,
 (.seq
  (.ops [⟨(some 2), none, (.p .mv), [.const (.int .i64 0)]⟩])
  (.seq
   (.ops [⟨(some 3), none, (.p .mv), [.const (.int .i64 (-1))]⟩])
   (.seq
    (.seq
     (.ops [⟨(some 6), none, (.p .mv), [.tmp 0]⟩,
       ⟨(some 7), none, (.p .lenS), [.tmp 6]⟩,
       ⟨(some 8), none, (.p .mv), [.const (.int .i64 0)]⟩])
     (.block 0
      (.loop
       (.seq
        (.ops [⟨(some 9), none, (.p (.cmp .lss)), [.tmp 8, .tmp 7]⟩])
        (.seq
         (.cond (.tmp 9)
          .skip
          (.exit 0))
         (.seq
          (.block 1
           (.seq
            (.ops [⟨(some 10), none, (.p .mv), [.tmp 8]⟩,
              ⟨(some 11), none, (.p (.iaddrS 4)), [.tmp 6, .tmp 8]⟩,
              ⟨(some 12), none, (.loadN 4), [.tmp 11]⟩,
              ⟨(some 5), none, (.alloc 24 #[(.int .i64 0), (.int .i64 0), (.int .i64 0), (.int .u64 0)]), []⟩,
              ⟨(some 4), none, (.p .mv), [.tmp 10]⟩,
              ⟨none, none, (.storeN 4), [.tmp 5, .tmp 12]⟩])
            (.seq
             (.draw [⟨(some 13), none, (.loadN 4), [.tmp 5]⟩,
               ⟨(some 14), none, (.call 12), [.tmp 13]⟩,
               ⟨(some 15), none, (.p .mv), [.tmp 14]⟩,
               ⟨(some 16), (some (15, true)), (.p .mv), [.tmp 3]⟩,
               ⟨(some 17), (some (15, true)), (.p (.cmp .lss)), [.tmp 16, .const (.int .i64 0)]⟩,
               ⟨(some 18), (some (15, true)), (.p .mv), [.tmp 17]⟩,
               ⟨(some 19), (some (18, false)), (.loadN 4), [.tmp 5]⟩,
               ⟨(some 20), (some (18, false)), (.p .mv), [.tmp 0]⟩,
               ⟨(some 21), (some (18, false)), (.p .mv), [.tmp 3]⟩,
               ⟨(some 22), (some (18, false)), (.p (.iaddrS 4)), [.tmp 20, .tmp 21]⟩,
               ⟨(some 23), (some (18, false)), (.loadN 4), [.tmp 22]⟩,
               ⟨(some 24), (some (18, false)), (.call 14), [.tmp 19, .tmp 23]⟩,
               ⟨(some 25), (some (15, true)), (.p .pick), [.tmp 18, .const (.bool true), .tmp 24]⟩,
               ⟨(some 26), none, (.p .pick), [.tmp 15, .tmp 25, .const (.bool false)]⟩] (.fl 0 (.act true 1 [0] (.pu 2 (.pu 3 (.pu 4 (.pu 5 (.pu 7 (.pu 8 (.pu 9 (.fl 6 (.fl 10 (.act true 11 [5, 6, 10] (.pu 12 (.pu 13 .done)) .stop)))))))))) .stop)))
             (.cond (.tmp 26)
              (.ops [⟨(some 27), none, (.p .mv), [.tmp 4]⟩,
                ⟨(some 3), none, (.p .mv), [.tmp 27]⟩])
              .skip))))
          (.ops [⟨(some 28), none, (.p (.bin .add)), [.tmp 8, .const (.int .i64 1)]⟩,
            ⟨(some 8), none, (.p .mv), [.tmp 28]⟩])))))))
    (.seq
     (.ops [⟨(some 29), none, (.p .mv), [.tmp 3]⟩,
       ⟨(some 2), none, (.p .mv), [.tmp 29]⟩])
     .ret)))),
 [.t 2]⟩
theorem ir16_ok : cFn Try.prog Try.f16 = some ir16 := by kernel_rfl

/- pumice/pumiceref17.Best -/
def ir17 : FIR := ⟨38,
 (.seq
  (.ops [⟨(some 2), none, (.p .mv), [.const (.int .i64 0)]⟩])
  (.seq
   (.seq
    (.ops [⟨(some 3), none, (.p .mv), [.const (.int .i64 0)]⟩])
    (.block 0
     (.loop
      (.seq
       (.seq
        (.ops [⟨(some 6), none, (.p .mv), [.tmp 3]⟩,
          ⟨(some 7), none, (.p .mv), [.tmp 0]⟩,
          ⟨(some 8), none, (.p .lenS), [.tmp 7]⟩,
          ⟨(some 9), none, (.p (.cmp .lss)), [.tmp 6, .tmp 8]⟩])
        (.cond (.tmp 9)
         .skip
         (.exit 0)))
       (.seq
        (.block 1
         (.seq
          (.ops [⟨(some 12), none, (.p .mv), [.tmp 0]⟩,
            ⟨(some 13), none, (.p .mv), [.tmp 3]⟩,
            ⟨(some 14), none, (.p (.iaddrS 4)), [.tmp 12, .tmp 13]⟩,
            ⟨(some 15), none, (.loadN 4), [.tmp 14]⟩,
            ⟨(some 16), none, (.call 13), [.tmp 15]⟩,
            ⟨(some 4), none, (.p .mv), [.tmp 16]⟩])
          (.seq
           (.seq
            (.ops [⟨(some 5), none, (.p .mv), [.const (.int .i64 0)]⟩])
            (.block 2
             (.loop
              (.seq
               (.seq
                (.ops [⟨(some 17), none, (.p .mv), [.tmp 5]⟩,
                  ⟨(some 18), none, (.p .mv), [.tmp 0]⟩,
                  ⟨(some 19), none, (.p .lenS), [.tmp 18]⟩,
                  ⟨(some 20), none, (.p (.cmp .lss)), [.tmp 17, .tmp 19]⟩])
                (.cond (.tmp 20)
                 .skip
                 (.exit 2)))
               (.seq
                (.block 3
                 (.draw [⟨(some 23), none, (.p .mv), [.tmp 4]⟩,
                   ⟨(some 24), none, (.p .mv), [.tmp 23]⟩,
                   ⟨(some 25), (some (24, true)), (.p .mv), [.tmp 0]⟩,
                   ⟨(some 26), (some (24, true)), (.p .mv), [.tmp 5]⟩,
                   ⟨(some 27), (some (24, true)), (.p (.iaddrS 4)), [.tmp 25, .tmp 26]⟩,
                   ⟨(some 28), (some (24, true)), (.loadN 4), [.tmp 27]⟩,
                   ⟨(some 29), (some (24, true)), (.p .mv), [.tmp 0]⟩,
                   ⟨(some 30), (some (24, true)), (.p .mv), [.tmp 3]⟩,
                   ⟨(some 31), (some (24, true)), (.p (.iaddrS 4)), [.tmp 29, .tmp 30]⟩,
                   ⟨(some 32), (some (24, true)), (.loadN 4), [.tmp 31]⟩,
                   ⟨(some 33), (some (24, true)), (.call 15), [.tmp 28, .tmp 32]⟩,
                   ⟨(some 34), (some (24, true)), (.p .not), [.tmp 33]⟩,
                   ⟨(some 35), none, (.p .pick), [.tmp 24, .tmp 34, .const (.bool false)]⟩,
                   ⟨(some 4), none, (.p .mv), [.tmp 35]⟩] (.pu 0 (.pu 1 (.pu 2 (.pu 3 (.pu 4 (.pu 6 (.pu 7 (.pu 8 (.fl 5 (.fl 9 (.act true 10 [1, 5, 9] (.pu 11 (.pu 12 (.pu 13 .done))) .stop)))))))))))))
                (.ops [⟨(some 21), none, (.p .mv), [.tmp 5]⟩,
                  ⟨(some 22), none, (.p (.bin .add)), [.tmp 21, .const (.int .i64 1)]⟩,
                  ⟨(some 5), none, (.p .mv), [.tmp 22]⟩]))))))
           (.seq
            (.ops [⟨(some 36), none, (.p .mv), [.tmp 4]⟩])
            (.cond (.tmp 36)
             (.seq
              (.ops [⟨(some 37), none, (.p .mv), [.tmp 3]⟩,
                ⟨(some 2), none, (.p .mv), [.tmp 37]⟩])
              .ret)
             .skip)))))
        (.ops [⟨(some 10), none, (.p .mv), [.tmp 3]⟩,
          ⟨(some 11), none, (.p (.bin .add)), [.tmp 10, .const (.int .i64 1)]⟩,
          ⟨(some 3), none, (.p .mv), [.tmp 11]⟩]))))))
   (.seq
    (.ops [⟨(some 2), none, (.p .mv), [.const (.int .i64 (-1))]⟩])
    .ret))),
 [.t 2]⟩
theorem ir17_ok : cFn Try.prog Try.f17 = some ir17 := by kernel_rfl

/- pumice/pick.worth -/
def ir18 : FIR := ⟨19,
 (.seq
  (.ops [⟨(some 1), none, (.box 24), [.tmp 0]⟩,
    ⟨(some 2), none, (.p .mv), [.const (.int .u64 0)]⟩,
    ⟨(some 3), none, (.p .mv), [.const (.int .u64 0)]⟩])
  (.seq
   (.draw [⟨(some 4), none, (.p (.faddr 2)), [.tmp 1]⟩,
     ⟨(some 5), none, .load1, [.tmp 4]⟩,
     ⟨(some 6), none, (.p (.faddr 1)), [.tmp 1]⟩,
     ⟨(some 7), none, .load1, [.tmp 6]⟩,
     ⟨(some 8), none, (.p (.bin .sub)), [.tmp 5, .tmp 7]⟩,
     ⟨(some 9), none, (.p (.conv .u64)), [.tmp 8]⟩,
     ⟨(some 10), none, (.p (.faddr 3)), [.tmp 1]⟩,
     ⟨(some 11), none, .load1, [.tmp 10]⟩,
     ⟨(some 12), none, (.p .min), [.tmp 11, .const (.int .u64 4294967296)]⟩,
     ⟨(some 13), none, (.p (.bin .add)), [.tmp 12, .const (.int .u64 1)]⟩,
     ⟨(some 14), none, (.p (.bin .mul)), [.tmp 9, .tmp 13]⟩,
     ⟨(some 15), none, (.p (.faddr 1)), [.tmp 1]⟩,
     ⟨(some 16), none, .load1, [.tmp 15]⟩,
     ⟨(some 17), none, (.p (.conv .u64)), [.tmp 16]⟩,
     ⟨(some 18), none, (.p (.bin .add)), [.tmp 17, .const (.int .u64 1)]⟩,
     ⟨(some 2), none, (.p .mv), [.tmp 14]⟩,
     ⟨(some 3), none, (.p .mv), [.tmp 18]⟩] (.pu 0 (.pu 2 (.pu 6 (.pu 11 (.fl 1 (.fl 3 (.pu 4 (.pu 5 (.fl 7 (.pu 8 (.pu 9 (.pu 10 (.pu 15 (.fl 12 (.pu 13 (.pu 14 (.pu 16 .done))))))))))))))))))
   .ret)),
 [.t 2, .t 3]⟩
theorem ir18_ok : cFn Try.prog Try.f18 = some ir18 := by kernel_rfl

/- math/bits.Mul64 -/
def ir19 : FIR := ⟨51,
 (.seq
  (.ops [⟨(some 4), none, (.p .mv), [.const (.int .u64 0)]⟩,
    ⟨(some 5), none, (.p .mv), [.const (.int .u64 0)]⟩])
  (.seq
   (.ops [⟨(some 14), none, (.p .mv), [.tmp 0]⟩,
     ⟨(some 15), none, (.p (.bin .and)), [.tmp 14, .const (.int .u64 4294967295)]⟩,
     ⟨(some 6), none, (.p .mv), [.tmp 15]⟩])
   (.seq
    (.ops [⟨(some 16), none, (.p .mv), [.tmp 0]⟩,
      ⟨(some 17), none, (.p (.bin .shr)), [.tmp 16, .const (.int .u64 32)]⟩,
      ⟨(some 7), none, (.p .mv), [.tmp 17]⟩])
    (.seq
     (.ops [⟨(some 18), none, (.p .mv), [.tmp 1]⟩,
       ⟨(some 19), none, (.p (.bin .and)), [.tmp 18, .const (.int .u64 4294967295)]⟩,
       ⟨(some 8), none, (.p .mv), [.tmp 19]⟩])
     (.seq
      (.ops [⟨(some 20), none, (.p .mv), [.tmp 1]⟩,
        ⟨(some 21), none, (.p (.bin .shr)), [.tmp 20, .const (.int .u64 32)]⟩,
        ⟨(some 9), none, (.p .mv), [.tmp 21]⟩])
      (.seq
       (.ops [⟨(some 22), none, (.p .mv), [.tmp 6]⟩,
         ⟨(some 23), none, (.p .mv), [.tmp 8]⟩,
         ⟨(some 24), none, (.p (.bin .mul)), [.tmp 22, .tmp 23]⟩,
         ⟨(some 10), none, (.p .mv), [.tmp 24]⟩])
       (.seq
        (.ops [⟨(some 25), none, (.p .mv), [.tmp 7]⟩,
          ⟨(some 26), none, (.p .mv), [.tmp 8]⟩,
          ⟨(some 27), none, (.p (.bin .mul)), [.tmp 25, .tmp 26]⟩,
          ⟨(some 28), none, (.p .mv), [.tmp 10]⟩,
          ⟨(some 29), none, (.p (.bin .shr)), [.tmp 28, .const (.int .u64 32)]⟩,
          ⟨(some 30), none, (.p (.bin .add)), [.tmp 27, .tmp 29]⟩,
          ⟨(some 11), none, (.p .mv), [.tmp 30]⟩])
        (.seq
         (.ops [⟨(some 31), none, (.p .mv), [.tmp 11]⟩,
           ⟨(some 32), none, (.p (.bin .and)), [.tmp 31, .const (.int .u64 4294967295)]⟩,
           ⟨(some 12), none, (.p .mv), [.tmp 32]⟩])
         (.seq
          (.ops [⟨(some 33), none, (.p .mv), [.tmp 11]⟩,
            ⟨(some 34), none, (.p (.bin .shr)), [.tmp 33, .const (.int .u64 32)]⟩,
            ⟨(some 13), none, (.p .mv), [.tmp 34]⟩])
          (.seq
           (.ops [⟨(some 35), none, (.p .mv), [.tmp 12]⟩,
             ⟨(some 36), none, (.p .mv), [.tmp 6]⟩,
             ⟨(some 37), none, (.p .mv), [.tmp 9]⟩,
             ⟨(some 38), none, (.p (.bin .mul)), [.tmp 36, .tmp 37]⟩,
             ⟨(some 39), none, (.p (.bin .add)), [.tmp 35, .tmp 38]⟩,
             ⟨(some 12), none, (.p .mv), [.tmp 39]⟩])
           (.seq
            (.ops [⟨(some 40), none, (.p .mv), [.tmp 7]⟩,
              ⟨(some 41), none, (.p .mv), [.tmp 9]⟩,
              ⟨(some 42), none, (.p (.bin .mul)), [.tmp 40, .tmp 41]⟩,
              ⟨(some 43), none, (.p .mv), [.tmp 13]⟩,
              ⟨(some 44), none, (.p (.bin .add)), [.tmp 42, .tmp 43]⟩,
              ⟨(some 45), none, (.p .mv), [.tmp 12]⟩,
              ⟨(some 46), none, (.p (.bin .shr)), [.tmp 45, .const (.int .u64 32)]⟩,
              ⟨(some 47), none, (.p (.bin .add)), [.tmp 44, .tmp 46]⟩,
              ⟨(some 4), none, (.p .mv), [.tmp 47]⟩])
            (.seq
             (.ops [⟨(some 48), none, (.p .mv), [.tmp 0]⟩,
               ⟨(some 49), none, (.p .mv), [.tmp 1]⟩,
               ⟨(some 50), none, (.p (.bin .mul)), [.tmp 48, .tmp 49]⟩,
               ⟨(some 5), none, (.p .mv), [.tmp 50]⟩])
             .ret)))))))))))),
 [.t 4, .t 5]⟩
theorem ir19_ok : cFn Try.prog Try.f19 = some ir19 := by kernel_rfl

/- pumice/pumiceref17.gain -/
def ir20 : FIR := ⟨14,
 (.seq
  (.ops [⟨(some 1), none, (.box 24), [.tmp 0]⟩,
    ⟨(some 2), none, (.p .mv), [.const (.int .u64 0)]⟩])
  (.seq
   (.ops [⟨(some 3), none, (.p (.faddr 2)), [.tmp 1]⟩,
     ⟨(some 4), none, .load1, [.tmp 3]⟩,
     ⟨(some 5), none, (.p (.faddr 1)), [.tmp 1]⟩,
     ⟨(some 6), none, .load1, [.tmp 5]⟩,
     ⟨(some 7), none, (.p (.bin .sub)), [.tmp 4, .tmp 6]⟩,
     ⟨(some 8), none, (.p (.conv .u64)), [.tmp 7]⟩,
     ⟨(some 9), none, (.p (.faddr 3)), [.tmp 1]⟩,
     ⟨(some 10), none, .load1, [.tmp 9]⟩,
     ⟨(some 11), none, (.p .min), [.tmp 10, .const (.int .u64 4294967296)]⟩,
     ⟨(some 12), none, (.p (.bin .add)), [.tmp 11, .const (.int .u64 1)]⟩,
     ⟨(some 13), none, (.p (.bin .mul)), [.tmp 8, .tmp 12]⟩,
     ⟨(some 2), none, (.p .mv), [.tmp 13]⟩])
   .ret)),
 [.t 2]⟩
theorem ir20_ok : cFn Try.prog Try.f20 = some ir20 := by kernel_rfl

end Go.Proofs.Ytofmmbjkpenaaaa
