/- The typed form of each function, by program (printir.py), checked by the kernel. -/
import Derived.Test.YtfpjlinlmeojmaaDenL
import Derived.Test.YtfpjlinlmeojmaaProg
import Derived.KernelRfl
set_option maxRecDepth 100000
namespace Go.Proofs.Ytfpjlinlmeojmaa

/- pumice/pumicelaw02.CrcSums -/
def ir3 : FIR := ⟨25,
 (.seq
  (.ops [⟨(some 4), none, (.p .mv), [.const (.bool false)]⟩])
  (.seq
   (.ops [⟨(some 6), none, (.p .mv), [.tmp 1]⟩,
     ⟨(some 7), none, (.call 11), [.tmp 6]⟩,
     ⟨(some 5), none, (.p .mv), [.tmp 7]⟩])
   (.seq
    (.ops [⟨(some 8), none, (.call 12), []⟩,
      ⟨(some 9), none, (.p .mv), [.tmp 8]⟩,
      ⟨(some 10), (some (9, true)), (.p .mv), [.tmp 5]⟩,
      ⟨(some 11), (some (9, true)), (.call 13), [.tmp 10]⟩,
      ⟨(some 12), (some (9, true)), (.p .mv), [.tmp 5]⟩,
      ⟨(some 13), (some (9, true)), (.call 14), [.const (.int .u32 0), .tmp 12]⟩,
      ⟨(some 14), (some (9, true)), (.p (.cmp .eql)), [.tmp 11, .tmp 13]⟩,
      ⟨(some 15), none, (.p .pick), [.tmp 9, .tmp 14, .const (.bool false)]⟩,
      ⟨(some 16), none, (.p .mv), [.tmp 15]⟩,
      ⟨(some 17), (some (16, true)), (.p .mv), [.tmp 0]⟩,
      ⟨(some 18), (some (16, true)), (.p .mv), [.tmp 5]⟩,
      ⟨(some 19), (some (16, true)), (.call 15), [.tmp 17, .tmp 18]⟩,
      ⟨(some 20), (some (16, true)), (.p .mv), [.tmp 0]⟩,
      ⟨(some 21), (some (16, true)), (.p .mv), [.tmp 5]⟩,
      ⟨(some 22), (some (16, true)), (.call 14), [.tmp 20, .tmp 21]⟩,
      ⟨(some 23), (some (16, true)), (.p (.cmp .eql)), [.tmp 19, .tmp 22]⟩,
      ⟨(some 24), none, (.p .pick), [.tmp 16, .tmp 23, .const (.bool false)]⟩,
      ⟨(some 4), none, (.p .mv), [.tmp 24]⟩])
    .ret))),
 [.t 4]⟩
theorem ir3_ok : cFn Try.prog Try.f3 = some ir3 := by kernel_rfl

/- pumice/pumicelaw02.CrcGoes -/
def ir4 : FIR := ⟨30,
 (.seq
  (.ops [⟨(some 4), none, (.p .mv), [.const (.bool false)]⟩])
  (.seq
   (.ops [⟨(some 7), none, (.p .mv), [.tmp 0]⟩,
     ⟨(some 8), none, (.call 11), [.tmp 7]⟩,
     ⟨(some 5), none, (.p .mv), [.tmp 8]⟩])
   (.seq
    (.ops [⟨(some 9), none, (.p .mv), [.tmp 1]⟩,
      ⟨(some 10), none, (.p .mv), [.tmp 5]⟩,
      ⟨(some 11), none, (.p .lenS), [.tmp 10]⟩,
      ⟨(some 12), none, (.p (.bin .add)), [.tmp 11, .const (.int .i64 1)]⟩,
      ⟨(some 13), none, (.p (.conv .u64)), [.tmp 12]⟩,
      ⟨(some 14), none, (.p (.bin .rem)), [.tmp 9, .tmp 13]⟩,
      ⟨(some 15), none, (.p (.conv .i64)), [.tmp 14]⟩,
      ⟨(some 6), none, (.p .mv), [.tmp 15]⟩])
    (.seq
     (.draw [⟨(some 16), none, (.call 12), []⟩,
       ⟨(some 17), none, (.p .mv), [.tmp 16]⟩,
       ⟨(some 18), (some (17, true)), (.p .mv), [.tmp 5]⟩,
       ⟨(some 19), (some (17, true)), (.p .mv), [.tmp 6]⟩,
       ⟨(some 20), (some (17, true)), (.p (.cutS 1 false true false)), [.tmp 18, .tmp 19]⟩,
       ⟨(some 21), (some (17, true)), (.call 13), [.tmp 20]⟩,
       ⟨(some 22), (some (17, true)), (.p .mv), [.tmp 5]⟩,
       ⟨(some 23), (some (17, true)), (.p .mv), [.tmp 6]⟩,
       ⟨(some 24), (some (17, true)), (.p (.cutS 1 true false false)), [.tmp 22, .tmp 23]⟩,
       ⟨(some 25), (some (17, true)), (.call 15), [.tmp 21, .tmp 24]⟩,
       ⟨(some 26), (some (17, true)), (.p .mv), [.tmp 5]⟩,
       ⟨(some 27), (some (17, true)), (.call 13), [.tmp 26]⟩,
       ⟨(some 28), (some (17, true)), (.p (.cmp .eql)), [.tmp 25, .tmp 27]⟩,
       ⟨(some 29), none, (.p .pick), [.tmp 17, .tmp 28, .const (.bool false)]⟩,
       ⟨(some 4), none, (.p .mv), [.tmp 29]⟩] (.act true 0 [] (.pu 1 (.pu 2 (.pu 3 (.pu 4 (.pu 6 (.pu 7 (.pu 8 (.pu 10 (.act true 5 [1, 4] (.act true 9 [1, 5, 8] (.act true 11 [1, 9, 10] (.pu 12 (.pu 13 (.pu 14 .done))) .stop) .stop) .stop))))))))) .stop))
     .ret)))),
 [.t 4]⟩
theorem ir4_ok : cFn Try.prog Try.f4 = some ir4 := by kernel_rfl

/- pumice/pumicelaw02.CrcOne -/
def ir5 : FIR := ⟨21,
 (.seq
  (.ops [⟨(some 4), none, (.box 31), [.tmp 1]⟩,
    ⟨(some 5), none, (.box 31), [.tmp 2]⟩,
    ⟨(some 6), none, (.p .mv), [.const (.bool false)]⟩])
  (.seq
   (.draw [⟨(some 7), none, (.call 12), []⟩,
     ⟨(some 8), none, (.p .mv), [.tmp 7]⟩,
     ⟨(some 9), (some (8, true)), (.p .mv), [.tmp 0]⟩,
     ⟨(some 10), (some (8, true)), (.p (.cutA 4 1 false false false)), [.tmp 4]⟩,
     ⟨(some 11), (some (8, true)), (.call 15), [.tmp 9, .tmp 10]⟩,
     ⟨(some 12), (some (8, true)), (.p .mv), [.tmp 0]⟩,
     ⟨(some 13), (some (8, true)), (.p (.cutA 4 1 false false false)), [.tmp 5]⟩,
     ⟨(some 14), (some (8, true)), (.call 15), [.tmp 12, .tmp 13]⟩,
     ⟨(some 15), (some (8, true)), (.p (.cmp .eql)), [.tmp 11, .tmp 14]⟩,
     ⟨(some 16), (some (8, true)), (.loadN 4), [.tmp 4]⟩,
     ⟨(some 17), (some (8, true)), (.loadN 4), [.tmp 5]⟩,
     ⟨(some 18), (some (8, true)), (.eqv false 31), [.tmp 16, .tmp 17]⟩,
     ⟨(some 19), (some (8, true)), (.p (.beq false)), [.tmp 15, .tmp 18]⟩,
     ⟨(some 20), none, (.p .pick), [.tmp 8, .tmp 19, .const (.bool false)]⟩,
     ⟨(some 6), none, (.p .mv), [.tmp 20]⟩] (.act true 0 [] (.pu 1 (.pu 2 (.pu 3 (.pu 5 (.pu 6 (.fl 9 (.fl 10 (.act true 4 [1, 2, 3] (.act true 7 [1, 4, 5, 6] (.pu 8 (.act true 11 [1, 9, 10] (.pu 12 (.pu 13 (.pu 14 .done))) .stop)) (.act false 11 [1, 9, 10] (.act true 7 [1, 4, 5, 6] (.pu 8 (.pu 12 (.pu 13 (.pu 14 .done)))) .stop) .stop)) (.act false 11 [1, 9, 10] (.act true 4 [1, 2, 3] (.act true 7 [1, 4, 5, 6] (.pu 8 (.pu 12 (.pu 13 (.pu 14 .done)))) .stop) .stop) .stop))))))))) .stop))
   .ret)),
 [.t 6]⟩
theorem ir5_ok : cFn Try.prog Try.f5 = some ir5 := by kernel_rfl

/- pumice/pumicelaw02.CrcFits -/
def ir6 : FIR := ⟨47,
 (.seq
  (.ops [⟨(some 4), none, (.p .mv), [.const (.bool false)]⟩])
  (.seq
   (.ops [⟨(some 9), none, (.call 12), []⟩,
     ⟨(some 5), none, (.p .mv), [.tmp 9]⟩])
   (.seq
    (.ops [⟨(some 10), none, (.p .mv), [.tmp 1]⟩,
      ⟨(some 11), none, (.p .inv), [.tmp 10]⟩,
      ⟨(some 6), none, (.p .mv), [.tmp 11]⟩])
    (.seq
     (.seq
      (.ops [⟨(some 12), none, (.p .mv), [.const (.int .i64 0)]⟩])
      (.block 0
       (.loop
        (.seq
         (.ops [⟨(some 13), none, (.p (.cmp .lss)), [.tmp 12, .const (.int .i64 32)]⟩])
         (.seq
          (.cond (.tmp 13)
           .skip
           (.exit 0))
          (.seq
           (.block 1
            (.seq
             (.ops [⟨(some 14), none, (.p .mv), [.tmp 6]⟩,
               ⟨(some 15), none, (.p (.bin .shr)), [.tmp 14, .const (.int .u64 31)]⟩,
               ⟨(some 7), none, (.p .mv), [.tmp 15]⟩])
             (.seq
              (.ops [⟨(some 16), none, (.p .mv), [.tmp 6]⟩,
                ⟨(some 17), none, (.p (.bin .shl)), [.tmp 16, .const (.int .u64 1)]⟩,
                ⟨(some 6), none, (.p .mv), [.tmp 17]⟩])
              (.seq
               (.ops [⟨(some 18), none, (.p .mv), [.tmp 7]⟩,
                 ⟨(some 19), none, (.p (.cmp .eql)), [.tmp 18, .const (.int .u32 1)]⟩])
               (.cond (.tmp 19)
                (.ops [⟨(some 20), none, (.p .mv), [.tmp 6]⟩,
                  ⟨(some 21), none, (.p (.bin .xor)), [.tmp 20, .const (.int .u32 3681617473)]⟩,
                  ⟨(some 6), none, (.p .mv), [.tmp 21]⟩])
                .skip)))))
           (.ops [⟨(some 22), none, (.p (.bin .add)), [.tmp 12, .const (.int .i64 1)]⟩,
             ⟨(some 12), none, (.p .mv), [.tmp 22]⟩])))))))
     (.seq
      (.ops [⟨(some 23), none, (.p .mv), [.tmp 6]⟩,
        ⟨(some 24), none, (.p .mv), [.tmp 0]⟩,
        ⟨(some 25), none, (.p .inv), [.tmp 24]⟩,
        ⟨(some 26), none, (.p (.bin .xor)), [.tmp 23, .tmp 25]⟩,
        ⟨(some 6), none, (.p .mv), [.tmp 26]⟩])
      (.seq
       (.ops [⟨(some 27), none, (.p .mv), [.tmp 6]⟩,
         ⟨(some 28), none, (.p (.conv .u8)), [.tmp 27]⟩,
         ⟨(some 29), none, (.p .mv), [.tmp 6]⟩,
         ⟨(some 30), none, (.p (.bin .shr)), [.tmp 29, .const (.int .u64 8)]⟩,
         ⟨(some 31), none, (.p (.conv .u8)), [.tmp 30]⟩,
         ⟨(some 32), none, (.p .mv), [.tmp 6]⟩,
         ⟨(some 33), none, (.p (.bin .shr)), [.tmp 32, .const (.int .u64 16)]⟩,
         ⟨(some 34), none, (.p (.conv .u8)), [.tmp 33]⟩,
         ⟨(some 35), none, (.p .mv), [.tmp 6]⟩,
         ⟨(some 36), none, (.p (.bin .shr)), [.tmp 35, .const (.int .u64 24)]⟩,
         ⟨(some 37), none, (.p (.conv .u8)), [.tmp 36]⟩,
         ⟨(some 38), none, (.bldSl 5 4 1 #[(.int .u8 0), (.int .u8 0), (.int .u8 0), (.int .u8 0)] [0, 1, 2, 3]), [.tmp 28, .tmp 31, .tmp 34, .tmp 37]⟩,
         ⟨(some 8), none, (.p .mv), [.tmp 38]⟩])
       (.seq
        (.ops [⟨(some 39), none, (.p .mv), [.tmp 5]⟩,
          ⟨(some 40), none, (.p .mv), [.tmp 39]⟩,
          ⟨(some 41), (some (40, true)), (.p .mv), [.tmp 0]⟩,
          ⟨(some 42), (some (40, true)), (.p .mv), [.tmp 8]⟩,
          ⟨(some 43), (some (40, true)), (.call 15), [.tmp 41, .tmp 42]⟩,
          ⟨(some 44), (some (40, true)), (.p .mv), [.tmp 1]⟩,
          ⟨(some 45), (some (40, true)), (.p (.cmp .eql)), [.tmp 43, .tmp 44]⟩,
          ⟨(some 46), none, (.p .pick), [.tmp 40, .tmp 45, .const (.bool false)]⟩,
          ⟨(some 4), none, (.p .mv), [.tmp 46]⟩])
        .ret))))))),
 [.t 4]⟩
theorem ir6_ok : cFn Try.prog Try.f6 = some ir6 := by kernel_rfl

/- pumice/pumicelaw02.CrcThree -/
def ir7 : FIR := ⟨64,
 (.seq
  (.ops [⟨(some 6), none, (.p .mv), [.const (.bool false)]⟩])
  (.seq
   (.ops [⟨(some 11), none, (.call 12), []⟩,
     ⟨(some 7), none, (.p .mv), [.tmp 11]⟩])
   (.seq
    (.ops [⟨(some 12), none, (.p .mv), [.tmp 0]⟩,
      ⟨(some 13), none, (.p .lenS), [.tmp 12]⟩,
      ⟨(some 14), none, (.p .mv), [.tmp 1]⟩,
      ⟨(some 15), none, (.p .lenS), [.tmp 14]⟩,
      ⟨(some 16), none, (.p .mv), [.tmp 2]⟩,
      ⟨(some 17), none, (.p .lenS), [.tmp 16]⟩,
      ⟨(some 18), none, (.p .min), [.tmp 13, .tmp 15, .tmp 17, .const (.int .i64 50000)]⟩,
      ⟨(some 8), none, (.p .mv), [.tmp 18]⟩])
    (.seq
     (.ops [⟨(some 19), none, (.p .mv), [.tmp 8]⟩,
       ⟨(some 20), none, (.mkS 5 1 1 #[(.int .u8 0)]), [.tmp 19, .tmp 19]⟩,
       ⟨(some 9), none, (.p .mv), [.tmp 20]⟩])
     (.seq
      (.seq
       (.ops [⟨(some 21), none, (.p .mv), [.tmp 9]⟩,
         ⟨(some 22), none, (.p .lenS), [.tmp 21]⟩,
         ⟨(some 23), none, (.p .mv), [.const (.int .i64 0)]⟩])
       (.block 0
        (.loop
         (.seq
          (.ops [⟨(some 24), none, (.p (.cmp .lss)), [.tmp 23, .tmp 22]⟩])
          (.seq
           (.cond (.tmp 24)
            .skip
            (.exit 0))
           (.seq
            (.block 1
             (.seq
              (.ops [⟨(some 25), none, (.p .mv), [.tmp 23]⟩,
                ⟨(some 10), none, (.p .mv), [.tmp 25]⟩])
              (.draw [⟨(some 26), none, (.p .mv), [.tmp 9]⟩,
                ⟨(some 27), none, (.p .mv), [.tmp 10]⟩,
                ⟨(some 28), none, (.p .mv), [.tmp 0]⟩,
                ⟨(some 29), none, (.p .mv), [.tmp 10]⟩,
                ⟨(some 30), none, (.p (.iaddrS 1)), [.tmp 28, .tmp 29]⟩,
                ⟨(some 31), none, .load1, [.tmp 30]⟩,
                ⟨(some 32), none, (.p .mv), [.tmp 1]⟩,
                ⟨(some 33), none, (.p .mv), [.tmp 10]⟩,
                ⟨(some 34), none, (.p (.iaddrS 1)), [.tmp 32, .tmp 33]⟩,
                ⟨(some 35), none, .load1, [.tmp 34]⟩,
                ⟨(some 36), none, (.p (.bin .xor)), [.tmp 31, .tmp 35]⟩,
                ⟨(some 37), none, (.p .mv), [.tmp 2]⟩,
                ⟨(some 38), none, (.p .mv), [.tmp 10]⟩,
                ⟨(some 39), none, (.p (.iaddrS 1)), [.tmp 37, .tmp 38]⟩,
                ⟨(some 40), none, .load1, [.tmp 39]⟩,
                ⟨(some 41), none, (.p (.bin .xor)), [.tmp 36, .tmp 40]⟩,
                ⟨(some 42), none, (.p (.iaddrS 1)), [.tmp 26, .tmp 27]⟩,
                ⟨none, none, .store1, [.tmp 42, .tmp 41]⟩] (.pu 0 (.pu 1 (.pu 2 (.pu 3 (.pu 4 (.pu 6 (.pu 7 (.pu 8 (.pu 11 (.pu 12 (.pu 13 (.fl 5 (.fl 9 (.pu 10 (.fl 14 (.pu 15 (.pu 16 (.act true 17 [0, 1, 2, 3, 4, 5, 6, 7, 8, 9, 10, 11, 12, 13, 14, 15, 16] .done .stop)))))))))))))))))))))
            (.ops [⟨(some 43), none, (.p (.bin .add)), [.tmp 23, .const (.int .i64 1)]⟩,
              ⟨(some 23), none, (.p .mv), [.tmp 43]⟩])))))))
      (.seq
       (.draw [⟨(some 44), none, (.p .mv), [.tmp 7]⟩,
         ⟨(some 45), none, (.p .mv), [.tmp 44]⟩,
         ⟨(some 46), (some (45, true)), (.p .mv), [.tmp 0]⟩,
         ⟨(some 47), (some (45, true)), (.p .mv), [.tmp 8]⟩,
         ⟨(some 48), (some (45, true)), (.p (.cutS 1 false true false)), [.tmp 46, .tmp 47]⟩,
         ⟨(some 49), (some (45, true)), (.call 13), [.tmp 48]⟩,
         ⟨(some 50), (some (45, true)), (.p .mv), [.tmp 1]⟩,
         ⟨(some 51), (some (45, true)), (.p .mv), [.tmp 8]⟩,
         ⟨(some 52), (some (45, true)), (.p (.cutS 1 false true false)), [.tmp 50, .tmp 51]⟩,
         ⟨(some 53), (some (45, true)), (.call 13), [.tmp 52]⟩,
         ⟨(some 54), (some (45, true)), (.p (.bin .xor)), [.tmp 49, .tmp 53]⟩,
         ⟨(some 55), (some (45, true)), (.p .mv), [.tmp 2]⟩,
         ⟨(some 56), (some (45, true)), (.p .mv), [.tmp 8]⟩,
         ⟨(some 57), (some (45, true)), (.p (.cutS 1 false true false)), [.tmp 55, .tmp 56]⟩,
         ⟨(some 58), (some (45, true)), (.call 13), [.tmp 57]⟩,
         ⟨(some 59), (some (45, true)), (.p (.bin .xor)), [.tmp 54, .tmp 58]⟩,
         ⟨(some 60), (some (45, true)), (.p .mv), [.tmp 9]⟩,
         ⟨(some 61), (some (45, true)), (.call 13), [.tmp 60]⟩,
         ⟨(some 62), (some (45, true)), (.p (.cmp .eql)), [.tmp 59, .tmp 61]⟩,
         ⟨(some 63), none, (.p .pick), [.tmp 45, .tmp 62, .const (.bool false)]⟩,
         ⟨(some 6), none, (.p .mv), [.tmp 63]⟩] (.pu 0 (.pu 1 (.pu 2 (.pu 3 (.pu 4 (.pu 6 (.pu 7 (.pu 8 (.pu 11 (.pu 12 (.pu 13 (.pu 16 (.act true 5 [1, 4] (.act true 9 [1, 5, 8] (.pu 10 (.act true 14 [1, 9, 13] (.pu 15 (.act true 17 [1, 14, 16] (.pu 18 (.pu 19 (.pu 20 .done))) .stop)) .stop)) .stop) .stop))))))))))))))
       .ret)))))),
 [.t 6]⟩
theorem ir7_ok : cFn Try.prog Try.f7 = some ir7 := by kernel_rfl

/- pumice/pumicelaw02.CrcSeals -/
def ir8 : FIR := ⟨42,
 (.seq
  (.ops [⟨(some 2), none, (.p .mv), [.const (.bool false)]⟩])
  (.seq
   (.ops [⟨(some 8), none, (.p .mv), [.tmp 0]⟩,
     ⟨(some 9), none, (.call 11), [.tmp 8]⟩,
     ⟨(some 3), none, (.p .mv), [.tmp 9]⟩])
   (.seq
    (.ops [⟨(some 11), none, (.p .mv), [.tmp 3]⟩,
      ⟨(some 12), none, (.call 16), [.tmp 11]⟩,
      ⟨(some 10), none, (.p .mv), [.tmp 12]⟩,
      ⟨(some 13), none, (.p (.ext 0)), [.tmp 10]⟩,
      ⟨(some 14), none, (.p (.ext 1)), [.tmp 10]⟩,
      ⟨(some 4), none, (.p .mv), [.tmp 13]⟩,
      ⟨(some 5), none, (.p .mv), [.tmp 14]⟩])
    (.seq
     (.ops [⟨(some 16), none, (.p .mv), [.tmp 3]⟩,
       ⟨(some 17), none, (.call 17), [.tmp 16]⟩,
       ⟨(some 15), none, (.p .mv), [.tmp 17]⟩,
       ⟨(some 18), none, (.p (.ext 0)), [.tmp 15]⟩,
       ⟨(some 19), none, (.p (.ext 1)), [.tmp 15]⟩,
       ⟨(some 6), none, (.p .mv), [.tmp 18]⟩,
       ⟨(some 7), none, (.p .mv), [.tmp 19]⟩])
     (.seq
      (.draw [⟨(some 20), none, (.call 12), []⟩,
        ⟨(some 21), none, (.p .mv), [.tmp 20]⟩,
        ⟨(some 22), (some (21, true)), (.p .mv), [.tmp 3]⟩,
        ⟨(some 23), (some (21, true)), (.call 18), [.tmp 22]⟩,
        ⟨(some 24), (some (21, true)), .b2s, [.tmp 23]⟩,
        ⟨(some 25), (some (21, true)), (.p .mv), [.tmp 3]⟩,
        ⟨(some 26), (some (21, true)), (.call 19), [.tmp 25]⟩,
        ⟨(some 27), (some (21, true)), .b2s, [.tmp 26]⟩,
        ⟨(some 28), (some (21, true)), (.p (.seq false)), [.tmp 24, .tmp 27]⟩,
        ⟨(some 29), none, (.p .pick), [.tmp 21, .tmp 28, .const (.bool false)]⟩,
        ⟨(some 30), none, (.p .mv), [.tmp 29]⟩,
        ⟨(some 31), (some (30, true)), (.p .mv), [.tmp 4]⟩,
        ⟨(some 32), (some (30, true)), .b2s, [.tmp 31]⟩,
        ⟨(some 33), (some (30, true)), (.p .mv), [.tmp 6]⟩,
        ⟨(some 34), (some (30, true)), .b2s, [.tmp 33]⟩,
        ⟨(some 35), (some (30, true)), (.p (.seq false)), [.tmp 32, .tmp 34]⟩,
        ⟨(some 36), none, (.p .pick), [.tmp 30, .tmp 35, .const (.bool false)]⟩,
        ⟨(some 37), none, (.p .mv), [.tmp 36]⟩,
        ⟨(some 38), (some (37, true)), (.p .mv), [.tmp 5]⟩,
        ⟨(some 39), (some (37, true)), (.p .mv), [.tmp 7]⟩,
        ⟨(some 40), (some (37, true)), (.p (.beq false)), [.tmp 38, .tmp 39]⟩,
        ⟨(some 41), none, (.p .pick), [.tmp 37, .tmp 40, .const (.bool false)]⟩,
        ⟨(some 2), none, (.p .mv), [.tmp 41]⟩] (.act true 0 [] (.pu 1 (.pu 2 (.pu 5 (.act true 3 [1, 2] (.act true 4 [1, 3] (.act true 6 [1, 3, 5] (.act true 7 [1, 6] (.pu 8 (.pu 9 (.pu 10 (.pu 11 (.pu 13 (.act true 12 [10, 11] (.act true 14 [10, 13] (.pu 15 (.pu 16 (.pu 17 (.pu 18 (.pu 19 (.pu 20 (.pu 21 (.pu 22 .done)))))))) .stop) (.act false 14 [10, 13] (.act true 12 [10, 11] (.pu 15 (.pu 16 (.pu 17 (.pu 18 (.pu 19 (.pu 20 (.pu 21 (.pu 22 .done)))))))) .stop) .stop))))))) .stop) .stop) (.act false 6 [1, 3, 5] (.act true 4 [1, 3] (.act true 7 [1, 6] (.pu 8 (.pu 9 (.pu 10 (.pu 11 (.pu 13 (.act true 12 [10, 11] (.act true 14 [10, 13] (.pu 15 (.pu 16 (.pu 17 (.pu 18 (.pu 19 (.pu 20 (.pu 21 (.pu 22 .done)))))))) .stop) (.act false 14 [10, 13] (.act true 12 [10, 11] (.pu 15 (.pu 16 (.pu 17 (.pu 18 (.pu 19 (.pu 20 (.pu 21 (.pu 22 .done)))))))) .stop) .stop))))))) .stop) (.act false 7 [1, 6] (.act true 4 [1, 3] (.pu 8 (.pu 9 (.pu 10 (.pu 11 (.pu 13 (.act true 12 [10, 11] (.act true 14 [10, 13] (.pu 15 (.pu 16 (.pu 17 (.pu 18 (.pu 19 (.pu 20 (.pu 21 (.pu 22 .done)))))))) .stop) (.act false 14 [10, 13] (.act true 12 [10, 11] (.pu 15 (.pu 16 (.pu 17 (.pu 18 (.pu 19 (.pu 20 (.pu 21 (.pu 22 .done)))))))) .stop) .stop))))))) .stop) .stop)) .stop)) .stop)))) .stop))
      .ret))))),
 [.t 2]⟩
theorem ir8_ok : cFn Try.prog Try.f8 = some ir8 := by kernel_rfl

/- pumice/pumicelaw02.CrcTells -/
def ir9 : FIR := ⟨86,
 (.seq
  (.ops [⟨(some 6), none, (.p .mv), [.const (.bool false)]⟩])
  (.seq
   (.ops [⟨(some 15), none, (.call 12), []⟩,
     ⟨(some 7), none, (.p .mv), [.tmp 15]⟩])
   (.seq
    (.ops [⟨(some 16), none, (.p .mv), [.tmp 0]⟩,
      ⟨(some 17), none, (.call 11), [.tmp 16]⟩,
      ⟨(some 8), none, (.p .mv), [.tmp 17]⟩])
    (.seq
     (.ops [⟨(some 18), none, (.p .mv), [.tmp 8]⟩,
       ⟨(some 19), none, (.call 18), [.tmp 18]⟩,
       ⟨(some 9), none, (.p .mv), [.tmp 19]⟩])
     (.seq
      (.seq
       (.ops [⟨(some 20), none, (.p .mv), [.tmp 9]⟩,
         ⟨(some 21), none, (.p .lenS), [.tmp 20]⟩,
         ⟨(some 22), none, (.p .mv), [.tmp 8]⟩,
         ⟨(some 23), none, (.p .lenS), [.tmp 22]⟩,
         ⟨(some 24), none, (.p (.bin .add)), [.tmp 23, .const (.int .i64 4)]⟩,
         ⟨(some 25), none, (.p (.cmp .neq)), [.tmp 21, .tmp 24]⟩])
       (.cond (.tmp 25)
        (.seq
         (.ops [⟨(some 6), none, (.p .mv), [.const (.bool false)]⟩])
         .ret)
        .skip))
      (.seq
       (.ops [⟨(some 26), none, (.p .mv), [.tmp 1]⟩,
         ⟨(some 27), none, (.p .mv), [.tmp 9]⟩,
         ⟨(some 28), none, (.p .lenS), [.tmp 27]⟩,
         ⟨(some 29), none, (.p (.bin .mul)), [.const (.int .i64 8), .tmp 28]⟩,
         ⟨(some 30), none, (.p (.conv .u64)), [.tmp 29]⟩,
         ⟨(some 31), none, (.p (.bin .rem)), [.tmp 26, .tmp 30]⟩,
         ⟨(some 32), none, (.p (.conv .i64)), [.tmp 31]⟩,
         ⟨(some 10), none, (.p .mv), [.tmp 32]⟩])
       (.seq
        (.ops [⟨(some 11), none, (.p .mv), [.const (.bool false)]⟩])
        (.seq
         (.seq
          (.ops [⟨(some 12), none, (.p .mv), [.const (.int .i64 0)]⟩])
          (.block 0
           (.loop
            (.seq
             (.seq
              (.ops [⟨(some 33), none, (.p .mv), [.tmp 12]⟩,
                ⟨(some 34), none, (.p (.cmp .lss)), [.tmp 33, .const (.int .i64 32)]⟩,
                ⟨(some 35), none, (.p .mv), [.tmp 34]⟩,
                ⟨(some 36), (some (35, true)), (.p .mv), [.tmp 10]⟩,
                ⟨(some 37), (some (35, true)), (.p .mv), [.tmp 12]⟩,
                ⟨(some 38), (some (35, true)), (.p (.bin .add)), [.tmp 36, .tmp 37]⟩,
                ⟨(some 39), (some (35, true)), (.p .mv), [.tmp 9]⟩,
                ⟨(some 40), (some (35, true)), (.p .lenS), [.tmp 39]⟩,
                ⟨(some 41), (some (35, true)), (.p (.bin .mul)), [.const (.int .i64 8), .tmp 40]⟩,
                ⟨(some 42), (some (35, true)), (.p (.cmp .lss)), [.tmp 38, .tmp 41]⟩,
                ⟨(some 43), none, (.p .pick), [.tmp 35, .tmp 42, .const (.bool false)]⟩])
              (.cond (.tmp 43)
               .skip
               (.exit 0)))
             (.seq
              (.block 1
               (.seq
                (.ops [⟨(some 46), none, (.p .mv), [.tmp 2]⟩,
                  ⟨(some 47), none, (.p .mv), [.tmp 12]⟩,
                  ⟨(some 48), none, (.p (.bin .shr)), [.tmp 46, .tmp 47]⟩,
                  ⟨(some 49), none, (.p (.bin .rem)), [.tmp 48, .const (.int .u32 2)]⟩,
                  ⟨(some 50), none, (.p (.cmp .eql)), [.tmp 49, .const (.int .u32 1)]⟩])
                (.cond (.tmp 50)
                 (.seq
                  (.draw [⟨(some 51), none, (.p .mv), [.tmp 9]⟩,
                    ⟨(some 52), none, (.p .mv), [.tmp 10]⟩,
                    ⟨(some 53), none, (.p .mv), [.tmp 12]⟩,
                    ⟨(some 54), none, (.p (.bin .add)), [.tmp 52, .tmp 53]⟩,
                    ⟨(some 55), none, (.p (.bin .quo)), [.tmp 54, .const (.int .i64 8)]⟩,
                    ⟨(some 56), none, (.p (.iaddrS 1)), [.tmp 51, .tmp 55]⟩,
                    ⟨(some 57), none, .load1, [.tmp 56]⟩,
                    ⟨(some 58), none, (.p .mv), [.tmp 10]⟩,
                    ⟨(some 59), none, (.p .mv), [.tmp 12]⟩,
                    ⟨(some 60), none, (.p (.bin .add)), [.tmp 58, .tmp 59]⟩,
                    ⟨(some 61), none, (.p (.bin .rem)), [.tmp 60, .const (.int .i64 8)]⟩,
                    ⟨(some 62), none, (.p (.bin .shl)), [.const (.int .u8 1), .tmp 61]⟩,
                    ⟨(some 63), none, (.p (.bin .xor)), [.tmp 57, .tmp 62]⟩,
                    ⟨(some 64), none, (.p (.iaddrS 1)), [.tmp 51, .tmp 55]⟩,
                    ⟨none, none, .store1, [.tmp 64, .tmp 63]⟩] (.pu 0 (.pu 1 (.pu 2 (.pu 3 (.pu 4 (.pu 5 (.pu 7 (.pu 8 (.pu 9 (.pu 10 (.pu 11 (.fl 6 (.pu 12 (.pu 13 (.act true 14 [0, 1, 2, 3, 4, 5, 6, 7, 8, 9, 10, 11, 12, 13] .done .stop))))))))))))))))
                  (.ops [⟨(some 11), none, (.p .mv), [.const (.bool true)]⟩]))
                 .skip)))
              (.ops [⟨(some 44), none, (.p .mv), [.tmp 12]⟩,
                ⟨(some 45), none, (.p (.bin .add)), [.tmp 44, .const (.int .i64 1)]⟩,
                ⟨(some 12), none, (.p .mv), [.tmp 45]⟩]))))))
         (.seq
          (.ops [⟨(some 66), none, (.p .mv), [.tmp 9]⟩,
            ⟨(some 67), none, (.call 16), [.tmp 66]⟩,
            ⟨(some 65), none, (.p .mv), [.tmp 67]⟩,
            ⟨(some 68), none, (.p (.ext 0)), [.tmp 65]⟩,
            ⟨(some 69), none, (.p (.ext 1)), [.tmp 65]⟩,
            ⟨(some 13), none, (.p .mv), [.tmp 68]⟩,
            ⟨(some 14), none, (.p .mv), [.tmp 69]⟩])
          (.seq
           (.ops [⟨(some 70), none, (.p .mv), [.tmp 7]⟩,
             ⟨(some 71), none, (.p .mv), [.tmp 70]⟩,
             ⟨(some 72), (some (71, true)), (.p .mv), [.tmp 14]⟩,
             ⟨(some 73), (some (71, true)), (.p .mv), [.tmp 11]⟩,
             ⟨(some 74), (some (71, true)), (.p (.beq true)), [.tmp 72, .tmp 73]⟩,
             ⟨(some 75), none, (.p .pick), [.tmp 71, .tmp 74, .const (.bool false)]⟩,
             ⟨(some 76), none, (.p .mv), [.tmp 75]⟩,
             ⟨(some 77), (some (76, true)), (.p .mv), [.tmp 11]⟩,
             ⟨(some 78), (some (76, true)), (.p .mv), [.tmp 77]⟩,
             ⟨(some 79), (some (78, false)), (.p .mv), [.tmp 13]⟩,
             ⟨(some 80), (some (78, false)), .b2s, [.tmp 79]⟩,
             ⟨(some 81), (some (78, false)), (.p .mv), [.tmp 8]⟩,
             ⟨(some 82), (some (78, false)), .b2s, [.tmp 81]⟩,
             ⟨(some 83), (some (78, false)), (.p (.seq false)), [.tmp 80, .tmp 82]⟩,
             ⟨(some 84), (some (76, true)), (.p .pick), [.tmp 78, .const (.bool true), .tmp 83]⟩,
             ⟨(some 85), none, (.p .pick), [.tmp 76, .tmp 84, .const (.bool false)]⟩,
             ⟨(some 6), none, (.p .mv), [.tmp 85]⟩])
           .ret)))))))))),
 [.t 6]⟩
theorem ir9_ok : cFn Try.prog Try.f9 = some ir9 := by kernel_rfl

/- pumice/pumicelaw02.CrcBack -/
def ir10 : FIR := ⟨61,
 (.seq
  (.ops [⟨(some 4), none, (.p .mv), [.const (.bool false)]⟩])
  (.seq
   (.ops [⟨(some 11), none, (.call 12), []⟩,
     ⟨(some 5), none, (.p .mv), [.tmp 11]⟩])
   (.seq
    (.ops [⟨(some 12), none, (.p .mv), [.tmp 0]⟩,
      ⟨(some 13), none, (.call 11), [.tmp 12]⟩,
      ⟨(some 14), none, (.call 18), [.tmp 13]⟩,
      ⟨(some 6), none, (.p .mv), [.tmp 14]⟩])
    (.seq
     (.ops [⟨(some 16), none, (.p .mv), [.tmp 6]⟩,
       ⟨(some 17), none, (.call 16), [.tmp 16]⟩,
       ⟨(some 15), none, (.p .mv), [.tmp 17]⟩,
       ⟨(some 18), none, (.p (.ext 0)), [.tmp 15]⟩,
       ⟨(some 19), none, (.p (.ext 1)), [.tmp 15]⟩,
       ⟨(some 7), none, (.p .mv), [.tmp 18]⟩,
       ⟨(some 8), none, (.p .mv), [.tmp 19]⟩])
     (.seq
      (.ops [⟨(some 21), none, (.p .mv), [.tmp 1]⟩,
        ⟨(some 22), none, (.call 11), [.tmp 21]⟩,
        ⟨(some 23), none, (.call 16), [.tmp 22]⟩,
        ⟨(some 20), none, (.p .mv), [.tmp 23]⟩,
        ⟨(some 24), none, (.p (.ext 0)), [.tmp 20]⟩,
        ⟨(some 25), none, (.p (.ext 1)), [.tmp 20]⟩,
        ⟨(some 9), none, (.p .mv), [.tmp 24]⟩,
        ⟨(some 10), none, (.p .mv), [.tmp 25]⟩])
      (.seq
       (.seq
        (.draw [⟨(some 26), none, (.p .mv), [.tmp 10]⟩,
          ⟨(some 27), none, (.p .mv), [.tmp 9]⟩,
          ⟨(some 28), none, (.call 18), [.tmp 27]⟩,
          ⟨(some 29), none, .b2s, [.tmp 28]⟩,
          ⟨(some 30), none, (.p .mv), [.tmp 1]⟩,
          ⟨(some 31), none, (.call 11), [.tmp 30]⟩,
          ⟨(some 32), none, .b2s, [.tmp 31]⟩,
          ⟨(some 33), none, (.p (.seq false)), [.tmp 29, .tmp 32]⟩,
          ⟨(some 34), none, (.p (.beq true)), [.tmp 26, .tmp 33]⟩,
          ⟨(some 35), none, (.p .mv), [.tmp 34]⟩,
          ⟨(some 36), (some (35, false)), (.p .mv), [.tmp 10]⟩,
          ⟨(some 37), (some (35, false)), (.p .not), [.tmp 36]⟩,
          ⟨(some 38), (some (35, false)), (.p .mv), [.tmp 37]⟩,
          ⟨(some 39), (some (38, true)), (.p .mv), [.tmp 9]⟩,
          ⟨(some 40), (some (38, true)), (.p .lenS), [.tmp 39]⟩,
          ⟨(some 41), (some (38, true)), (.p (.cmp .gtr)), [.tmp 40, .const (.int .i64 0)]⟩,
          ⟨(some 42), (some (35, false)), (.p .pick), [.tmp 38, .tmp 41, .const (.bool false)]⟩,
          ⟨(some 43), none, (.p .pick), [.tmp 35, .const (.bool true), .tmp 42]⟩] (.pu 0 (.pu 1 (.pu 4 (.act true 2 [1] (.act true 3 [2] (.act true 5 [2, 4] (.act true 6 [5] (.pu 7 (.pu 8 (.pu 9 (.pu 10 (.pu 11 (.pu 12 (.pu 13 (.pu 14 (.pu 15 (.pu 16 (.pu 17 .done))))))))))) .stop) .stop) (.act false 5 [2, 4] (.act true 3 [2] (.act true 6 [5] (.pu 7 (.pu 8 (.pu 9 (.pu 10 (.pu 11 (.pu 12 (.pu 13 (.pu 14 (.pu 15 (.pu 16 (.pu 17 .done))))))))))) .stop) (.act false 6 [5] (.act true 3 [2] (.pu 7 (.pu 8 (.pu 9 (.pu 10 (.pu 11 (.pu 12 (.pu 13 (.pu 14 (.pu 15 (.pu 16 (.pu 17 .done))))))))))) .stop) .stop)) .stop)) .stop)))))
        (.cond (.tmp 43)
         (.seq
          (.ops [⟨(some 4), none, (.p .mv), [.const (.bool false)]⟩])
          .ret)
         .skip))
       (.seq
        (.draw [⟨(some 44), none, (.p .mv), [.tmp 5]⟩,
          ⟨(some 45), none, (.p .mv), [.tmp 44]⟩,
          ⟨(some 46), (some (45, true)), (.p .mv), [.tmp 8]⟩,
          ⟨(some 47), none, (.p .pick), [.tmp 45, .tmp 46, .const (.bool false)]⟩,
          ⟨(some 48), none, (.p .mv), [.tmp 47]⟩,
          ⟨(some 49), (some (48, true)), (.p .mv), [.tmp 7]⟩,
          ⟨(some 50), (some (48, true)), .b2s, [.tmp 49]⟩,
          ⟨(some 51), (some (48, true)), (.p .mv), [.tmp 0]⟩,
          ⟨(some 52), (some (48, true)), (.call 11), [.tmp 51]⟩,
          ⟨(some 53), (some (48, true)), .b2s, [.tmp 52]⟩,
          ⟨(some 54), (some (48, true)), (.p (.seq false)), [.tmp 50, .tmp 53]⟩,
          ⟨(some 55), none, (.p .pick), [.tmp 48, .tmp 54, .const (.bool false)]⟩,
          ⟨(some 56), none, (.p .mv), [.tmp 55]⟩,
          ⟨(some 57), (some (56, true)), (.p .mv), [.tmp 6]⟩,
          ⟨(some 58), (some (56, true)), (.call 13), [.tmp 57]⟩,
          ⟨(some 59), (some (56, true)), (.p (.cmp .eql)), [.tmp 58, .const (.int .u32 558161692)]⟩,
          ⟨(some 60), none, (.p .pick), [.tmp 56, .tmp 59, .const (.bool false)]⟩,
          ⟨(some 4), none, (.p .mv), [.tmp 60]⟩] (.pu 0 (.pu 1 (.pu 2 (.pu 3 (.pu 4 (.pu 5 (.pu 7 (.act true 6 [4, 5] (.act true 8 [4, 7] (.act true 9 [4, 8] (.pu 10 (.pu 11 (.pu 12 (.pu 13 (.act true 14 [12, 13] (.pu 15 (.pu 16 (.pu 17 .done))) .stop))))) .stop) .stop) (.act false 8 [4, 7] (.act true 6 [4, 5] (.act true 9 [4, 8] (.pu 10 (.pu 11 (.pu 12 (.pu 13 (.act true 14 [12, 13] (.pu 15 (.pu 16 (.pu 17 .done))) .stop))))) .stop) (.act false 9 [4, 8] (.act true 6 [4, 5] (.pu 10 (.pu 11 (.pu 12 (.pu 13 (.act true 14 [12, 13] (.pu 15 (.pu 16 (.pu 17 .done))) .stop))))) .stop) .stop)) .stop))))))))))
        .ret))))))),
 [.t 4]⟩
theorem ir10_ok : cFn Try.prog Try.f10 = some ir10 := by kernel_rfl

/- pumice/pumicelaw02.few -/
def ir11 : FIR := ⟨8,
 (.seq
  (.ops [⟨(some 2), none, (.p .mv), [.const (.slice none 0 0)]⟩])
  (.seq
   (.ops [⟨(some 3), none, (.p .mv), [.tmp 0]⟩,
     ⟨(some 4), none, (.p .mv), [.tmp 0]⟩,
     ⟨(some 5), none, (.p .lenS), [.tmp 4]⟩,
     ⟨(some 6), none, (.p .min), [.tmp 5, .const (.int .i64 50000)]⟩,
     ⟨(some 7), none, (.p (.cutS 1 false true false)), [.tmp 3, .tmp 6]⟩,
     ⟨(some 2), none, (.p .mv), [.tmp 7]⟩])
   .ret)),
 [.t 2]⟩
theorem ir11_ok : cFn Try.prog Try.f11 = some ir11 := by kernel_rfl

/- pumice/pumicelaw02.shown -/
def ir12 : FIR := ⟨14,
 (.seq
  (.ops [⟨(some 0), none, (.p .mv), [.const (.bool false)]⟩])
  (.seq
   (.ops [⟨(some 1), none, (.call 13), [.const (.slice none 0 0)]⟩,
     ⟨(some 2), none, (.p (.cmp .eql)), [.tmp 1, .const (.int .u32 0)]⟩,
     ⟨(some 3), none, (.p .mv), [.tmp 2]⟩,
     ⟨(some 4), (some (3, true)), (.bldSl 5 9 1 (Array.replicate 9 (.int .u8 0)) [0, 1, 2, 3, 4, 5, 6, 7, 8]), [.const (.int .u8 49), .const (.int .u8 50), .const (.int .u8 51), .const (.int .u8 52), .const (.int .u8 53), .const (.int .u8 54), .const (.int .u8 55), .const (.int .u8 56), .const (.int .u8 57)]⟩,
     ⟨(some 5), (some (3, true)), .mark, [.tmp 4]⟩,
     ⟨(some 6), (some (3, true)), (.call 13), [.tmp 5]⟩,
     ⟨(some 7), (some (3, true)), (.p (.cmp .eql)), [.tmp 6, .const (.int .u32 3421780262)]⟩,
     ⟨(some 8), none, (.p .pick), [.tmp 3, .tmp 7, .const (.bool false)]⟩,
     ⟨(some 9), none, (.p .mv), [.tmp 8]⟩,
     ⟨(some 10), (some (9, true)), (.call 18), [.const (.slice none 0 0)]⟩,
     ⟨(some 11), (some (9, true)), .b2s, [.tmp 10]⟩,
     ⟨(some 12), (some (9, true)), (.p (.seq false)), [.tmp 11, .const (.string ⟨#[0, 0, 0, 0]⟩)]⟩,
     ⟨(some 13), none, (.p .pick), [.tmp 9, .tmp 12, .const (.bool false)]⟩,
     ⟨(some 0), none, (.p .mv), [.tmp 13]⟩])
   .ret)),
 [.t 0]⟩
theorem ir12_ok : cFn Try.prog Try.f12 = some ir12 := by kernel_rfl

/- pumice/crc.Sum -/
def ir13 : FIR := ⟨5,
 (.seq
  (.ops [⟨(some 2), none, (.p .mv), [.const (.int .u32 0)]⟩])
  (.seq
   (.ops [⟨(some 3), none, (.p .mv), [.tmp 0]⟩,
     ⟨(some 4), none, (.call 15), [.const (.int .u32 0), .tmp 3]⟩,
     ⟨(some 2), none, (.p .mv), [.tmp 4]⟩])
   .ret)),
 [.t 2]⟩
theorem ir13_ok : cFn Try.prog Try.f13 = some ir13 := by kernel_rfl

/- pumice/pumiceref02.More -/
def ir14 : FIR := ⟨38,
 (.seq
  (.ops [⟨(some 4), none, (.p .mv), [.const (.int .u32 0)]⟩])
  (.seq
   (.ops [⟨(some 9), none, (.p .mv), [.tmp 0]⟩,
     ⟨(some 10), none, (.p (.bin .sub)), [.const (.int .u32 4294967295), .tmp 9]⟩,
     ⟨(some 5), none, (.p .mv), [.tmp 10]⟩])
   (.seq
    (.seq
     (.ops [⟨(some 6), none, (.p .mv), [.const (.int .i64 0)]⟩])
     (.block 0
      (.loop
       (.seq
        (.seq
         (.ops [⟨(some 11), none, (.p .mv), [.tmp 6]⟩,
           ⟨(some 12), none, (.p .mv), [.tmp 1]⟩,
           ⟨(some 13), none, (.p .lenS), [.tmp 12]⟩,
           ⟨(some 14), none, (.p (.cmp .lss)), [.tmp 11, .tmp 13]⟩])
         (.cond (.tmp 14)
          .skip
          (.exit 0)))
        (.seq
         (.block 1
          (.seq
           (.ops [⟨(some 17), none, (.p .mv), [.tmp 5]⟩,
             ⟨(some 18), none, (.p .mv), [.tmp 1]⟩,
             ⟨(some 19), none, (.p .mv), [.tmp 6]⟩,
             ⟨(some 20), none, (.p (.iaddrS 1)), [.tmp 18, .tmp 19]⟩,
             ⟨(some 21), none, .load1, [.tmp 20]⟩,
             ⟨(some 22), none, (.p (.conv .u32)), [.tmp 21]⟩,
             ⟨(some 23), none, (.p (.bin .xor)), [.tmp 17, .tmp 22]⟩,
             ⟨(some 5), none, (.p .mv), [.tmp 23]⟩])
           (.seq
            (.ops [⟨(some 7), none, (.p .mv), [.const (.int .i64 0)]⟩])
            (.block 2
             (.loop
              (.seq
               (.seq
                (.ops [⟨(some 24), none, (.p .mv), [.tmp 7]⟩,
                  ⟨(some 25), none, (.p (.cmp .lss)), [.tmp 24, .const (.int .i64 8)]⟩])
                (.cond (.tmp 25)
                 .skip
                 (.exit 2)))
               (.seq
                (.block 3
                 (.seq
                  (.ops [⟨(some 28), none, (.p .mv), [.tmp 5]⟩,
                    ⟨(some 29), none, (.p (.bin .rem)), [.tmp 28, .const (.int .u32 2)]⟩,
                    ⟨(some 8), none, (.p .mv), [.tmp 29]⟩])
                  (.seq
                   (.ops [⟨(some 30), none, (.p .mv), [.tmp 5]⟩,
                     ⟨(some 31), none, (.p (.bin .quo)), [.tmp 30, .const (.int .u32 2)]⟩,
                     ⟨(some 5), none, (.p .mv), [.tmp 31]⟩])
                   (.seq
                    (.ops [⟨(some 32), none, (.p .mv), [.tmp 8]⟩,
                      ⟨(some 33), none, (.p (.cmp .eql)), [.tmp 32, .const (.int .u32 1)]⟩])
                    (.cond (.tmp 33)
                     (.ops [⟨(some 34), none, (.p .mv), [.tmp 5]⟩,
                       ⟨(some 35), none, (.p (.bin .xor)), [.tmp 34, .const (.int .u32 3988292384)]⟩,
                       ⟨(some 5), none, (.p .mv), [.tmp 35]⟩])
                     .skip)))))
                (.ops [⟨(some 26), none, (.p .mv), [.tmp 7]⟩,
                  ⟨(some 27), none, (.p (.bin .add)), [.tmp 26, .const (.int .i64 1)]⟩,
                  ⟨(some 7), none, (.p .mv), [.tmp 27]⟩]))))))))
         (.ops [⟨(some 15), none, (.p .mv), [.tmp 6]⟩,
           ⟨(some 16), none, (.p (.bin .add)), [.tmp 15, .const (.int .i64 1)]⟩,
           ⟨(some 6), none, (.p .mv), [.tmp 16]⟩]))))))
    (.seq
     (.ops [⟨(some 36), none, (.p .mv), [.tmp 5]⟩,
       ⟨(some 37), none, (.p (.bin .sub)), [.const (.int .u32 4294967295), .tmp 36]⟩,
       ⟨(some 4), none, (.p .mv), [.tmp 37]⟩])
     .ret)))),
 [.t 4]⟩
theorem ir14_ok : cFn Try.prog Try.f14 = some ir14 := by kernel_rfl

/- pumice/crc.More -/
def ir15 : FIR := ⟨33,
 (.seq
  (.ops [⟨(some 4), none, (.p .mv), [.const (.int .u32 0)]⟩])
  (.seq
   (.ops [⟨(some 8), none, (.p .mv), [.tmp 0]⟩,
     ⟨(some 9), none, (.p .inv), [.tmp 8]⟩,
     ⟨(some 5), none, (.p .mv), [.tmp 9]⟩])
   (.seq
    (.seq
     (.ops [⟨(some 10), none, (.p .mv), [.tmp 1]⟩,
       ⟨(some 11), none, (.p .lenS), [.tmp 10]⟩,
       ⟨(some 12), none, (.p .mv), [.const (.int .i64 0)]⟩])
     (.block 0
      (.loop
       (.seq
        (.ops [⟨(some 13), none, (.p (.cmp .lss)), [.tmp 12, .tmp 11]⟩])
        (.seq
         (.cond (.tmp 13)
          .skip
          (.exit 0))
         (.seq
          (.block 1
           (.seq
            (.ops [⟨(some 14), none, (.p (.iaddrS 1)), [.tmp 10, .tmp 12]⟩,
              ⟨(some 15), none, .load1, [.tmp 14]⟩,
              ⟨(some 7), none, (.p .mv), [.tmp 15]⟩])
            (.seq
             (.ops [⟨(some 16), none, (.p .mv), [.tmp 5]⟩,
               ⟨(some 17), none, (.p .mv), [.tmp 7]⟩,
               ⟨(some 18), none, (.p (.conv .u32)), [.tmp 17]⟩,
               ⟨(some 19), none, (.p (.bin .xor)), [.tmp 16, .tmp 18]⟩,
               ⟨(some 5), none, (.p .mv), [.tmp 19]⟩])
             (.seq
              (.ops [⟨(some 20), none, (.p .mv), [.tmp 5]⟩,
                ⟨(some 21), none, (.p (.bin .shr)), [.tmp 20, .const (.int .u64 4)]⟩,
                ⟨(some 22), none, (.p .mv), [.tmp 5]⟩,
                ⟨(some 23), none, (.call 20), [.tmp 22]⟩,
                ⟨(some 24), none, (.p (.bin .xor)), [.tmp 21, .tmp 23]⟩,
                ⟨(some 5), none, (.p .mv), [.tmp 24]⟩])
              (.ops [⟨(some 25), none, (.p .mv), [.tmp 5]⟩,
                ⟨(some 26), none, (.p (.bin .shr)), [.tmp 25, .const (.int .u64 4)]⟩,
                ⟨(some 27), none, (.p .mv), [.tmp 5]⟩,
                ⟨(some 28), none, (.call 20), [.tmp 27]⟩,
                ⟨(some 29), none, (.p (.bin .xor)), [.tmp 26, .tmp 28]⟩,
                ⟨(some 5), none, (.p .mv), [.tmp 29]⟩])))))
          (.ops [⟨(some 30), none, (.p (.bin .add)), [.tmp 12, .const (.int .i64 1)]⟩,
            ⟨(some 12), none, (.p .mv), [.tmp 30]⟩])))))))
    (.seq
     (.ops [⟨(some 31), none, (.p .mv), [.tmp 5]⟩,
       ⟨(some 32), none, (.p .inv), [.tmp 31]⟩,
       ⟨(some 4), none, (.p .mv), [.tmp 32]⟩])
     .ret)))),
 [.t 4]⟩
theorem ir15_ok : cFn Try.prog Try.f15 = some ir15 := by kernel_rfl

/- pumice/crc.Open -/
def ir16 : FIR := ⟨28,
 (.seq
  (.ops [⟨(some 2), none, (.p .mv), [.const (.slice none 0 0)]⟩,
    ⟨(some 3), none, (.p .mv), [.const (.bool false)]⟩])
  (.seq
   (.ops [⟨(some 7), none, (.p .mv), [.tmp 0]⟩,
     ⟨(some 8), none, (.call 21), [.tmp 7]⟩,
     ⟨(some 4), none, (.p .mv), [.tmp 8]⟩])
   (.seq
    (.ops [⟨(some 9), none, (.p .mv), [.tmp 4]⟩,
      ⟨(some 10), none, (.p .mv), [.tmp 0]⟩,
      ⟨(some 11), none, (.p .lenS), [.tmp 10]⟩,
      ⟨(some 12), none, (.p (.bin .sub)), [.tmp 11, .const (.int .i64 4)]⟩,
      ⟨(some 13), none, (.p .max), [.const (.int .i64 0), .tmp 12]⟩,
      ⟨(some 14), none, (.call 22), [.tmp 9, .tmp 13]⟩,
      ⟨(some 5), none, (.p .mv), [.tmp 14]⟩])
    (.seq
     (.seq
      (.ops [⟨(some 15), none, (.p .mv), [.tmp 4]⟩,
        ⟨(some 16), none, (.call 23), [.tmp 15, .const (.int .i64 4)]⟩,
        ⟨(some 6), none, (.p .mv), [.tmp 16]⟩])
      (.seq
       (.ops [⟨(some 17), none, (.p .mv), [.tmp 4]⟩,
         ⟨(some 18), none, (.call 24), [.tmp 17]⟩,
         ⟨(some 19), none, (.p (.cmp .neq)), [.tmp 18, .const (.int .i64 0)]⟩,
         ⟨(some 20), none, (.p .mv), [.tmp 19]⟩,
         ⟨(some 21), (some (20, false)), (.p .mv), [.tmp 6]⟩,
         ⟨(some 22), (some (20, false)), (.p .mv), [.tmp 5]⟩,
         ⟨(some 23), (some (20, false)), (.call 13), [.tmp 22]⟩,
         ⟨(some 24), (some (20, false)), (.p (.conv .u64)), [.tmp 23]⟩,
         ⟨(some 25), (some (20, false)), (.p (.cmp .neq)), [.tmp 21, .tmp 24]⟩,
         ⟨(some 26), none, (.p .pick), [.tmp 20, .const (.bool true), .tmp 25]⟩])
       (.cond (.tmp 26)
        (.seq
         (.ops [⟨(some 2), none, (.p .mv), [.const (.slice none 0 0)]⟩,
           ⟨(some 3), none, (.p .mv), [.const (.bool false)]⟩])
         .ret)
        .skip)))
     (.seq
      (.ops [⟨(some 27), none, (.p .mv), [.tmp 5]⟩,
        ⟨(some 2), none, (.p .mv), [.tmp 27]⟩,
        ⟨(some 3), none, (.p .mv), [.const (.bool true)]⟩])
      .ret))))),
 [.t 2, .t 3]⟩
theorem ir16_ok : cFn Try.prog Try.f16 = some ir16 := by kernel_rfl

/- pumice/pumiceref02.Open -/
def ir17 : FIR := ⟨23,
 (.seq
  (.ops [⟨(some 2), none, (.p .mv), [.const (.slice none 0 0)]⟩,
    ⟨(some 3), none, (.p .mv), [.const (.bool false)]⟩])
  (.seq
   (.ops [⟨(some 5), none, (.p .mv), [.tmp 0]⟩,
     ⟨(some 6), none, (.p .lenS), [.tmp 5]⟩,
     ⟨(some 7), none, (.p (.bin .sub)), [.tmp 6, .const (.int .i64 4)]⟩,
     ⟨(some 4), none, (.p .mv), [.tmp 7]⟩])
   (.seq
    (.seq
     (.draw [⟨(some 8), none, (.p .mv), [.tmp 4]⟩,
       ⟨(some 9), none, (.p (.cmp .lss)), [.tmp 8, .const (.int .i64 0)]⟩,
       ⟨(some 10), none, (.p .mv), [.tmp 9]⟩,
       ⟨(some 11), (some (10, false)), (.p .mv), [.tmp 0]⟩,
       ⟨(some 12), (some (10, false)), (.p .mv), [.tmp 4]⟩,
       ⟨(some 13), (some (10, false)), (.p (.cutS 1 false true false)), [.tmp 11, .tmp 12]⟩,
       ⟨(some 14), (some (10, false)), (.call 19), [.tmp 13]⟩,
       ⟨(some 15), (some (10, false)), .b2s, [.tmp 14]⟩,
       ⟨(some 16), (some (10, false)), (.p .mv), [.tmp 0]⟩,
       ⟨(some 17), (some (10, false)), .b2s, [.tmp 16]⟩,
       ⟨(some 18), (some (10, false)), (.p (.seq true)), [.tmp 15, .tmp 17]⟩,
       ⟨(some 19), none, (.p .pick), [.tmp 10, .const (.bool true), .tmp 18]⟩] (.pu 0 (.pu 1 (.pu 2 (.pu 3 (.pu 4 (.pu 5 (.pu 8 (.act true 6 [2, 5] (.act true 7 [2, 6] (.act true 9 [2, 8] (.pu 10 (.pu 11 .done)) .stop) (.act false 9 [2, 8] (.act true 7 [2, 6] (.pu 10 (.pu 11 .done)) .stop) .stop)) (.act false 9 [2, 8] (.act true 6 [2, 5] (.act true 7 [2, 6] (.pu 10 (.pu 11 .done)) .stop) .stop) .stop))))))))))
     (.cond (.tmp 19)
      (.seq
       (.ops [⟨(some 2), none, (.p .mv), [.const (.slice none 0 0)]⟩,
         ⟨(some 3), none, (.p .mv), [.const (.bool false)]⟩])
       .ret)
      .skip))
    (.seq
     (.ops [⟨(some 20), none, (.p .mv), [.tmp 0]⟩,
       ⟨(some 21), none, (.p .mv), [.tmp 4]⟩,
       ⟨(some 22), none, (.p (.cutS 1 false true false)), [.tmp 20, .tmp 21]⟩,
       ⟨(some 2), none, (.p .mv), [.tmp 22]⟩,
       ⟨(some 3), none, (.p .mv), [.const (.bool true)]⟩])
     .ret)))),
 [.t 2, .t 3]⟩
theorem ir17_ok : cFn Try.prog Try.f17 = some ir17 := by kernel_rfl

/- pumice/crc.Seal -/
def ir18 : FIR := ⟨24,
 (.seq
  (.ops [⟨(some 2), none, (.p .mv), [.const (.slice none 0 0)]⟩])
  (.seq
   (.ops [⟨(some 6), none, (.p .mv), [.tmp 0]⟩,
     ⟨(some 7), none, (.p .lenS), [.tmp 6]⟩,
     ⟨(some 8), none, (.p (.bin .add)), [.tmp 7, .const (.int .i64 4)]⟩,
     ⟨(some 9), none, (.call 25), [.tmp 8]⟩,
     ⟨(some 3), none, (.p .mv), [.tmp 9]⟩])
   (.seq
    (.ops [⟨(some 10), none, (.p .mv), [.tmp 3]⟩,
      ⟨(some 11), none, (.p .mv), [.tmp 0]⟩,
      ⟨(some 12), none, (.call 26), [.tmp 10, .tmp 11]⟩])
    (.seq
     (.ops [⟨(some 13), none, (.p .mv), [.tmp 3]⟩,
       ⟨(some 14), none, (.p .mv), [.tmp 0]⟩,
       ⟨(some 15), none, (.call 13), [.tmp 14]⟩,
       ⟨(some 16), none, (.p (.conv .u64)), [.tmp 15]⟩,
       ⟨(some 17), none, (.call 27), [.tmp 13, .tmp 16, .const (.int .i64 4)]⟩])
     (.seq
      (.ops [⟨(some 19), none, (.p .mv), [.tmp 3]⟩,
        ⟨(some 20), none, (.call 28), [.tmp 19]⟩,
        ⟨(some 18), none, (.p .mv), [.tmp 20]⟩,
        ⟨(some 21), none, (.p (.ext 0)), [.tmp 18]⟩,
        ⟨(some 22), none, (.p (.ext 1)), [.tmp 18]⟩,
        ⟨(some 4), none, (.p .mv), [.tmp 21]⟩,
        ⟨(some 5), none, (.p .mv), [.tmp 22]⟩])
      (.seq
       (.ops [⟨(some 23), none, (.p .mv), [.tmp 4]⟩,
         ⟨(some 2), none, (.p .mv), [.tmp 23]⟩])
       .ret)))))),
 [.t 2]⟩
theorem ir18_ok : cFn Try.prog Try.f18 = some ir18 := by kernel_rfl

/- pumice/pumiceref02.Seal -/
def ir19 : FIR := ⟨14,
 (.seq
  (.ops [⟨(some 2), none, (.p .mv), [.const (.slice none 0 0)]⟩])
  (.seq
   (.ops [⟨(some 3), none, (.p .mv), [.const (.slice none 0 0)]⟩])
   (.seq
    (.ops [⟨(some 4), none, (.p .mv), [.tmp 3]⟩,
      ⟨(some 5), none, (.p .mv), [.tmp 0]⟩,
      ⟨(some 6), none, (.app 23 5 1 1 #[(.int .u8 0)]), [.tmp 4, .tmp 5]⟩,
      ⟨(some 3), none, (.p .mv), [.tmp 6]⟩])
    (.seq
     (.ops [⟨(some 7), none, (.p .mv), [.tmp 3]⟩,
       ⟨(some 8), none, (.p .mv), [.tmp 0]⟩,
       ⟨(some 9), none, (.call 14), [.const (.int .u32 0), .tmp 8]⟩,
       ⟨(some 10), none, (.p (.conv .u64)), [.tmp 9]⟩,
       ⟨(some 11), none, (.call 29), [.tmp 10, .const (.int .i64 4)]⟩,
       ⟨(some 12), none, (.app 23 5 1 1 #[(.int .u8 0)]), [.tmp 7, .tmp 11]⟩,
       ⟨(some 3), none, (.p .mv), [.tmp 12]⟩])
     (.seq
      (.ops [⟨(some 13), none, (.p .mv), [.tmp 3]⟩,
        ⟨(some 2), none, (.p .mv), [.tmp 13]⟩])
      .ret))))),
 [.t 2]⟩
theorem ir19_ok : cFn Try.prog Try.f19 = some ir19 := by kernel_rfl

/- pumice/crc.fold -/
def ir20 : FIR := ⟨7,
 (.seq
  (.ops [⟨(some 2), none, (.p .mv), [.const (.int .u32 0)]⟩])
  (.seq
   (.ops [⟨(some 3), none, (.p (.bldA (Array.replicate 16 (.int .u32 0)) 1 [0, 1, 2, 3, 4, 5, 6, 7, 8, 9, 10, 11, 12, 13, 14, 15])), [.const (.int .u32 0), .const (.int .u32 498536548), .const (.int .u32 997073096), .const (.int .u32 651767980), .const (.int .u32 1994146192), .const (.int .u32 1802195444), .const (.int .u32 1303535960), .const (.int .u32 1342533948), .const (.int .u32 3988292384), .const (.int .u32 4027552580), .const (.int .u32 3604390888), .const (.int .u32 3412177804), .const (.int .u32 2607071920), .const (.int .u32 2262029012), .const (.int .u32 2685067896), .const (.int .u32 3183342108)]⟩,
     ⟨(some 4), none, (.p .mv), [.tmp 0]⟩,
     ⟨(some 5), none, (.p (.bin .and)), [.tmp 4, .const (.int .u32 15)]⟩,
     ⟨(some 6), none, (.p (.idxA1 16)), [.tmp 3, .tmp 5]⟩,
     ⟨(some 2), none, (.p .mv), [.tmp 6]⟩])
   .ret)),
 [.t 2]⟩
theorem ir20_ok : cFn Try.prog Try.f20 = some ir20 := by kernel_rfl

/- pumice/codec.NewReader -/
def ir21 : FIR := ⟨7,
 (.seq
  (.ops [⟨(some 2), none, (.p .mv), [.const (.pointer none)]⟩])
  (.seq
   (.ops [⟨(some 3), none, (.p .mv), [.tmp 0]⟩,
     ⟨(some 4), none, (.app 23 5 1 1 #[(.int .u8 0)]), [.const (.slice none 0 0), .tmp 3]⟩,
     ⟨(some 5), none, (.p (.bldS #[(.slice none 0 0), (.int .i64 0)] #[(0, 1), (1, 1)] [0])), [.tmp 4]⟩,
     ⟨(some 6), none, (.box 57), [.tmp 5]⟩,
     ⟨(some 2), none, (.p .mv), [.tmp 6]⟩])
   .ret)),
 [.t 2]⟩
theorem ir21_ok : cFn Try.prog Try.f21 = some ir21 := by kernel_rfl

/- (*pumice/codec.Reader).Raw -/
def ir22 : FIR := ⟨27,
 (.seq
  (.ops [⟨(some 4), none, (.p .mv), [.const (.slice none 0 0)]⟩])
  (.seq
   (.seq
    (.ops [⟨(some 6), none, (.p .mv), [.tmp 0]⟩,
      ⟨(some 7), none, (.p .mv), [.tmp 1]⟩,
      ⟨(some 8), none, (.call 30), [.tmp 6, .tmp 7]⟩,
      ⟨(some 9), none, (.p .not), [.tmp 8]⟩])
    (.cond (.tmp 9)
     (.seq
      (.ops [⟨(some 4), none, (.p .mv), [.const (.slice none 0 0)]⟩])
      .ret)
     .skip))
   (.seq
    (.ops [⟨(some 10), none, (.p .mv), [.tmp 0]⟩,
      ⟨(some 11), none, (.p .nilchk), [.tmp 10]⟩,
      ⟨(some 12), none, (.p (.faddr 0)), [.tmp 11]⟩,
      ⟨(some 13), none, .load1, [.tmp 12]⟩,
      ⟨(some 14), none, (.p .mv), [.tmp 1]⟩,
      ⟨(some 15), none, (.p (.cutS 1 false true false)), [.tmp 13, .tmp 14]⟩,
      ⟨(some 16), none, (.app 23 5 1 1 #[(.int .u8 0)]), [.const (.slice none 0 0), .tmp 15]⟩,
      ⟨(some 5), none, (.p .mv), [.tmp 16]⟩])
    (.seq
     (.ops [⟨(some 17), none, (.p .mv), [.tmp 0]⟩,
       ⟨(some 18), none, (.p .mv), [.tmp 0]⟩,
       ⟨(some 19), none, (.p .nilchk), [.tmp 18]⟩,
       ⟨(some 20), none, (.p (.faddr 0)), [.tmp 19]⟩,
       ⟨(some 21), none, .load1, [.tmp 20]⟩,
       ⟨(some 22), none, (.p .mv), [.tmp 1]⟩,
       ⟨(some 23), none, (.p (.cutS 1 true false false)), [.tmp 21, .tmp 22]⟩,
       ⟨(some 24), none, (.p .nilchk), [.tmp 17]⟩,
       ⟨(some 25), none, (.p (.faddr 0)), [.tmp 24]⟩,
       ⟨none, none, .store1, [.tmp 25, .tmp 23]⟩])
     (.seq
      (.ops [⟨(some 26), none, (.p .mv), [.tmp 5]⟩,
        ⟨(some 4), none, (.p .mv), [.tmp 26]⟩])
      .ret))))),
 [.t 4]⟩
theorem ir22_ok : cFn Try.prog Try.f22 = some ir22 := by kernel_rfl

/- (*pumice/codec.Reader).Num -/
def ir23 : FIR := ⟨43,
 (.seq
  (.ops [⟨(some 4), none, (.p .mv), [.const (.int .u64 0)]⟩])
  (.seq
   (.seq
    (.ops [⟨(some 6), none, (.p .mv), [.tmp 0]⟩,
      ⟨(some 7), none, (.p (.isnil true)), [.tmp 6, .const (.pointer none)]⟩,
      ⟨(some 8), none, (.p .mv), [.tmp 7]⟩,
      ⟨(some 9), (some (8, true)), (.p .mv), [.tmp 0]⟩,
      ⟨(some 10), (some (8, true)), (.p .nilchk), [.tmp 9]⟩,
      ⟨(some 11), (some (8, true)), (.p (.faddr 1)), [.tmp 10]⟩,
      ⟨(some 12), (some (8, true)), .load1, [.tmp 11]⟩,
      ⟨(some 13), (some (8, true)), (.p (.cmp .eql)), [.tmp 12, .const (.int .i64 0)]⟩,
      ⟨(some 14), none, (.p .pick), [.tmp 8, .tmp 13, .const (.bool false)]⟩,
      ⟨(some 15), none, (.p .mv), [.tmp 14]⟩,
      ⟨(some 16), (some (15, true)), (.p .mv), [.tmp 1]⟩,
      ⟨(some 17), (some (15, true)), (.p (.cmp .gtr)), [.tmp 16, .const (.int .i64 8)]⟩,
      ⟨(some 18), none, (.p .pick), [.tmp 15, .tmp 17, .const (.bool false)]⟩])
    (.cond (.tmp 18)
     (.ops [⟨(some 19), none, (.p .mv), [.tmp 0]⟩,
       ⟨(some 20), none, (.p .nilchk), [.tmp 19]⟩,
       ⟨(some 21), none, (.p (.faddr 1)), [.tmp 20]⟩,
       ⟨none, none, .store1, [.tmp 21, .const (.int .i64 1)]⟩])
     .skip))
   (.seq
    (.seq
     (.ops [⟨(some 22), none, (.p .mv), [.tmp 0]⟩,
       ⟨(some 23), none, (.p .mv), [.tmp 1]⟩,
       ⟨(some 24), none, (.call 30), [.tmp 22, .tmp 23]⟩,
       ⟨(some 25), none, (.p .not), [.tmp 24]⟩])
     (.cond (.tmp 25)
      (.seq
       (.ops [⟨(some 4), none, (.p .mv), [.const (.int .u64 0)]⟩])
       .ret)
      .skip))
    (.seq
     (.ops [⟨(some 26), none, (.p .mv), [.tmp 0]⟩,
       ⟨(some 27), none, (.p .nilchk), [.tmp 26]⟩,
       ⟨(some 28), none, (.p (.faddr 0)), [.tmp 27]⟩,
       ⟨(some 29), none, .load1, [.tmp 28]⟩,
       ⟨(some 30), none, (.p .mv), [.tmp 1]⟩,
       ⟨(some 31), none, (.p (.cutS 1 false true false)), [.tmp 29, .tmp 30]⟩,
       ⟨(some 32), none, (.call 31), [.tmp 31]⟩,
       ⟨(some 5), none, (.p .mv), [.tmp 32]⟩])
     (.seq
      (.ops [⟨(some 33), none, (.p .mv), [.tmp 0]⟩,
        ⟨(some 34), none, (.p .mv), [.tmp 0]⟩,
        ⟨(some 35), none, (.p .nilchk), [.tmp 34]⟩,
        ⟨(some 36), none, (.p (.faddr 0)), [.tmp 35]⟩,
        ⟨(some 37), none, .load1, [.tmp 36]⟩,
        ⟨(some 38), none, (.p .mv), [.tmp 1]⟩,
        ⟨(some 39), none, (.p (.cutS 1 true false false)), [.tmp 37, .tmp 38]⟩,
        ⟨(some 40), none, (.p .nilchk), [.tmp 33]⟩,
        ⟨(some 41), none, (.p (.faddr 0)), [.tmp 40]⟩,
        ⟨none, none, .store1, [.tmp 41, .tmp 39]⟩])
      (.seq
       (.ops [⟨(some 42), none, (.p .mv), [.tmp 5]⟩,
         ⟨(some 4), none, (.p .mv), [.tmp 42]⟩])
       .ret)))))),
 [.t 4]⟩
theorem ir23_ok : cFn Try.prog Try.f23 = some ir23 := by kernel_rfl

/- (*pumice/codec.Reader).End -/
def ir24 : FIR := ⟨24,
 (.seq
  (.ops [⟨(some 2), none, (.p .mv), [.const (.int .i64 0)]⟩])
  (.seq
   (.block 0
    (.seq
     (.ops [⟨(some 4), none, (.p .mv), [.tmp 0]⟩,
       ⟨(some 5), none, (.p (.isnil false)), [.tmp 4, .const (.pointer none)]⟩,
       ⟨(some 3), none, (.p .mv), [.tmp 5]⟩])
     (.cond (.tmp 3)
      (.seq
       (.ops [⟨(some 2), none, (.p .mv), [.const (.int .i64 0)]⟩])
       .ret)
      (.seq
       (.ops [⟨(some 7), none, (.p .mv), [.tmp 0]⟩,
         ⟨(some 8), none, (.p .nilchk), [.tmp 7]⟩,
         ⟨(some 9), none, (.p (.faddr 1)), [.tmp 8]⟩,
         ⟨(some 10), none, .load1, [.tmp 9]⟩,
         ⟨(some 11), none, (.p (.cmp .eql)), [.tmp 10, .const (.int .i64 0)]⟩,
         ⟨(some 12), none, (.p .mv), [.tmp 11]⟩,
         ⟨(some 13), (some (12, true)), (.p .mv), [.tmp 0]⟩,
         ⟨(some 14), (some (12, true)), (.p .nilchk), [.tmp 13]⟩,
         ⟨(some 15), (some (12, true)), (.p (.faddr 0)), [.tmp 14]⟩,
         ⟨(some 16), (some (12, true)), .load1, [.tmp 15]⟩,
         ⟨(some 17), (some (12, true)), (.p .lenS), [.tmp 16]⟩,
         ⟨(some 18), (some (12, true)), (.p (.cmp .gtr)), [.tmp 17, .const (.int .i64 0)]⟩,
         ⟨(some 19), none, (.p .pick), [.tmp 12, .tmp 18, .const (.bool false)]⟩,
         ⟨(some 6), none, (.p .mv), [.tmp 19]⟩])
       (.cond (.tmp 6)
        (.seq
         (.ops [⟨(some 2), none, (.p .mv), [.const (.int .i64 11)]⟩])
         .ret)
        .skip)))))
   (.seq
    (.ops [⟨(some 20), none, (.p .mv), [.tmp 0]⟩,
      ⟨(some 21), none, (.p .nilchk), [.tmp 20]⟩,
      ⟨(some 22), none, (.p (.faddr 1)), [.tmp 21]⟩,
      ⟨(some 23), none, .load1, [.tmp 22]⟩,
      ⟨(some 2), none, (.p .mv), [.tmp 23]⟩])
    .ret))),
 [.t 2]⟩
theorem ir24_ok : cFn Try.prog Try.f24 = some ir24 := by kernel_rfl

/- pumice/codec.NewWriter -/
def ir25 : FIR := ⟨7,
 (.seq
  (.ops [⟨(some 2), none, (.p .mv), [.const (.pointer none)]⟩])
  (.seq
   (.ops [⟨(some 3), none, (.p .mv), [.tmp 0]⟩,
     ⟨(some 4), none, (.p .max), [.tmp 3, .const (.int .i64 0)]⟩,
     ⟨(some 5), none, (.p (.bldS #[(.slice none 0 0), (.int .i64 0), (.int .i64 0)] #[(0, 1), (1, 1), (2, 1)] [1])), [.tmp 4]⟩,
     ⟨(some 6), none, (.box 61), [.tmp 5]⟩,
     ⟨(some 2), none, (.p .mv), [.tmp 6]⟩])
   .ret)),
 [.t 2]⟩
theorem ir25_ok : cFn Try.prog Try.f25 = some ir25 := by kernel_rfl

/- (*pumice/codec.Writer).Raw -/
def ir26 : FIR := ⟨17,
 (.seq
  (.ops [⟨(some 4), none, (.p .mv), [.tmp 0]⟩,
    ⟨(some 5), none, (.p .mv), [.tmp 1]⟩,
    ⟨(some 6), none, (.p .lenS), [.tmp 5]⟩,
    ⟨(some 7), none, (.call 32), [.tmp 4, .tmp 6]⟩])
  (.cond (.tmp 7)
   (.ops [⟨(some 8), none, (.p .mv), [.tmp 0]⟩,
     ⟨(some 9), none, (.p .mv), [.tmp 0]⟩,
     ⟨(some 10), none, (.p .nilchk), [.tmp 9]⟩,
     ⟨(some 11), none, (.p (.faddr 0)), [.tmp 10]⟩,
     ⟨(some 12), none, .load1, [.tmp 11]⟩,
     ⟨(some 13), none, (.p .mv), [.tmp 1]⟩,
     ⟨(some 14), none, (.app 23 5 1 1 #[(.int .u8 0)]), [.tmp 12, .tmp 13]⟩,
     ⟨(some 15), none, (.p .nilchk), [.tmp 8]⟩,
     ⟨(some 16), none, (.p (.faddr 0)), [.tmp 15]⟩,
     ⟨none, none, .store1, [.tmp 16, .tmp 14]⟩])
   .skip)),
 []⟩
theorem ir26_ok : cFn Try.prog Try.f26 = some ir26 := by kernel_rfl

/- (*pumice/codec.Writer).Num -/
def ir27 : FIR := ⟨47,
 (.seq
  (.seq
   (.ops [⟨(some 6), none, (.p .mv), [.tmp 0]⟩,
     ⟨(some 7), none, (.p (.isnil true)), [.tmp 6, .const (.pointer none)]⟩,
     ⟨(some 8), none, (.p .mv), [.tmp 7]⟩,
     ⟨(some 9), (some (8, true)), (.p .mv), [.tmp 0]⟩,
     ⟨(some 10), (some (8, true)), (.p .nilchk), [.tmp 9]⟩,
     ⟨(some 11), (some (8, true)), (.p (.faddr 2)), [.tmp 10]⟩,
     ⟨(some 12), (some (8, true)), .load1, [.tmp 11]⟩,
     ⟨(some 13), (some (8, true)), (.p (.cmp .eql)), [.tmp 12, .const (.int .i64 0)]⟩,
     ⟨(some 14), none, (.p .pick), [.tmp 8, .tmp 13, .const (.bool false)]⟩,
     ⟨(some 15), none, (.p .mv), [.tmp 14]⟩,
     ⟨(some 16), (some (15, true)), (.p .mv), [.tmp 2]⟩,
     ⟨(some 17), (some (15, true)), (.p (.cmp .lss)), [.tmp 16, .const (.int .i64 0)]⟩,
     ⟨(some 18), (some (15, true)), (.p .mv), [.tmp 17]⟩,
     ⟨(some 19), (some (18, false)), (.p .mv), [.tmp 2]⟩,
     ⟨(some 20), (some (18, false)), (.p (.cmp .gtr)), [.tmp 19, .const (.int .i64 8)]⟩,
     ⟨(some 21), (some (15, true)), (.p .pick), [.tmp 18, .const (.bool true), .tmp 20]⟩,
     ⟨(some 22), none, (.p .pick), [.tmp 15, .tmp 21, .const (.bool false)]⟩])
   (.cond (.tmp 22)
    (.ops [⟨(some 23), none, (.p .mv), [.tmp 0]⟩,
      ⟨(some 24), none, (.p .nilchk), [.tmp 23]⟩,
      ⟨(some 25), none, (.p (.faddr 2)), [.tmp 24]⟩,
      ⟨none, none, .store1, [.tmp 25, .const (.int .i64 1)]⟩])
    .skip))
  (.seq
   (.seq
    (.ops [⟨(some 26), none, (.p .mv), [.tmp 0]⟩,
      ⟨(some 27), none, (.p .mv), [.tmp 2]⟩,
      ⟨(some 28), none, (.call 32), [.tmp 26, .tmp 27]⟩,
      ⟨(some 29), none, (.p .not), [.tmp 28]⟩])
    (.cond (.tmp 29)
     .ret
     .skip))
   (.seq
    (.ops [⟨(some 30), none, (.p .mv), [.tmp 2]⟩,
      ⟨(some 31), none, (.p .mv), [.const (.int .i64 0)]⟩])
    (.block 0
     (.loop
      (.seq
       (.ops [⟨(some 32), none, (.p (.cmp .lss)), [.tmp 31, .tmp 30]⟩])
       (.seq
        (.cond (.tmp 32)
         .skip
         (.exit 0))
        (.seq
         (.block 1
          (.seq
           (.ops [⟨(some 33), none, (.p .mv), [.tmp 0]⟩,
             ⟨(some 34), none, (.p .mv), [.tmp 0]⟩,
             ⟨(some 35), none, (.p .nilchk), [.tmp 34]⟩,
             ⟨(some 36), none, (.p (.faddr 0)), [.tmp 35]⟩,
             ⟨(some 37), none, .load1, [.tmp 36]⟩,
             ⟨(some 38), none, (.p .mv), [.tmp 1]⟩,
             ⟨(some 39), none, (.p (.conv .u8)), [.tmp 38]⟩,
             ⟨(some 40), none, (.bldSl 5 1 1 #[(.int .u8 0)] [0]), [.tmp 39]⟩,
             ⟨(some 41), none, (.app 23 5 1 1 #[(.int .u8 0)]), [.tmp 37, .tmp 40]⟩,
             ⟨(some 42), none, (.p .nilchk), [.tmp 33]⟩,
             ⟨(some 43), none, (.p (.faddr 0)), [.tmp 42]⟩,
             ⟨none, none, .store1, [.tmp 43, .tmp 41]⟩])
           (.ops [⟨(some 44), none, (.p .mv), [.tmp 1]⟩,
             ⟨(some 45), none, (.p (.bin .shr)), [.tmp 44, .const (.int .u64 8)]⟩,
             ⟨(some 1), none, (.p .mv), [.tmp 45]⟩])))
         (.ops [⟨(some 46), none, (.p (.bin .add)), [.tmp 31, .const (.int .i64 1)]⟩,
           ⟨(some 31), none, (.p .mv), [.tmp 46]⟩]))))))))),
 []⟩
theorem ir27_ok : cFn Try.prog Try.f27 = some ir27 := by kernel_rfl

/- (*pumice/codec.Writer).Out -/
def ir28 : FIR := ⟨15,
 (.seq
  (.ops [⟨(some 2), none, (.p .mv), [.const (.slice none 0 0)]⟩,
    ⟨(some 3), none, (.p .mv), [.const (.int .i64 0)]⟩])
  (.seq
   (.seq
    (.ops [⟨(some 4), none, (.p .mv), [.tmp 0]⟩,
      ⟨(some 5), none, (.p (.isnil false)), [.tmp 4, .const (.pointer none)]⟩])
    (.cond (.tmp 5)
     (.seq
      (.ops [⟨(some 2), none, (.p .mv), [.const (.slice none 0 0)]⟩,
        ⟨(some 3), none, (.p .mv), [.const (.int .i64 0)]⟩])
      .ret)
     .skip))
   (.seq
    (.draw [⟨(some 6), none, (.p .mv), [.tmp 0]⟩,
      ⟨(some 7), none, (.p .nilchk), [.tmp 6]⟩,
      ⟨(some 8), none, (.p (.faddr 0)), [.tmp 7]⟩,
      ⟨(some 9), none, .load1, [.tmp 8]⟩,
      ⟨(some 10), none, (.app 23 5 1 1 #[(.int .u8 0)]), [.const (.slice none 0 0), .tmp 9]⟩,
      ⟨(some 11), none, (.p .mv), [.tmp 0]⟩,
      ⟨(some 12), none, (.p .nilchk), [.tmp 11]⟩,
      ⟨(some 13), none, (.p (.faddr 2)), [.tmp 12]⟩,
      ⟨(some 14), none, .load1, [.tmp 13]⟩,
      ⟨(some 2), none, (.p .mv), [.tmp 10]⟩,
      ⟨(some 3), none, (.p .mv), [.tmp 14]⟩] (.pu 0 (.pu 1 (.pu 2 (.pu 5 (.pu 6 (.pu 7 (.fl 3 (.fl 8 (.act true 4 [3] (.pu 9 (.pu 10 .done)) .stop))))))))))
    .ret))),
 [.t 2, .t 3]⟩
theorem ir28_ok : cFn Try.prog Try.f28 = some ir28 := by kernel_rfl

/- pumice/pumiceref01.Num -/
def ir29 : FIR := ⟨21,
 (.seq
  (.ops [⟨(some 4), none, (.p .mv), [.const (.slice none 0 0)]⟩])
  (.seq
   (.ops [⟨(some 5), none, (.p .mv), [.const (.slice none 0 0)]⟩])
   (.seq
    (.seq
     (.ops [⟨(some 6), none, (.p .mv), [.const (.int .i64 0)]⟩])
     (.block 0
      (.loop
       (.seq
        (.seq
         (.ops [⟨(some 7), none, (.p .mv), [.tmp 6]⟩,
           ⟨(some 8), none, (.p .mv), [.tmp 1]⟩,
           ⟨(some 9), none, (.p (.cmp .lss)), [.tmp 7, .tmp 8]⟩])
         (.cond (.tmp 9)
          .skip
          (.exit 0)))
        (.seq
         (.block 1
          (.seq
           (.ops [⟨(some 12), none, (.p .mv), [.tmp 5]⟩,
             ⟨(some 13), none, (.p .mv), [.tmp 0]⟩,
             ⟨(some 14), none, (.p (.bin .rem)), [.tmp 13, .const (.int .u64 256)]⟩,
             ⟨(some 15), none, (.p (.conv .u8)), [.tmp 14]⟩,
             ⟨(some 16), none, (.bldSl 5 1 1 #[(.int .u8 0)] [0]), [.tmp 15]⟩,
             ⟨(some 17), none, (.app 23 5 1 1 #[(.int .u8 0)]), [.tmp 12, .tmp 16]⟩,
             ⟨(some 5), none, (.p .mv), [.tmp 17]⟩])
           (.ops [⟨(some 18), none, (.p .mv), [.tmp 0]⟩,
             ⟨(some 19), none, (.p (.bin .quo)), [.tmp 18, .const (.int .u64 256)]⟩,
             ⟨(some 0), none, (.p .mv), [.tmp 19]⟩])))
         (.ops [⟨(some 10), none, (.p .mv), [.tmp 6]⟩,
           ⟨(some 11), none, (.p (.bin .add)), [.tmp 10, .const (.int .i64 1)]⟩,
           ⟨(some 6), none, (.p .mv), [.tmp 11]⟩]))))))
    (.seq
     (.ops [⟨(some 20), none, (.p .mv), [.tmp 5]⟩,
       ⟨(some 4), none, (.p .mv), [.tmp 20]⟩])
     .ret)))),
 [.t 4]⟩
theorem ir29_ok : cFn Try.prog Try.f29 = some ir29 := by kernel_rfl

/- (*pumice/codec.Reader).there -/
def ir30 : FIR := ⟨32,
 (.seq
  (.ops [⟨(some 4), none, (.p .mv), [.const (.bool false)]⟩])
  (.seq
   (.block 0
    (.seq
     (.ops [⟨(some 6), none, (.p .mv), [.tmp 0]⟩,
       ⟨(some 7), none, (.p (.isnil false)), [.tmp 6, .const (.pointer none)]⟩,
       ⟨(some 8), none, (.p .mv), [.tmp 7]⟩,
       ⟨(some 9), (some (8, false)), (.p .mv), [.tmp 0]⟩,
       ⟨(some 10), (some (8, false)), (.p .nilchk), [.tmp 9]⟩,
       ⟨(some 11), (some (8, false)), (.p (.faddr 1)), [.tmp 10]⟩,
       ⟨(some 12), (some (8, false)), .load1, [.tmp 11]⟩,
       ⟨(some 13), (some (8, false)), (.p (.cmp .neq)), [.tmp 12, .const (.int .i64 0)]⟩,
       ⟨(some 14), none, (.p .pick), [.tmp 8, .const (.bool true), .tmp 13]⟩,
       ⟨(some 5), none, (.p .mv), [.tmp 14]⟩])
     (.cond (.tmp 5)
      (.seq
       (.ops [⟨(some 4), none, (.p .mv), [.const (.bool false)]⟩])
       .ret)
      (.seq
       (.ops [⟨(some 16), none, (.p .mv), [.tmp 1]⟩,
         ⟨(some 17), none, (.p (.cmp .lss)), [.tmp 16, .const (.int .i64 0)]⟩,
         ⟨(some 15), none, (.p .mv), [.tmp 17]⟩])
       (.cond (.tmp 15)
        (.seq
         (.ops [⟨(some 18), none, (.p .mv), [.tmp 0]⟩,
           ⟨(some 19), none, (.p .nilchk), [.tmp 18]⟩,
           ⟨(some 20), none, (.p (.faddr 1)), [.tmp 19]⟩,
           ⟨none, none, .store1, [.tmp 20, .const (.int .i64 1)]⟩])
         (.seq
          (.ops [⟨(some 4), none, (.p .mv), [.const (.bool false)]⟩])
          .ret))
        (.seq
         (.ops [⟨(some 22), none, (.p .mv), [.tmp 1]⟩,
           ⟨(some 23), none, (.p .mv), [.tmp 0]⟩,
           ⟨(some 24), none, (.p .nilchk), [.tmp 23]⟩,
           ⟨(some 25), none, (.p (.faddr 0)), [.tmp 24]⟩,
           ⟨(some 26), none, .load1, [.tmp 25]⟩,
           ⟨(some 27), none, (.p .lenS), [.tmp 26]⟩,
           ⟨(some 28), none, (.p (.cmp .gtr)), [.tmp 22, .tmp 27]⟩,
           ⟨(some 21), none, (.p .mv), [.tmp 28]⟩])
         (.cond (.tmp 21)
          (.seq
           (.ops [⟨(some 29), none, (.p .mv), [.tmp 0]⟩,
             ⟨(some 30), none, (.p .nilchk), [.tmp 29]⟩,
             ⟨(some 31), none, (.p (.faddr 1)), [.tmp 30]⟩,
             ⟨none, none, .store1, [.tmp 31, .const (.int .i64 10)]⟩])
           (.seq
            (.ops [⟨(some 4), none, (.p .mv), [.const (.bool false)]⟩])
            .ret))
          .skip)))))))
   (.seq
    (.ops [⟨(some 4), none, (.p .mv), [.const (.bool true)]⟩])
    .ret))),
 [.t 4]⟩
theorem ir30_ok : cFn Try.prog Try.f30 = some ir30 := by kernel_rfl

/- pumice/codec.number -/
def ir31 : FIR := ⟨22,
 (.seq
  (.ops [⟨(some 2), none, (.p .mv), [.const (.int .u64 0)]⟩])
  (.seq
   (.ops [⟨(some 3), none, (.p .mv), [.const (.int .u64 0)]⟩])
   (.seq
    (.seq
     (.ops [⟨(some 6), none, (.p .mv), [.tmp 0]⟩,
       ⟨(some 7), none, (.p .lenS), [.tmp 6]⟩,
       ⟨(some 8), none, (.p .mv), [.const (.int .i64 0)]⟩])
     (.block 0
      (.loop
       (.seq
        (.ops [⟨(some 9), none, (.p (.cmp .lss)), [.tmp 8, .tmp 7]⟩])
        (.seq
         (.cond (.tmp 9)
          .skip
          (.exit 0))
         (.seq
          (.block 1
           (.seq
            (.ops [⟨(some 10), none, (.p .mv), [.tmp 8]⟩,
              ⟨(some 11), none, (.p (.iaddrS 1)), [.tmp 6, .tmp 8]⟩,
              ⟨(some 12), none, .load1, [.tmp 11]⟩,
              ⟨(some 4), none, (.p .mv), [.tmp 10]⟩,
              ⟨(some 5), none, (.p .mv), [.tmp 12]⟩])
            (.ops [⟨(some 13), none, (.p .mv), [.tmp 3]⟩,
              ⟨(some 14), none, (.p .mv), [.tmp 5]⟩,
              ⟨(some 15), none, (.p (.conv .u64)), [.tmp 14]⟩,
              ⟨(some 16), none, (.p .mv), [.tmp 4]⟩,
              ⟨(some 17), none, (.p (.bin .mul)), [.const (.int .i64 8), .tmp 16]⟩,
              ⟨(some 18), none, (.p (.bin .shl)), [.tmp 15, .tmp 17]⟩,
              ⟨(some 19), none, (.p (.bin .or)), [.tmp 13, .tmp 18]⟩,
              ⟨(some 3), none, (.p .mv), [.tmp 19]⟩])))
          (.ops [⟨(some 20), none, (.p (.bin .add)), [.tmp 8, .const (.int .i64 1)]⟩,
            ⟨(some 8), none, (.p .mv), [.tmp 20]⟩])))))))
    (.seq
     (.ops [⟨(some 21), none, (.p .mv), [.tmp 3]⟩,
       ⟨(some 2), none, (.p .mv), [.tmp 21]⟩])
     .ret)))),
 [.t 2]⟩
theorem ir31_ok : cFn Try.prog Try.f31 = some ir31 := by kernel_rfl

/- (*pumice/codec.Writer).fits -/
def ir32 : FIR := ⟨29,
 (.seq
  (.ops [⟨(some 4), none, (.p .mv), [.const (.bool false)]⟩])
  (.seq
   (.seq
    (.ops [⟨(some 5), none, (.p .mv), [.tmp 0]⟩,
      ⟨(some 6), none, (.p (.isnil false)), [.tmp 5, .const (.pointer none)]⟩,
      ⟨(some 7), none, (.p .mv), [.tmp 6]⟩,
      ⟨(some 8), (some (7, false)), (.p .mv), [.tmp 0]⟩,
      ⟨(some 9), (some (7, false)), (.p .nilchk), [.tmp 8]⟩,
      ⟨(some 10), (some (7, false)), (.p (.faddr 2)), [.tmp 9]⟩,
      ⟨(some 11), (some (7, false)), .load1, [.tmp 10]⟩,
      ⟨(some 12), (some (7, false)), (.p (.cmp .neq)), [.tmp 11, .const (.int .i64 0)]⟩,
      ⟨(some 13), none, (.p .pick), [.tmp 7, .const (.bool true), .tmp 12]⟩])
    (.cond (.tmp 13)
     (.seq
      (.ops [⟨(some 4), none, (.p .mv), [.const (.bool false)]⟩])
      .ret)
     .skip))
   (.seq
    (.seq
     (.draw [⟨(some 14), none, (.p .mv), [.tmp 1]⟩,
       ⟨(some 15), none, (.p .mv), [.tmp 0]⟩,
       ⟨(some 16), none, (.p .nilchk), [.tmp 15]⟩,
       ⟨(some 17), none, (.p (.faddr 1)), [.tmp 16]⟩,
       ⟨(some 18), none, .load1, [.tmp 17]⟩,
       ⟨(some 19), none, (.p .mv), [.tmp 0]⟩,
       ⟨(some 20), none, (.p .nilchk), [.tmp 19]⟩,
       ⟨(some 21), none, (.p (.faddr 0)), [.tmp 20]⟩,
       ⟨(some 22), none, .load1, [.tmp 21]⟩,
       ⟨(some 23), none, (.p .lenS), [.tmp 22]⟩,
       ⟨(some 24), none, (.p (.bin .sub)), [.tmp 18, .tmp 23]⟩,
       ⟨(some 25), none, (.p (.cmp .gtr)), [.tmp 14, .tmp 24]⟩] (.pu 0 (.pu 1 (.pu 2 (.pu 3 (.pu 5 (.pu 6 (.pu 7 (.fl 4 (.fl 8 (.pu 9 (.pu 10 (.pu 11 .done)))))))))))))
     (.cond (.tmp 25)
      (.seq
       (.ops [⟨(some 26), none, (.p .mv), [.tmp 0]⟩,
         ⟨(some 27), none, (.p .nilchk), [.tmp 26]⟩,
         ⟨(some 28), none, (.p (.faddr 2)), [.tmp 27]⟩,
         ⟨none, none, .store1, [.tmp 28, .const (.int .i64 4)]⟩])
       (.seq
        (.ops [⟨(some 4), none, (.p .mv), [.const (.bool false)]⟩])
        .ret))
      .skip))
    (.seq
     (.ops [⟨(some 4), none, (.p .mv), [.const (.bool true)]⟩])
     .ret)))),
 [.t 4]⟩
theorem ir32_ok : cFn Try.prog Try.f32 = some ir32 := by kernel_rfl

/- NOT: 48 (*pumice/codec.Reader).Left: no body -/

end Go.Proofs.Ytfpjlinlmeojmaa
