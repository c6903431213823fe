/- The typed form of each function, by program (printir.py), checked by the kernel. -/
import Derived.Test.YtkbegghcphokmaaDenL
import Derived.Test.YtkbegghcphokmaaProg
import Derived.KernelRfl
set_option maxRecDepth 100000
namespace Go.Proofs.Ytkbegghcphokmaa

/- pumice/pumicelaw10.RecordLays -/
def ir3 : FIR := ⟨51,
 (.seq
  (.ops [⟨(some 1), none, (.box 30), [.tmp 0]⟩,
    ⟨(some 2), none, (.p .mv), [.const (.bool false)]⟩])
  (.seq
   (.ops [⟨(some 8), none, (.call 9), []⟩,
     ⟨(some 3), none, (.p .mv), [.tmp 8]⟩])
   (.seq
    (.seq
     (.ops [⟨(some 9), none, (.p (.faddr 36)), [.tmp 1]⟩,
       ⟨(some 10), none, .load1, [.tmp 9]⟩,
       ⟨(some 11), none, (.p .lenS), [.tmp 10]⟩,
       ⟨(some 12), none, (.p (.cmp .gtr)), [.tmp 11, .const (.int .i64 10000)]⟩])
     (.cond (.tmp 12)
      (.seq
       (.ops [⟨(some 13), none, (.p .mv), [.tmp 3]⟩,
         ⟨(some 2), none, (.p .mv), [.tmp 13]⟩])
       .ret)
      .skip))
    (.seq
     (.ops [⟨(some 15), none, (.loadN 37), [.tmp 1]⟩,
       ⟨(some 16), none, (.call 10), [.tmp 15]⟩,
       ⟨(some 14), none, (.p .mv), [.tmp 16]⟩,
       ⟨(some 17), none, (.p (.ext 0)), [.tmp 14]⟩,
       ⟨(some 18), none, (.p (.ext 1)), [.tmp 14]⟩,
       ⟨(some 4), none, (.p .mv), [.tmp 17]⟩,
       ⟨(some 5), none, (.p .mv), [.tmp 18]⟩])
     (.seq
      (.ops [⟨(some 20), none, (.loadN 37), [.tmp 1]⟩,
        ⟨(some 21), none, (.call 11), [.tmp 20]⟩,
        ⟨(some 19), none, (.p .mv), [.tmp 21]⟩,
        ⟨(some 22), none, (.p (.ext 0)), [.tmp 19]⟩,
        ⟨(some 23), none, (.p (.ext 1)), [.tmp 19]⟩,
        ⟨(some 6), none, (.p .mv), [.tmp 22]⟩,
        ⟨(some 7), none, (.p .mv), [.tmp 23]⟩])
      (.seq
       (.draw [⟨(some 24), none, (.p .mv), [.tmp 3]⟩,
         ⟨(some 25), none, (.p .mv), [.tmp 24]⟩,
         ⟨(some 26), (some (25, true)), (.loadN 37), [.tmp 1]⟩,
         ⟨(some 27), (some (25, true)), (.call 12), [.tmp 26]⟩,
         ⟨(some 28), (some (25, true)), (.loadN 37), [.tmp 1]⟩,
         ⟨(some 29), (some (25, true)), (.call 13), [.tmp 28]⟩,
         ⟨(some 30), (some (25, true)), (.p (.beq false)), [.tmp 27, .tmp 29]⟩,
         ⟨(some 31), none, (.p .pick), [.tmp 25, .tmp 30, .const (.bool false)]⟩,
         ⟨(some 32), none, (.p .mv), [.tmp 31]⟩,
         ⟨(some 33), (some (32, true)), (.p .mv), [.tmp 4]⟩,
         ⟨(some 34), (some (32, true)), .b2s, [.tmp 33]⟩,
         ⟨(some 35), (some (32, true)), (.p .mv), [.tmp 6]⟩,
         ⟨(some 36), (some (32, true)), .b2s, [.tmp 35]⟩,
         ⟨(some 37), (some (32, true)), (.p (.seq false)), [.tmp 34, .tmp 36]⟩,
         ⟨(some 38), none, (.p .pick), [.tmp 32, .tmp 37, .const (.bool false)]⟩,
         ⟨(some 39), none, (.p .mv), [.tmp 38]⟩,
         ⟨(some 40), (some (39, true)), (.p .mv), [.tmp 5]⟩,
         ⟨(some 41), (some (39, true)), (.p .mv), [.tmp 7]⟩,
         ⟨(some 42), (some (39, true)), (.p (.cmp .eql)), [.tmp 40, .tmp 41]⟩,
         ⟨(some 43), none, (.p .pick), [.tmp 39, .tmp 42, .const (.bool false)]⟩,
         ⟨(some 44), none, (.p .mv), [.tmp 43]⟩,
         ⟨(some 45), (some (44, true)), (.loadN 37), [.tmp 1]⟩,
         ⟨(some 46), (some (44, true)), (.call 14), [.tmp 45]⟩,
         ⟨(some 47), (some (44, true)), (.loadN 37), [.tmp 1]⟩,
         ⟨(some 48), (some (44, true)), (.call 15), [.tmp 47]⟩,
         ⟨(some 49), (some (44, true)), (.p (.cmp .eql)), [.tmp 46, .tmp 48]⟩,
         ⟨(some 50), none, (.p .pick), [.tmp 44, .tmp 49, .const (.bool false)]⟩,
         ⟨(some 2), none, (.p .mv), [.tmp 50]⟩] (.pu 0 (.pu 1 (.fl 2 (.fl 4 (.act true 3 [1, 2] (.act true 5 [1, 3, 4] (.pu 6 (.pu 7 (.pu 8 (.pu 9 (.pu 11 (.act true 10 [8, 9] (.act true 12 [8, 11] (.pu 13 (.pu 14 (.pu 15 (.pu 16 (.pu 17 (.pu 18 (.pu 19 (.pu 20 (.fl 21 (.fl 23 (.act true 22 [20, 21] (.act true 24 [20, 22, 23] (.pu 25 (.pu 26 (.pu 27 .done))) .stop) .stop))))))))))) .stop) (.act false 12 [8, 11] (.act true 10 [8, 9] (.pu 13 (.pu 14 (.pu 15 (.pu 16 (.pu 17 (.pu 18 (.pu 19 (.pu 20 (.fl 21 (.fl 23 (.act true 22 [20, 21] (.act true 24 [20, 22, 23] (.pu 25 (.pu 26 (.pu 27 .done))) .stop) .stop))))))))))) .stop) .stop))))))) .stop) .stop))))))
       .ret)))))),
 [.t 2]⟩
theorem ir3_ok : cFn Try.prog Try.f3 = some ir3 := by kernel_rfl

/- pumice/pumicelaw10.RecordLong -/
def ir4 : FIR := ⟨61,
 (.seq
  (.ops [⟨(some 1), none, (.box 30), [.tmp 0]⟩,
    ⟨(some 2), none, (.p .mv), [.const (.bool false)]⟩])
  (.seq
   (.ops [⟨(some 7), none, (.call 9), []⟩,
     ⟨(some 3), none, (.p .mv), [.tmp 7]⟩])
   (.seq
    (.seq
     (.ops [⟨(some 8), none, (.p (.faddr 36)), [.tmp 1]⟩,
       ⟨(some 9), none, .load1, [.tmp 8]⟩,
       ⟨(some 10), none, (.p .lenS), [.tmp 9]⟩,
       ⟨(some 11), none, (.p (.cmp .gtr)), [.tmp 10, .const (.int .i64 10000)]⟩,
       ⟨(some 12), none, (.p .mv), [.tmp 11]⟩,
       ⟨(some 13), (some (12, false)), (.loadN 37), [.tmp 1]⟩,
       ⟨(some 14), (some (12, false)), (.call 12), [.tmp 13]⟩,
       ⟨(some 15), (some (12, false)), (.p .not), [.tmp 14]⟩,
       ⟨(some 16), none, (.p .pick), [.tmp 12, .const (.bool true), .tmp 15]⟩])
     (.cond (.tmp 16)
      (.seq
       (.ops [⟨(some 17), none, (.p .mv), [.tmp 3]⟩,
         ⟨(some 2), none, (.p .mv), [.tmp 17]⟩])
       .ret)
      .skip))
    (.seq
     (.ops [⟨(some 19), none, (.loadN 37), [.tmp 1]⟩,
       ⟨(some 20), none, (.call 10), [.tmp 19]⟩,
       ⟨(some 18), none, (.p .mv), [.tmp 20]⟩,
       ⟨(some 21), none, (.p (.ext 0)), [.tmp 18]⟩,
       ⟨(some 22), none, (.p (.ext 1)), [.tmp 18]⟩,
       ⟨(some 4), none, (.p .mv), [.tmp 21]⟩,
       ⟨(some 5), none, (.p .mv), [.tmp 22]⟩])
     (.seq
      (.ops [⟨(some 6), none, (.p .mv), [.const (.int .i64 1)]⟩])
      (.seq
       (.seq
        (.ops [⟨(some 23), none, (.p (.faddr 0)), [.tmp 1]⟩,
          ⟨(some 24), none, .load1, [.tmp 23]⟩])
        (.block 0
         (.seq
          (.ops [⟨(some 26), none, (.p (.cmp .eql)), [.tmp 24, .const (.int .u8 1)]⟩,
            ⟨(some 25), none, (.p .mv), [.tmp 26]⟩])
          (.cond (.tmp 25)
           (.ops [⟨(some 27), none, (.p (.faddr 36)), [.tmp 1]⟩,
             ⟨(some 28), none, .load1, [.tmp 27]⟩,
             ⟨(some 29), none, (.p .lenS), [.tmp 28]⟩,
             ⟨(some 30), none, (.p (.bin .add)), [.const (.int .i64 51), .tmp 29]⟩,
             ⟨(some 6), none, (.p .mv), [.tmp 30]⟩])
           (.seq
            (.ops [⟨(some 32), none, (.p (.cmp .eql)), [.tmp 24, .const (.int .u8 2)]⟩,
              ⟨(some 31), none, (.p .mv), [.tmp 32]⟩])
            (.cond (.tmp 31)
             (.ops [⟨(some 6), none, (.p .mv), [.const (.int .i64 13)]⟩])
             (.seq
              (.ops [⟨(some 34), none, (.p (.cmp .eql)), [.tmp 24, .const (.int .u8 3)]⟩,
                ⟨(some 33), none, (.p .mv), [.tmp 34]⟩])
              (.cond (.tmp 33)
               (.ops [⟨(some 6), none, (.p .mv), [.const (.int .i64 9)]⟩])
               (.seq
                (.ops [⟨(some 36), none, (.p (.cmp .eql)), [.tmp 24, .const (.int .u8 4)]⟩,
                  ⟨(some 35), none, (.p .mv), [.tmp 36]⟩])
                (.cond (.tmp 35)
                 (.ops [⟨(some 37), none, (.p (.faddr 36)), [.tmp 1]⟩,
                   ⟨(some 38), none, .load1, [.tmp 37]⟩,
                   ⟨(some 39), none, (.p .lenS), [.tmp 38]⟩,
                   ⟨(some 40), none, (.p (.bin .add)), [.const (.int .i64 39), .tmp 39]⟩,
                   ⟨(some 6), none, (.p .mv), [.tmp 40]⟩])
                 .skip))))))))))
       (.seq
        (.ops [⟨(some 41), none, (.p .mv), [.tmp 3]⟩,
          ⟨(some 42), none, (.p .mv), [.tmp 41]⟩,
          ⟨(some 43), (some (42, true)), (.p .mv), [.tmp 5]⟩,
          ⟨(some 44), (some (42, true)), (.p (.cmp .eql)), [.tmp 43, .const (.int .i64 0)]⟩,
          ⟨(some 45), none, (.p .pick), [.tmp 42, .tmp 44, .const (.bool false)]⟩,
          ⟨(some 46), none, (.p .mv), [.tmp 45]⟩,
          ⟨(some 47), (some (46, true)), (.p .mv), [.tmp 4]⟩,
          ⟨(some 48), (some (46, true)), (.p .lenS), [.tmp 47]⟩,
          ⟨(some 49), (some (46, true)), (.p .mv), [.tmp 6]⟩,
          ⟨(some 50), (some (46, true)), (.p (.cmp .eql)), [.tmp 48, .tmp 49]⟩,
          ⟨(some 51), none, (.p .pick), [.tmp 46, .tmp 50, .const (.bool false)]⟩,
          ⟨(some 52), none, (.p .mv), [.tmp 51]⟩,
          ⟨(some 53), (some (52, true)), (.loadN 37), [.tmp 1]⟩,
          ⟨(some 54), (some (52, true)), (.call 14), [.tmp 53]⟩,
          ⟨(some 55), (some (52, true)), (.p .mv), [.tmp 6]⟩,
          ⟨(some 56), (some (52, true)), (.p (.bin .add)), [.tmp 55, .const (.int .i64 125)]⟩,
          ⟨(some 57), (some (52, true)), (.p (.bin .sub)), [.tmp 56, .const (.int .i64 1)]⟩,
          ⟨(some 58), (some (52, true)), (.p (.bin .quo)), [.tmp 57, .const (.int .i64 125)]⟩,
          ⟨(some 59), (some (52, true)), (.p (.cmp .eql)), [.tmp 54, .tmp 58]⟩,
          ⟨(some 60), none, (.p .pick), [.tmp 52, .tmp 59, .const (.bool false)]⟩,
          ⟨(some 2), none, (.p .mv), [.tmp 60]⟩])
        .ret))))))),
 [.t 2]⟩
theorem ir4_ok : cFn Try.prog Try.f4 = some ir4 := by kernel_rfl

/- pumice/pumicelaw10.RecordTakes -/
def ir5 : FIR := ⟨51,
 (.seq
  (.ops [⟨(some 2), none, (.p .mv), [.const (.bool false)]⟩])
  (.seq
   (.ops [⟨(some 10), none, (.call 9), []⟩,
     ⟨(some 3), none, (.p .mv), [.tmp 10]⟩])
   (.seq
    (.seq
     (.ops [⟨(some 11), none, (.p .mv), [.tmp 0]⟩,
       ⟨(some 12), none, (.p .lenS), [.tmp 11]⟩,
       ⟨(some 13), none, (.p (.cmp .gtr)), [.tmp 12, .const (.int .i64 10000)]⟩])
     (.cond (.tmp 13)
      (.seq
       (.ops [⟨(some 14), none, (.p .mv), [.tmp 3]⟩,
         ⟨(some 2), none, (.p .mv), [.tmp 14]⟩])
       .ret)
      .skip))
    (.seq
     (.ops [⟨(some 15), none, (.bldSl 5 0 1 #[] []), []⟩,
       ⟨(some 16), none, (.p .mv), [.tmp 0]⟩,
       ⟨(some 17), none, (.app 28 5 1 1 #[(.int .u8 0)]), [.tmp 15, .tmp 16]⟩,
       ⟨(some 4), none, (.p .mv), [.tmp 17]⟩])
     (.seq
      (.ops [⟨(some 19), none, (.p .mv), [.tmp 4]⟩,
        ⟨(some 20), none, (.call 16), [.tmp 19]⟩,
        ⟨(some 18), none, (.p .mv), [.tmp 20]⟩,
        ⟨(some 21), none, (.p (.ext 0)), [.tmp 18]⟩,
        ⟨(some 22), none, (.p (.ext 1)), [.tmp 18]⟩,
        ⟨(some 5), none, (.alloc 30 (#[(.int .u8 0), (.int .u32 0), (.int .u64 0)] ++ Array.replicate 32 (.int .u8 0) ++ #[(.int .u32 0), (.slice none 0 0)])), []⟩,
        ⟨none, none, (.storeN 37), [.tmp 5, .tmp 21]⟩,
        ⟨(some 6), none, (.p .mv), [.tmp 22]⟩])
      (.seq
       (.ops [⟨(some 24), none, (.p .mv), [.tmp 0]⟩,
         ⟨(some 25), none, (.call 17), [.tmp 24]⟩,
         ⟨(some 23), none, (.p .mv), [.tmp 25]⟩,
         ⟨(some 26), none, (.p (.ext 0)), [.tmp 23]⟩,
         ⟨(some 27), none, (.p (.ext 1)), [.tmp 23]⟩,
         ⟨(some 7), none, (.alloc 30 (#[(.int .u8 0), (.int .u32 0), (.int .u64 0)] ++ Array.replicate 32 (.int .u8 0) ++ #[(.int .u32 0), (.slice none 0 0)])), []⟩,
         ⟨none, none, (.storeN 37), [.tmp 7, .tmp 26]⟩,
         ⟨(some 8), none, (.p .mv), [.tmp 27]⟩])
       (.seq
        (.seq
         (.ops [⟨(some 28), none, (.p .mv), [.tmp 4]⟩,
           ⟨(some 29), none, (.p .lenS), [.tmp 28]⟩,
           ⟨(some 30), none, (.p .mv), [.const (.int .i64 0)]⟩])
         (.block 0
          (.loop
           (.seq
            (.ops [⟨(some 31), none, (.p (.cmp .lss)), [.tmp 30, .tmp 29]⟩])
            (.seq
             (.cond (.tmp 31)
              .skip
              (.exit 0))
             (.seq
              (.block 1
               (.seq
                (.ops [⟨(some 32), none, (.p .mv), [.tmp 30]⟩,
                  ⟨(some 9), none, (.p .mv), [.tmp 32]⟩])
                (.ops [⟨(some 33), none, (.p .mv), [.tmp 4]⟩,
                  ⟨(some 34), none, (.p .mv), [.tmp 9]⟩,
                  ⟨(some 35), none, (.p (.iaddrS 1)), [.tmp 33, .tmp 34]⟩,
                  ⟨(some 36), none, .load1, [.tmp 35]⟩,
                  ⟨(some 37), none, (.p (.bin .xor)), [.tmp 36, .const (.int .u8 85)]⟩,
                  ⟨(some 38), none, (.p (.iaddrS 1)), [.tmp 33, .tmp 34]⟩,
                  ⟨none, none, .store1, [.tmp 38, .tmp 37]⟩])))
              (.ops [⟨(some 39), none, (.p (.bin .add)), [.tmp 30, .const (.int .i64 1)]⟩,
                ⟨(some 30), none, (.p .mv), [.tmp 39]⟩])))))))
        (.seq
         (.ops [⟨(some 40), none, (.p .mv), [.tmp 3]⟩,
           ⟨(some 41), none, (.p .mv), [.tmp 40]⟩,
           ⟨(some 42), (some (41, true)), (.loadN 37), [.tmp 5]⟩,
           ⟨(some 43), (some (41, true)), (.loadN 37), [.tmp 7]⟩,
           ⟨(some 44), (some (41, true)), (.call 18), [.tmp 42, .tmp 43]⟩,
           ⟨(some 45), none, (.p .pick), [.tmp 41, .tmp 44, .const (.bool false)]⟩,
           ⟨(some 46), none, (.p .mv), [.tmp 45]⟩,
           ⟨(some 47), (some (46, true)), (.p .mv), [.tmp 6]⟩,
           ⟨(some 48), (some (46, true)), (.p .mv), [.tmp 8]⟩,
           ⟨(some 49), (some (46, true)), (.p (.cmp .eql)), [.tmp 47, .tmp 48]⟩,
           ⟨(some 50), none, (.p .pick), [.tmp 46, .tmp 49, .const (.bool false)]⟩,
           ⟨(some 2), none, (.p .mv), [.tmp 50]⟩])
         .ret)))))))),
 [.t 2]⟩
theorem ir5_ok : cFn Try.prog Try.f5 = some ir5 := by kernel_rfl

/- pumice/pumicelaw10.RecordBack -/
def ir6 : FIR := ⟨70,
 (.seq
  (.ops [⟨(some 1), none, (.box 30), [.tmp 0]⟩,
    ⟨(some 2), none, (.p .mv), [.const (.bool false)]⟩])
  (.seq
   (.ops [⟨(some 8), none, (.call 9), []⟩,
     ⟨(some 3), none, (.p .mv), [.tmp 8]⟩])
   (.seq
    (.seq
     (.ops [⟨(some 9), none, (.p (.faddr 36)), [.tmp 1]⟩,
       ⟨(some 10), none, .load1, [.tmp 9]⟩,
       ⟨(some 11), none, (.p .lenS), [.tmp 10]⟩,
       ⟨(some 12), none, (.p (.cmp .gtr)), [.tmp 11, .const (.int .i64 10000)]⟩])
     (.cond (.tmp 12)
      (.seq
       (.ops [⟨(some 13), none, (.p .mv), [.tmp 3]⟩,
         ⟨(some 2), none, (.p .mv), [.tmp 13]⟩])
       .ret)
      .skip))
    (.seq
     (.ops [⟨(some 15), none, (.loadN 37), [.tmp 1]⟩,
       ⟨(some 16), none, (.call 10), [.tmp 15]⟩,
       ⟨(some 14), none, (.p .mv), [.tmp 16]⟩,
       ⟨(some 17), none, (.p (.ext 0)), [.tmp 14]⟩,
       ⟨(some 18), none, (.p (.ext 1)), [.tmp 14]⟩,
       ⟨(some 4), none, (.p .mv), [.tmp 17]⟩,
       ⟨(some 5), none, (.p .mv), [.tmp 18]⟩])
     (.seq
      (.ops [⟨(some 20), none, (.p .mv), [.tmp 4]⟩,
        ⟨(some 21), none, (.call 16), [.tmp 20]⟩,
        ⟨(some 19), none, (.p .mv), [.tmp 21]⟩,
        ⟨(some 22), none, (.p (.ext 0)), [.tmp 19]⟩,
        ⟨(some 23), none, (.p (.ext 1)), [.tmp 19]⟩,
        ⟨(some 6), none, (.alloc 30 (#[(.int .u8 0), (.int .u32 0), (.int .u64 0)] ++ Array.replicate 32 (.int .u8 0) ++ #[(.int .u32 0), (.slice none 0 0)])), []⟩,
        ⟨none, none, (.storeN 37), [.tmp 6, .tmp 22]⟩,
        ⟨(some 7), none, (.p .mv), [.tmp 23]⟩])
      (.seq
       (.seq
        (.ops [⟨(some 24), none, (.loadN 37), [.tmp 1]⟩,
          ⟨(some 25), none, (.call 12), [.tmp 24]⟩,
          ⟨(some 26), none, (.p .not), [.tmp 25]⟩])
        (.cond (.tmp 26)
         (.seq
          (.ops [⟨(some 27), none, (.p .mv), [.tmp 3]⟩,
            ⟨(some 28), none, (.p .mv), [.tmp 27]⟩,
            ⟨(some 29), (some (28, true)), (.p .mv), [.tmp 5]⟩,
            ⟨(some 30), (some (28, true)), (.p (.cmp .eql)), [.tmp 29, .const (.int .i64 1)]⟩,
            ⟨(some 31), none, (.p .pick), [.tmp 28, .tmp 30, .const (.bool false)]⟩,
            ⟨(some 32), none, (.p .mv), [.tmp 31]⟩,
            ⟨(some 33), (some (32, true)), (.p .mv), [.tmp 4]⟩,
            ⟨(some 34), (some (32, true)), (.p .lenS), [.tmp 33]⟩,
            ⟨(some 35), (some (32, true)), (.p (.cmp .eql)), [.tmp 34, .const (.int .i64 0)]⟩,
            ⟨(some 36), none, (.p .pick), [.tmp 32, .tmp 35, .const (.bool false)]⟩,
            ⟨(some 37), none, (.p .mv), [.tmp 36]⟩,
            ⟨(some 38), (some (37, true)), (.p .mv), [.tmp 7]⟩,
            ⟨(some 39), (some (37, true)), (.p (.cmp .eql)), [.tmp 38, .const (.int .i64 100)]⟩,
            ⟨(some 40), none, (.p .pick), [.tmp 37, .tmp 39, .const (.bool false)]⟩,
            ⟨(some 41), none, (.p .mv), [.tmp 40]⟩,
            ⟨(some 42), (some (41, true)), (.loadN 37), [.tmp 1]⟩,
            ⟨(some 43), (some (41, true)), (.call 14), [.tmp 42]⟩,
            ⟨(some 44), (some (41, true)), (.p (.cmp .eql)), [.tmp 43, .const (.int .i64 0)]⟩,
            ⟨(some 45), none, (.p .pick), [.tmp 41, .tmp 44, .const (.bool false)]⟩,
            ⟨(some 2), none, (.p .mv), [.tmp 45]⟩])
          .ret)
         .skip))
       (.seq
        (.ops [⟨(some 46), none, (.p .mv), [.tmp 3]⟩,
          ⟨(some 47), none, (.p .mv), [.tmp 46]⟩,
          ⟨(some 48), (some (47, true)), (.p .mv), [.tmp 5]⟩,
          ⟨(some 49), (some (47, true)), (.p (.cmp .eql)), [.tmp 48, .const (.int .i64 0)]⟩,
          ⟨(some 50), none, (.p .pick), [.tmp 47, .tmp 49, .const (.bool false)]⟩,
          ⟨(some 51), none, (.p .mv), [.tmp 50]⟩,
          ⟨(some 52), (some (51, true)), (.p .mv), [.tmp 7]⟩,
          ⟨(some 53), (some (51, true)), (.p (.cmp .eql)), [.tmp 52, .const (.int .i64 0)]⟩,
          ⟨(some 54), none, (.p .pick), [.tmp 51, .tmp 53, .const (.bool false)]⟩,
          ⟨(some 55), none, (.p .mv), [.tmp 54]⟩,
          ⟨(some 56), (some (55, true)), (.loadN 37), [.tmp 1]⟩,
          ⟨(some 57), (some (55, true)), (.loadN 37), [.tmp 6]⟩,
          ⟨(some 58), (some (55, true)), (.call 18), [.tmp 56, .tmp 57]⟩,
          ⟨(some 59), none, (.p .pick), [.tmp 55, .tmp 58, .const (.bool false)]⟩,
          ⟨(some 60), none, (.p .mv), [.tmp 59]⟩,
          ⟨(some 61), (some (60, true)), (.p .mv), [.tmp 4]⟩,
          ⟨(some 62), (some (60, true)), (.p .lenS), [.tmp 61]⟩,
          ⟨(some 63), (some (60, true)), (.p (.cmp .leq)), [.tmp 62, .const (.int .i64 400)]⟩,
          ⟨(some 64), none, (.p .pick), [.tmp 60, .tmp 63, .const (.bool false)]⟩,
          ⟨(some 65), none, (.p .mv), [.tmp 64]⟩,
          ⟨(some 66), (some (65, true)), (.loadN 37), [.tmp 1]⟩,
          ⟨(some 67), (some (65, true)), (.call 14), [.tmp 66]⟩,
          ⟨(some 68), (some (65, true)), (.p (.cmp .gtr)), [.tmp 67, .const (.int .i64 0)]⟩,
          ⟨(some 69), none, (.p .pick), [.tmp 65, .tmp 68, .const (.bool false)]⟩,
          ⟨(some 2), none, (.p .mv), [.tmp 69]⟩])
        .ret))))))),
 [.t 2]⟩
theorem ir6_ok : cFn Try.prog Try.f6 = some ir6 := by kernel_rfl

/- pumice/pumicelaw10.RecordOnce -/
def ir7 : FIR := ⟨48,
 (.seq
  (.ops [⟨(some 2), none, (.p .mv), [.const (.bool false)]⟩])
  (.seq
   (.ops [⟨(some 8), none, (.call 9), []⟩,
     ⟨(some 3), none, (.p .mv), [.tmp 8]⟩])
   (.seq
    (.seq
     (.ops [⟨(some 9), none, (.p .mv), [.tmp 0]⟩,
       ⟨(some 10), none, (.p .lenS), [.tmp 9]⟩,
       ⟨(some 11), none, (.p (.cmp .gtr)), [.tmp 10, .const (.int .i64 10000)]⟩])
     (.cond (.tmp 11)
      (.seq
       (.ops [⟨(some 12), none, (.p .mv), [.tmp 3]⟩,
         ⟨(some 2), none, (.p .mv), [.tmp 12]⟩])
       .ret)
      .skip))
    (.seq
     (.ops [⟨(some 14), none, (.p .mv), [.tmp 0]⟩,
       ⟨(some 15), none, (.call 16), [.tmp 14]⟩,
       ⟨(some 13), none, (.p .mv), [.tmp 15]⟩,
       ⟨(some 16), none, (.p (.ext 0)), [.tmp 13]⟩,
       ⟨(some 17), none, (.p (.ext 1)), [.tmp 13]⟩,
       ⟨(some 4), none, (.alloc 30 (#[(.int .u8 0), (.int .u32 0), (.int .u64 0)] ++ Array.replicate 32 (.int .u8 0) ++ #[(.int .u32 0), (.slice none 0 0)])), []⟩,
       ⟨none, none, (.storeN 37), [.tmp 4, .tmp 16]⟩,
       ⟨(some 5), none, (.p .mv), [.tmp 17]⟩])
     (.seq
      (.ops [⟨(some 19), none, (.loadN 37), [.tmp 4]⟩,
        ⟨(some 20), none, (.call 10), [.tmp 19]⟩,
        ⟨(some 18), none, (.p .mv), [.tmp 20]⟩,
        ⟨(some 21), none, (.p (.ext 0)), [.tmp 18]⟩,
        ⟨(some 22), none, (.p (.ext 1)), [.tmp 18]⟩,
        ⟨(some 6), none, (.p .mv), [.tmp 21]⟩,
        ⟨(some 7), none, (.p .mv), [.tmp 22]⟩])
      (.seq
       (.ops [⟨(some 23), none, (.p .mv), [.tmp 3]⟩,
         ⟨(some 24), none, (.p .mv), [.tmp 23]⟩,
         ⟨(some 25), (some (24, true)), (.p .mv), [.tmp 5]⟩,
         ⟨(some 26), (some (24, true)), (.p (.cmp .eql)), [.tmp 25, .const (.int .i64 0)]⟩,
         ⟨(some 27), (some (24, true)), (.p .mv), [.tmp 26]⟩,
         ⟨(some 28), (some (27, true)), (.p .mv), [.tmp 7]⟩,
         ⟨(some 29), (some (27, true)), (.p (.cmp .eql)), [.tmp 28, .const (.int .i64 0)]⟩,
         ⟨(some 30), (some (24, true)), (.p .pick), [.tmp 27, .tmp 29, .const (.bool false)]⟩,
         ⟨(some 31), (some (24, true)), (.p .mv), [.tmp 30]⟩,
         ⟨(some 32), (some (31, true)), (.p .mv), [.tmp 6]⟩,
         ⟨(some 33), (some (31, true)), .b2s, [.tmp 32]⟩,
         ⟨(some 34), (some (31, true)), (.p .mv), [.tmp 0]⟩,
         ⟨(some 35), (some (31, true)), .b2s, [.tmp 34]⟩,
         ⟨(some 36), (some (31, true)), (.p (.seq false)), [.tmp 33, .tmp 35]⟩,
         ⟨(some 37), (some (24, true)), (.p .pick), [.tmp 31, .tmp 36, .const (.bool false)]⟩,
         ⟨(some 38), (some (24, true)), (.p .mv), [.tmp 37]⟩,
         ⟨(some 39), (some (38, false)), (.p .mv), [.tmp 5]⟩,
         ⟨(some 40), (some (38, false)), (.p (.cmp .eql)), [.tmp 39, .const (.int .i64 100)]⟩,
         ⟨(some 41), (some (38, false)), (.p .mv), [.tmp 40]⟩,
         ⟨(some 42), (some (41, true)), (.loadN 37), [.tmp 4]⟩,
         ⟨(some 43), (some (41, true)), (.p (.bldS (#[(.int .u8 0), (.int .u32 0), (.int .u64 0)] ++ Array.replicate 32 (.int .u8 0) ++ #[(.int .u32 0), (.slice none 0 0)]) #[(0, 1), (1, 1), (2, 1), (3, 33), (36, 1)] [])), []⟩,
         ⟨(some 44), (some (41, true)), (.call 18), [.tmp 42, .tmp 43]⟩,
         ⟨(some 45), (some (38, false)), (.p .pick), [.tmp 41, .tmp 44, .const (.bool false)]⟩,
         ⟨(some 46), (some (24, true)), (.p .pick), [.tmp 38, .const (.bool true), .tmp 45]⟩,
         ⟨(some 47), none, (.p .pick), [.tmp 24, .tmp 46, .const (.bool false)]⟩,
         ⟨(some 2), none, (.p .mv), [.tmp 47]⟩])
       .ret)))))),
 [.t 2]⟩
theorem ir7_ok : cFn Try.prog Try.f7 = some ir7 := by kernel_rfl

/- pumice/pumicelaw10.RecordCut -/
def ir8 : FIR := ⟨75,
 (.seq
  (.ops [⟨(some 3), none, (.box 30), [.tmp 0]⟩,
    ⟨(some 6), none, (.p .mv), [.const (.bool false)]⟩])
  (.seq
   (.ops [⟨(some 14), none, (.call 9), []⟩,
     ⟨(some 7), none, (.p .mv), [.tmp 14]⟩])
   (.seq
    (.seq
     (.ops [⟨(some 15), none, (.p (.faddr 36)), [.tmp 3]⟩,
       ⟨(some 16), none, .load1, [.tmp 15]⟩,
       ⟨(some 17), none, (.p .lenS), [.tmp 16]⟩,
       ⟨(some 18), none, (.p (.cmp .gtr)), [.tmp 17, .const (.int .i64 10000)]⟩,
       ⟨(some 19), none, (.p .mv), [.tmp 18]⟩,
       ⟨(some 20), (some (19, false)), (.p .mv), [.tmp 2]⟩,
       ⟨(some 21), (some (19, false)), (.p .lenS), [.tmp 20]⟩,
       ⟨(some 22), (some (19, false)), (.p (.cmp .gtr)), [.tmp 21, .const (.int .i64 10000)]⟩,
       ⟨(some 23), none, (.p .pick), [.tmp 19, .const (.bool true), .tmp 22]⟩,
       ⟨(some 24), none, (.p .mv), [.tmp 23]⟩,
       ⟨(some 25), (some (24, false)), (.loadN 37), [.tmp 3]⟩,
       ⟨(some 26), (some (24, false)), (.call 12), [.tmp 25]⟩,
       ⟨(some 27), (some (24, false)), (.p .not), [.tmp 26]⟩,
       ⟨(some 28), none, (.p .pick), [.tmp 24, .const (.bool true), .tmp 27]⟩])
     (.cond (.tmp 28)
      (.seq
       (.ops [⟨(some 29), none, (.p .mv), [.tmp 7]⟩,
         ⟨(some 6), none, (.p .mv), [.tmp 29]⟩])
       .ret)
      .skip))
    (.seq
     (.ops [⟨(some 31), none, (.loadN 37), [.tmp 3]⟩,
       ⟨(some 32), none, (.call 10), [.tmp 31]⟩,
       ⟨(some 30), none, (.p .mv), [.tmp 32]⟩,
       ⟨(some 33), none, (.p (.ext 0)), [.tmp 30]⟩,
       ⟨(some 34), none, (.p (.ext 1)), [.tmp 30]⟩,
       ⟨(some 8), none, (.p .mv), [.tmp 33]⟩,
       ⟨(some 9), none, (.p .mv), [.tmp 34]⟩])
     (.seq
      (.seq
       (.ops [⟨(some 35), none, (.p .mv), [.tmp 9]⟩,
         ⟨(some 36), none, (.p (.cmp .neq)), [.tmp 35, .const (.int .i64 0)]⟩,
         ⟨(some 37), none, (.p .mv), [.tmp 36]⟩,
         ⟨(some 38), (some (37, false)), (.p .mv), [.tmp 8]⟩,
         ⟨(some 39), (some (37, false)), (.p .lenS), [.tmp 38]⟩,
         ⟨(some 40), (some (37, false)), (.p (.cmp .eql)), [.tmp 39, .const (.int .i64 0)]⟩,
         ⟨(some 41), none, (.p .pick), [.tmp 37, .const (.bool true), .tmp 40]⟩])
       (.cond (.tmp 41)
        (.seq
         (.ops [⟨(some 6), none, (.p .mv), [.const (.bool false)]⟩])
         .ret)
        .skip))
      (.seq
       (.ops [⟨(some 43), none, (.p .mv), [.tmp 8]⟩,
         ⟨(some 44), none, (.p .mv), [.tmp 1]⟩,
         ⟨(some 45), none, (.p (.conv .i64)), [.tmp 44]⟩,
         ⟨(some 46), none, (.p .mv), [.tmp 8]⟩,
         ⟨(some 47), none, (.p .lenS), [.tmp 46]⟩,
         ⟨(some 48), none, (.p (.bin .rem)), [.tmp 45, .tmp 47]⟩,
         ⟨(some 49), none, (.p (.cutS 1 false true false)), [.tmp 43, .tmp 48]⟩,
         ⟨(some 50), none, (.call 16), [.tmp 49]⟩,
         ⟨(some 42), none, (.p .mv), [.tmp 50]⟩,
         ⟨(some 51), none, (.p (.ext 0)), [.tmp 42]⟩,
         ⟨(some 52), none, (.p (.ext 1)), [.tmp 42]⟩,
         ⟨(some 10), none, (.alloc 30 (#[(.int .u8 0), (.int .u32 0), (.int .u64 0)] ++ Array.replicate 32 (.int .u8 0) ++ #[(.int .u32 0), (.slice none 0 0)])), []⟩,
         ⟨none, none, (.storeN 37), [.tmp 10, .tmp 51]⟩,
         ⟨(some 11), none, (.p .mv), [.tmp 52]⟩])
       (.seq
        (.ops [⟨(some 54), none, (.bldSl 5 0 1 #[] []), []⟩,
          ⟨(some 55), none, (.p .mv), [.tmp 8]⟩,
          ⟨(some 56), none, (.app 28 5 1 1 #[(.int .u8 0)]), [.tmp 54, .tmp 55]⟩,
          ⟨(some 57), none, (.p .mv), [.tmp 2]⟩,
          ⟨(some 58), none, (.app 28 5 1 1 #[(.int .u8 0)]), [.tmp 56, .tmp 57]⟩,
          ⟨(some 59), none, (.call 16), [.tmp 58]⟩,
          ⟨(some 53), none, (.p .mv), [.tmp 59]⟩,
          ⟨(some 60), none, (.p (.ext 0)), [.tmp 53]⟩,
          ⟨(some 61), none, (.p (.ext 1)), [.tmp 53]⟩,
          ⟨(some 12), none, (.alloc 30 (#[(.int .u8 0), (.int .u32 0), (.int .u64 0)] ++ Array.replicate 32 (.int .u8 0) ++ #[(.int .u32 0), (.slice none 0 0)])), []⟩,
          ⟨none, none, (.storeN 37), [.tmp 12, .tmp 60]⟩,
          ⟨(some 13), none, (.p .mv), [.tmp 61]⟩])
        (.seq
         (.ops [⟨(some 62), none, (.p .mv), [.tmp 7]⟩,
           ⟨(some 63), none, (.p .mv), [.tmp 62]⟩,
           ⟨(some 64), (some (63, true)), (.p .mv), [.tmp 11]⟩,
           ⟨(some 65), (some (63, true)), (.p (.cmp .eql)), [.tmp 64, .const (.int .i64 100)]⟩,
           ⟨(some 66), none, (.p .pick), [.tmp 63, .tmp 65, .const (.bool false)]⟩,
           ⟨(some 67), none, (.p .mv), [.tmp 66]⟩,
           ⟨(some 68), (some (67, true)), (.p .mv), [.tmp 13]⟩,
           ⟨(some 69), (some (67, true)), (.p (.cmp .eql)), [.tmp 68, .const (.int .i64 100)]⟩,
           ⟨(some 70), (some (67, true)), (.p .mv), [.tmp 2]⟩,
           ⟨(some 71), (some (67, true)), (.p .lenS), [.tmp 70]⟩,
           ⟨(some 72), (some (67, true)), (.p (.cmp .gtr)), [.tmp 71, .const (.int .i64 0)]⟩,
           ⟨(some 73), (some (67, true)), (.p (.beq false)), [.tmp 69, .tmp 72]⟩,
           ⟨(some 74), none, (.p .pick), [.tmp 67, .tmp 73, .const (.bool false)]⟩,
           ⟨(some 6), none, (.p .mv), [.tmp 74]⟩])
         .ret)))))))),
 [.t 6]⟩
theorem ir8_ok : cFn Try.prog Try.f8 = some ir8 := by kernel_rfl

/- pumice/pumicelaw10.shown -/
def ir9 : FIR := ⟨26,
 (.seq
  (.ops [⟨(some 0), none, (.p .mv), [.const (.bool false)]⟩])
  (.seq
   (.ops [⟨(some 4), none, (.p (.bldS (#[(.int .u8 0), (.int .u32 0), (.int .u64 0)] ++ Array.replicate 32 (.int .u8 0) ++ #[(.int .u32 0), (.slice none 0 0)]) #[(0, 1), (1, 1), (2, 1), (3, 33), (36, 1)] [0, 2])), [.const (.int .u8 3), .const (.int .u64 5)]⟩,
     ⟨(some 5), none, (.call 10), [.tmp 4]⟩,
     ⟨(some 3), none, (.p .mv), [.tmp 5]⟩,
     ⟨(some 6), none, (.p (.ext 0)), [.tmp 3]⟩,
     ⟨(some 7), none, (.p (.ext 1)), [.tmp 3]⟩,
     ⟨(some 1), none, (.p .mv), [.tmp 6]⟩,
     ⟨(some 2), none, (.p .mv), [.tmp 7]⟩])
   (.seq
    (.ops [⟨(some 8), none, (.p .mv), [.tmp 2]⟩,
      ⟨(some 9), none, (.p (.cmp .eql)), [.tmp 8, .const (.int .i64 0)]⟩,
      ⟨(some 10), none, (.p .mv), [.tmp 9]⟩,
      ⟨(some 11), (some (10, true)), (.p .mv), [.tmp 1]⟩,
      ⟨(some 12), (some (10, true)), .b2s, [.tmp 11]⟩,
      ⟨(some 13), (some (10, true)), (.p (.seq false)), [.tmp 12, .const (.string ⟨#[3, 5, 0, 0, 0, 0, 0, 0, 0]⟩)]⟩,
      ⟨(some 14), none, (.p .pick), [.tmp 10, .tmp 13, .const (.bool false)]⟩,
      ⟨(some 15), none, (.p .mv), [.tmp 14]⟩,
      ⟨(some 16), (some (15, true)), (.p (.bldS (#[(.int .u8 0), (.int .u32 0), (.int .u64 0)] ++ Array.replicate 32 (.int .u8 0) ++ #[(.int .u32 0), (.slice none 0 0)]) #[(0, 1), (1, 1), (2, 1), (3, 33), (36, 1)] [0, 2])), [.const (.int .u8 3), .const (.int .u64 5)]⟩,
      ⟨(some 17), (some (15, true)), (.call 14), [.tmp 16]⟩,
      ⟨(some 18), (some (15, true)), (.p (.cmp .eql)), [.tmp 17, .const (.int .i64 1)]⟩,
      ⟨(some 19), none, (.p .pick), [.tmp 15, .tmp 18, .const (.bool false)]⟩,
      ⟨(some 20), none, (.p .mv), [.tmp 19]⟩,
      ⟨(some 21), (some (20, true)), (.mkS 5 1 1 #[(.int .u8 0)]), [.const (.int .i64 300), .const (.int .i64 300)]⟩,
      ⟨(some 22), (some (20, true)), (.p (.bldS (#[(.int .u8 0), (.int .u32 0), (.int .u64 0)] ++ Array.replicate 32 (.int .u8 0) ++ #[(.int .u32 0), (.slice none 0 0)]) #[(0, 1), (1, 1), (2, 1), (3, 33), (36, 1)] [0, 4])), [.const (.int .u8 1), .tmp 21]⟩,
      ⟨(some 23), (some (20, true)), (.call 14), [.tmp 22]⟩,
      ⟨(some 24), (some (20, true)), (.p (.cmp .eql)), [.tmp 23, .const (.int .i64 3)]⟩,
      ⟨(some 25), none, (.p .pick), [.tmp 20, .tmp 24, .const (.bool false)]⟩,
      ⟨(some 0), none, (.p .mv), [.tmp 25]⟩])
    .ret))),
 [.t 0]⟩
theorem ir9_ok : cFn Try.prog Try.f9 = some ir9 := by kernel_rfl

/- pumice/record.Lay -/
def ir10 : FIR := ⟨55,
 (.seq
  (.ops [⟨(some 1), none, (.box 30), [.tmp 0]⟩,
    ⟨(some 2), none, (.p .mv), [.const (.slice none 0 0)]⟩,
    ⟨(some 3), none, (.p .mv), [.const (.int .i64 0)]⟩])
  (.seq
   (.seq
    (.ops [⟨(some 6), none, (.loadN 37), [.tmp 1]⟩,
      ⟨(some 7), none, (.call 12), [.tmp 6]⟩,
      ⟨(some 8), none, (.p .not), [.tmp 7]⟩])
    (.cond (.tmp 8)
     (.seq
      (.ops [⟨(some 2), none, (.p .mv), [.const (.slice none 0 0)]⟩,
        ⟨(some 3), none, (.p .mv), [.const (.int .i64 1)]⟩])
      .ret)
     .skip))
   (.seq
    (.ops [⟨(some 9), none, (.p (.faddr 0)), [.tmp 1]⟩,
      ⟨(some 10), none, .load1, [.tmp 9]⟩,
      ⟨(some 11), none, (.call 19), [.tmp 10]⟩,
      ⟨(some 4), none, (.p .mv), [.tmp 11]⟩])
    (.seq
     (.ops [⟨(some 12), none, (.call 20), [.const (.int .i64 400)]⟩,
       ⟨(some 5), none, (.p .mv), [.tmp 12]⟩])
     (.seq
      (.ops [⟨(some 13), none, (.p .mv), [.tmp 5]⟩,
        ⟨(some 14), none, (.p (.faddr 0)), [.tmp 1]⟩,
        ⟨(some 15), none, .load1, [.tmp 14]⟩,
        ⟨(some 16), none, (.p (.conv .u64)), [.tmp 15]⟩,
        ⟨(some 17), none, (.call 21), [.tmp 13, .tmp 16, .const (.int .i64 1)]⟩])
      (.seq
       (.seq
        (.ops [⟨(some 18), none, (.p .mv), [.tmp 4]⟩,
          ⟨(some 19), none, (.p (.bin .and)), [.tmp 18, .const (.int .i64 1)]⟩,
          ⟨(some 20), none, (.p (.cmp .neq)), [.tmp 19, .const (.int .i64 0)]⟩])
        (.cond (.tmp 20)
         (.ops [⟨(some 21), none, (.p .mv), [.tmp 5]⟩,
           ⟨(some 22), none, (.p (.faddr 1)), [.tmp 1]⟩,
           ⟨(some 23), none, .load1, [.tmp 22]⟩,
           ⟨(some 24), none, (.p (.conv .u64)), [.tmp 23]⟩,
           ⟨(some 25), none, (.call 21), [.tmp 21, .tmp 24, .const (.int .i64 4)]⟩])
         .skip))
       (.seq
        (.seq
         (.ops [⟨(some 26), none, (.p .mv), [.tmp 4]⟩,
           ⟨(some 27), none, (.p (.bin .and)), [.tmp 26, .const (.int .i64 2)]⟩,
           ⟨(some 28), none, (.p (.cmp .neq)), [.tmp 27, .const (.int .i64 0)]⟩])
         (.cond (.tmp 28)
          (.ops [⟨(some 29), none, (.p .mv), [.tmp 5]⟩,
            ⟨(some 30), none, (.p (.faddr 2)), [.tmp 1]⟩,
            ⟨(some 31), none, .load1, [.tmp 30]⟩,
            ⟨(some 32), none, (.call 21), [.tmp 29, .tmp 31, .const (.int .i64 8)]⟩])
          .skip))
        (.seq
         (.seq
          (.ops [⟨(some 33), none, (.p .mv), [.tmp 4]⟩,
            ⟨(some 34), none, (.p (.bin .and)), [.tmp 33, .const (.int .i64 4)]⟩,
            ⟨(some 35), none, (.p (.cmp .neq)), [.tmp 34, .const (.int .i64 0)]⟩])
          (.cond (.tmp 35)
           (.seq
            (.ops [⟨(some 36), none, (.p .mv), [.tmp 5]⟩,
              ⟨(some 37), none, (.p (.faddr 3)), [.tmp 1]⟩,
              ⟨(some 38), none, (.p (.faddr 0)), [.tmp 37]⟩,
              ⟨(some 39), none, (.p (.cutA 32 1 false false false)), [.tmp 38]⟩,
              ⟨(some 40), none, (.call 22), [.tmp 36, .tmp 39]⟩])
            (.seq
             (.ops [⟨(some 41), none, (.p .mv), [.tmp 5]⟩,
               ⟨(some 42), none, (.p (.faddr 3)), [.tmp 1]⟩,
               ⟨(some 43), none, (.p (.faddr 32)), [.tmp 42]⟩,
               ⟨(some 44), none, .load1, [.tmp 43]⟩,
               ⟨(some 45), none, (.p (.conv .u64)), [.tmp 44]⟩,
               ⟨(some 46), none, (.call 21), [.tmp 41, .tmp 45, .const (.int .i64 4)]⟩])
             (.ops [⟨(some 47), none, (.p .mv), [.tmp 5]⟩,
               ⟨(some 48), none, (.p (.faddr 36)), [.tmp 1]⟩,
               ⟨(some 49), none, .load1, [.tmp 48]⟩,
               ⟨(some 50), none, (.call 23), [.tmp 47, .tmp 49]⟩])))
           .skip))
         (.seq
          (.ops [⟨(some 51), none, (.p .mv), [.tmp 5]⟩,
            ⟨(some 52), none, (.call 24), [.tmp 51]⟩,
            ⟨(some 53), none, (.p (.ext 0)), [.tmp 52]⟩,
            ⟨(some 54), none, (.p (.ext 1)), [.tmp 52]⟩,
            ⟨(some 2), none, (.p .mv), [.tmp 53]⟩,
            ⟨(some 3), none, (.p .mv), [.tmp 54]⟩])
          .ret))))))))),
 [.t 2, .t 3]⟩
theorem ir10_ok : cFn Try.prog Try.f10 = some ir10 := by kernel_rfl

/- pumice/pumiceref10.Lay -/
def ir11 : FIR := ⟨65,
 (.seq
  (.ops [⟨(some 1), none, (.box 30), [.tmp 0]⟩,
    ⟨(some 2), none, (.p .mv), [.const (.slice none 0 0)]⟩,
    ⟨(some 3), none, (.p .mv), [.const (.int .i64 0)]⟩])
  (.seq
   (.seq
    (.ops [⟨(some 5), none, (.loadN 37), [.tmp 1]⟩,
      ⟨(some 6), none, (.call 13), [.tmp 5]⟩,
      ⟨(some 7), none, (.p .not), [.tmp 6]⟩])
    (.cond (.tmp 7)
     (.seq
      (.ops [⟨(some 2), none, (.p .mv), [.const (.slice none 0 0)]⟩,
        ⟨(some 3), none, (.p .mv), [.const (.int .i64 1)]⟩])
      .ret)
     .skip))
   (.seq
    (.ops [⟨(some 8), none, (.p (.faddr 0)), [.tmp 1]⟩,
      ⟨(some 9), none, .load1, [.tmp 8]⟩,
      ⟨(some 10), none, (.bldSl 5 1 1 #[(.int .u8 0)] [0]), [.tmp 9]⟩,
      ⟨(some 4), none, (.p .mv), [.tmp 10]⟩])
    (.seq
     (.seq
      (.ops [⟨(some 11), none, (.p (.faddr 0)), [.tmp 1]⟩,
        ⟨(some 12), none, .load1, [.tmp 11]⟩,
        ⟨(some 13), none, (.p (.cmp .eql)), [.tmp 12, .const (.int .u8 1)]⟩,
        ⟨(some 14), none, (.p .mv), [.tmp 13]⟩,
        ⟨(some 15), (some (14, false)), (.p (.faddr 0)), [.tmp 1]⟩,
        ⟨(some 16), (some (14, false)), .load1, [.tmp 15]⟩,
        ⟨(some 17), (some (14, false)), (.p (.cmp .eql)), [.tmp 16, .const (.int .u8 2)]⟩,
        ⟨(some 18), none, (.p .pick), [.tmp 14, .const (.bool true), .tmp 17]⟩])
      (.cond (.tmp 18)
       (.ops [⟨(some 19), none, (.p .mv), [.tmp 4]⟩,
         ⟨(some 20), none, (.p (.faddr 1)), [.tmp 1]⟩,
         ⟨(some 21), none, .load1, [.tmp 20]⟩,
         ⟨(some 22), none, (.p (.conv .u64)), [.tmp 21]⟩,
         ⟨(some 23), none, (.call 25), [.tmp 22, .const (.int .i64 4)]⟩,
         ⟨(some 24), none, (.app 28 5 1 1 #[(.int .u8 0)]), [.tmp 19, .tmp 23]⟩,
         ⟨(some 4), none, (.p .mv), [.tmp 24]⟩])
       .skip))
     (.seq
      (.seq
       (.ops [⟨(some 25), none, (.p (.faddr 0)), [.tmp 1]⟩,
         ⟨(some 26), none, .load1, [.tmp 25]⟩,
         ⟨(some 27), none, (.p (.cmp .neq)), [.tmp 26, .const (.int .u8 4)]⟩])
       (.cond (.tmp 27)
        (.ops [⟨(some 28), none, (.p .mv), [.tmp 4]⟩,
          ⟨(some 29), none, (.p (.faddr 2)), [.tmp 1]⟩,
          ⟨(some 30), none, .load1, [.tmp 29]⟩,
          ⟨(some 31), none, (.call 25), [.tmp 30, .const (.int .i64 8)]⟩,
          ⟨(some 32), none, (.app 28 5 1 1 #[(.int .u8 0)]), [.tmp 28, .tmp 31]⟩,
          ⟨(some 4), none, (.p .mv), [.tmp 32]⟩])
        .skip))
      (.seq
       (.seq
        (.ops [⟨(some 33), none, (.p (.faddr 0)), [.tmp 1]⟩,
          ⟨(some 34), none, .load1, [.tmp 33]⟩,
          ⟨(some 35), none, (.p (.cmp .eql)), [.tmp 34, .const (.int .u8 1)]⟩,
          ⟨(some 36), none, (.p .mv), [.tmp 35]⟩,
          ⟨(some 37), (some (36, false)), (.p (.faddr 0)), [.tmp 1]⟩,
          ⟨(some 38), (some (36, false)), .load1, [.tmp 37]⟩,
          ⟨(some 39), (some (36, false)), (.p (.cmp .eql)), [.tmp 38, .const (.int .u8 4)]⟩,
          ⟨(some 40), none, (.p .pick), [.tmp 36, .const (.bool true), .tmp 39]⟩])
        (.cond (.tmp 40)
         (.seq
          (.ops [⟨(some 41), none, (.p .mv), [.tmp 4]⟩,
            ⟨(some 42), none, (.p (.faddr 3)), [.tmp 1]⟩,
            ⟨(some 43), none, (.p (.faddr 0)), [.tmp 42]⟩,
            ⟨(some 44), none, (.p (.cutA 32 1 false false false)), [.tmp 43]⟩,
            ⟨(some 45), none, (.app 28 5 1 1 #[(.int .u8 0)]), [.tmp 41, .tmp 44]⟩,
            ⟨(some 4), none, (.p .mv), [.tmp 45]⟩])
          (.seq
           (.ops [⟨(some 46), none, (.p .mv), [.tmp 4]⟩,
             ⟨(some 47), none, (.p (.faddr 3)), [.tmp 1]⟩,
             ⟨(some 48), none, (.p (.faddr 32)), [.tmp 47]⟩,
             ⟨(some 49), none, .load1, [.tmp 48]⟩,
             ⟨(some 50), none, (.p (.conv .u64)), [.tmp 49]⟩,
             ⟨(some 51), none, (.call 25), [.tmp 50, .const (.int .i64 4)]⟩,
             ⟨(some 52), none, (.app 28 5 1 1 #[(.int .u8 0)]), [.tmp 46, .tmp 51]⟩,
             ⟨(some 4), none, (.p .mv), [.tmp 52]⟩])
           (.seq
            (.ops [⟨(some 53), none, (.p .mv), [.tmp 4]⟩,
              ⟨(some 54), none, (.p (.faddr 36)), [.tmp 1]⟩,
              ⟨(some 55), none, .load1, [.tmp 54]⟩,
              ⟨(some 56), none, (.p .lenS), [.tmp 55]⟩,
              ⟨(some 57), none, (.p (.conv .u64)), [.tmp 56]⟩,
              ⟨(some 58), none, (.call 25), [.tmp 57, .const (.int .i64 2)]⟩,
              ⟨(some 59), none, (.app 28 5 1 1 #[(.int .u8 0)]), [.tmp 53, .tmp 58]⟩,
              ⟨(some 4), none, (.p .mv), [.tmp 59]⟩])
            (.ops [⟨(some 60), none, (.p .mv), [.tmp 4]⟩,
              ⟨(some 61), none, (.p (.faddr 36)), [.tmp 1]⟩,
              ⟨(some 62), none, .load1, [.tmp 61]⟩,
              ⟨(some 63), none, (.app 28 5 1 1 #[(.int .u8 0)]), [.tmp 60, .tmp 62]⟩,
              ⟨(some 4), none, (.p .mv), [.tmp 63]⟩]))))
         .skip))
       (.seq
        (.ops [⟨(some 64), none, (.p .mv), [.tmp 4]⟩,
          ⟨(some 2), none, (.p .mv), [.tmp 64]⟩,
          ⟨(some 3), none, (.p .mv), [.const (.int .i64 0)]⟩])
        .ret))))))),
 [.t 2, .t 3]⟩
theorem ir11_ok : cFn Try.prog Try.f11 = some ir11 := by kernel_rfl

/- pumice/record.Right -/
def ir12 : FIR := ⟨60,
 (.seq
  (.ops [⟨(some 1), none, (.box 30), [.tmp 0]⟩,
    ⟨(some 2), none, (.p .mv), [.const (.bool false)]⟩])
  (.seq
   (.ops [⟨(some 4), none, (.p (.faddr 0)), [.tmp 1]⟩,
     ⟨(some 5), none, .load1, [.tmp 4]⟩,
     ⟨(some 6), none, (.call 19), [.tmp 5]⟩,
     ⟨(some 3), none, (.p .mv), [.tmp 6]⟩])
   (.seq
    (.block 0
     (.seq
      (.ops [⟨(some 8), none, (.p .mv), [.tmp 3]⟩,
        ⟨(some 9), none, (.p (.cmp .eql)), [.tmp 8, .const (.int .i64 0)]⟩,
        ⟨(some 10), none, (.p .mv), [.tmp 9]⟩,
        ⟨(some 11), (some (10, false)), (.p (.faddr 36)), [.tmp 1]⟩,
        ⟨(some 12), (some (10, false)), .load1, [.tmp 11]⟩,
        ⟨(some 13), (some (10, false)), (.p .lenS), [.tmp 12]⟩,
        ⟨(some 14), (some (10, false)), (.p (.cmp .gtr)), [.tmp 13, .const (.int .i64 300)]⟩,
        ⟨(some 15), none, (.p .pick), [.tmp 10, .const (.bool true), .tmp 14]⟩,
        ⟨(some 7), none, (.p .mv), [.tmp 15]⟩])
      (.cond (.tmp 7)
       (.seq
        (.ops [⟨(some 2), none, (.p .mv), [.const (.bool false)]⟩])
        .ret)
       (.seq
        (.ops [⟨(some 17), none, (.p .mv), [.tmp 3]⟩,
          ⟨(some 18), none, (.p (.bin .and)), [.tmp 17, .const (.int .i64 1)]⟩,
          ⟨(some 19), none, (.p (.cmp .eql)), [.tmp 18, .const (.int .i64 0)]⟩,
          ⟨(some 20), none, (.p .mv), [.tmp 19]⟩,
          ⟨(some 21), (some (20, true)), (.p (.faddr 1)), [.tmp 1]⟩,
          ⟨(some 22), (some (20, true)), .load1, [.tmp 21]⟩,
          ⟨(some 23), (some (20, true)), (.p (.cmp .neq)), [.tmp 22, .const (.int .u32 0)]⟩,
          ⟨(some 24), none, (.p .pick), [.tmp 20, .tmp 23, .const (.bool false)]⟩,
          ⟨(some 25), none, (.p .mv), [.tmp 24]⟩,
          ⟨(some 26), (some (25, false)), (.p .mv), [.tmp 3]⟩,
          ⟨(some 27), (some (25, false)), (.p (.bin .and)), [.tmp 26, .const (.int .i64 2)]⟩,
          ⟨(some 28), (some (25, false)), (.p (.cmp .eql)), [.tmp 27, .const (.int .i64 0)]⟩,
          ⟨(some 29), (some (25, false)), (.p .mv), [.tmp 28]⟩,
          ⟨(some 30), (some (29, true)), (.p (.faddr 2)), [.tmp 1]⟩,
          ⟨(some 31), (some (29, true)), .load1, [.tmp 30]⟩,
          ⟨(some 32), (some (29, true)), (.p (.cmp .neq)), [.tmp 31, .const (.int .u64 0)]⟩,
          ⟨(some 33), (some (25, false)), (.p .pick), [.tmp 29, .tmp 32, .const (.bool false)]⟩,
          ⟨(some 34), none, (.p .pick), [.tmp 25, .const (.bool true), .tmp 33]⟩,
          ⟨(some 16), none, (.p .mv), [.tmp 34]⟩])
        (.cond (.tmp 16)
         (.seq
          (.ops [⟨(some 2), none, (.p .mv), [.const (.bool false)]⟩])
          .ret)
         (.seq
          (.ops [⟨(some 36), none, (.p .mv), [.tmp 3]⟩,
            ⟨(some 37), none, (.p (.bin .and)), [.tmp 36, .const (.int .i64 4)]⟩,
            ⟨(some 38), none, (.p (.cmp .eql)), [.tmp 37, .const (.int .i64 0)]⟩,
            ⟨(some 39), none, (.p .mv), [.tmp 38]⟩,
            ⟨(some 40), (some (39, true)), (.p (.faddr 3)), [.tmp 1]⟩,
            ⟨(some 41), (some (39, true)), (.loadN 33), [.tmp 40]⟩,
            ⟨(some 42), (some (39, true)), (.p (.bldS (Array.replicate 32 (.int .u8 0) ++ #[(.int .u32 0)]) #[(0, 32), (32, 1)] [])), []⟩,
            ⟨(some 43), (some (39, true)), (.eqv true 27), [.tmp 41, .tmp 42]⟩,
            ⟨(some 44), (some (39, true)), (.p .mv), [.tmp 43]⟩,
            ⟨(some 45), (some (44, false)), (.p (.faddr 36)), [.tmp 1]⟩,
            ⟨(some 46), (some (44, false)), .load1, [.tmp 45]⟩,
            ⟨(some 47), (some (44, false)), (.p .lenS), [.tmp 46]⟩,
            ⟨(some 48), (some (44, false)), (.p (.cmp .gtr)), [.tmp 47, .const (.int .i64 0)]⟩,
            ⟨(some 49), (some (39, true)), (.p .pick), [.tmp 44, .const (.bool true), .tmp 48]⟩,
            ⟨(some 50), none, (.p .pick), [.tmp 39, .tmp 49, .const (.bool false)]⟩,
            ⟨(some 35), none, (.p .mv), [.tmp 50]⟩])
          (.cond (.tmp 35)
           (.seq
            (.ops [⟨(some 2), none, (.p .mv), [.const (.bool false)]⟩])
            .ret)
           .skip)))))))
    (.seq
     (.ops [⟨(some 51), none, (.p (.faddr 0)), [.tmp 1]⟩,
       ⟨(some 52), none, .load1, [.tmp 51]⟩,
       ⟨(some 53), none, (.p (.cmp .neq)), [.tmp 52, .const (.int .u8 4)]⟩,
       ⟨(some 54), none, (.p .mv), [.tmp 53]⟩,
       ⟨(some 55), (some (54, false)), (.p (.faddr 36)), [.tmp 1]⟩,
       ⟨(some 56), (some (54, false)), .load1, [.tmp 55]⟩,
       ⟨(some 57), (some (54, false)), (.p .lenS), [.tmp 56]⟩,
       ⟨(some 58), (some (54, false)), (.p (.cmp .gtr)), [.tmp 57, .const (.int .i64 0)]⟩,
       ⟨(some 59), none, (.p .pick), [.tmp 54, .const (.bool true), .tmp 58]⟩,
       ⟨(some 2), none, (.p .mv), [.tmp 59]⟩])
     .ret)))),
 [.t 2]⟩
theorem ir12_ok : cFn Try.prog Try.f12 = some ir12 := by kernel_rfl

/- pumice/pumiceref10.Right -/
def ir13 : FIR := ⟨56,
 (.seq
  (.ops [⟨(some 1), none, (.box 30), [.tmp 0]⟩,
    ⟨(some 2), none, (.p .mv), [.const (.bool false)]⟩])
  (.seq
   (.seq
    (.ops [⟨(some 3), none, (.p (.faddr 36)), [.tmp 1]⟩,
      ⟨(some 4), none, .load1, [.tmp 3]⟩,
      ⟨(some 5), none, (.p .lenS), [.tmp 4]⟩,
      ⟨(some 6), none, (.p (.cmp .gtr)), [.tmp 5, .const (.int .i64 300)]⟩])
    (.cond (.tmp 6)
     (.seq
      (.ops [⟨(some 2), none, (.p .mv), [.const (.bool false)]⟩])
      .ret)
     .skip))
   (.seq
    (.seq
     (.ops [⟨(some 7), none, (.p (.faddr 0)), [.tmp 1]⟩,
       ⟨(some 8), none, .load1, [.tmp 7]⟩])
     (.block 0
      (.seq
       (.ops [⟨(some 10), none, (.p (.cmp .eql)), [.tmp 8, .const (.int .u8 1)]⟩,
         ⟨(some 9), none, (.p .mv), [.tmp 10]⟩])
       (.cond (.tmp 9)
        (.seq
         (.ops [⟨(some 2), none, (.p .mv), [.const (.bool true)]⟩])
         .ret)
        (.seq
         (.ops [⟨(some 12), none, (.p (.cmp .eql)), [.tmp 8, .const (.int .u8 2)]⟩,
           ⟨(some 11), none, (.p .mv), [.tmp 12]⟩])
         (.cond (.tmp 11)
          (.seq
           (.ops [⟨(some 13), none, (.p (.faddr 3)), [.tmp 1]⟩,
             ⟨(some 14), none, (.loadN 33), [.tmp 13]⟩,
             ⟨(some 15), none, (.p (.bldS (Array.replicate 32 (.int .u8 0) ++ #[(.int .u32 0)]) #[(0, 32), (32, 1)] [])), []⟩,
             ⟨(some 16), none, (.eqv false 27), [.tmp 14, .tmp 15]⟩,
             ⟨(some 17), none, (.p .mv), [.tmp 16]⟩,
             ⟨(some 18), (some (17, true)), (.p (.faddr 36)), [.tmp 1]⟩,
             ⟨(some 19), (some (17, true)), .load1, [.tmp 18]⟩,
             ⟨(some 20), (some (17, true)), (.p .lenS), [.tmp 19]⟩,
             ⟨(some 21), (some (17, true)), (.p (.cmp .eql)), [.tmp 20, .const (.int .i64 0)]⟩,
             ⟨(some 22), none, (.p .pick), [.tmp 17, .tmp 21, .const (.bool false)]⟩,
             ⟨(some 2), none, (.p .mv), [.tmp 22]⟩])
           .ret)
          (.seq
           (.ops [⟨(some 24), none, (.p (.cmp .eql)), [.tmp 8, .const (.int .u8 3)]⟩,
             ⟨(some 23), none, (.p .mv), [.tmp 24]⟩])
           (.cond (.tmp 23)
            (.seq
             (.ops [⟨(some 25), none, (.p (.faddr 1)), [.tmp 1]⟩,
               ⟨(some 26), none, .load1, [.tmp 25]⟩,
               ⟨(some 27), none, (.p (.cmp .eql)), [.tmp 26, .const (.int .u32 0)]⟩,
               ⟨(some 28), none, (.p .mv), [.tmp 27]⟩,
               ⟨(some 29), (some (28, true)), (.p (.faddr 3)), [.tmp 1]⟩,
               ⟨(some 30), (some (28, true)), (.loadN 33), [.tmp 29]⟩,
               ⟨(some 31), (some (28, true)), (.p (.bldS (Array.replicate 32 (.int .u8 0) ++ #[(.int .u32 0)]) #[(0, 32), (32, 1)] [])), []⟩,
               ⟨(some 32), (some (28, true)), (.eqv false 27), [.tmp 30, .tmp 31]⟩,
               ⟨(some 33), none, (.p .pick), [.tmp 28, .tmp 32, .const (.bool false)]⟩,
               ⟨(some 34), none, (.p .mv), [.tmp 33]⟩,
               ⟨(some 35), (some (34, true)), (.p (.faddr 36)), [.tmp 1]⟩,
               ⟨(some 36), (some (34, true)), .load1, [.tmp 35]⟩,
               ⟨(some 37), (some (34, true)), (.p .lenS), [.tmp 36]⟩,
               ⟨(some 38), (some (34, true)), (.p (.cmp .eql)), [.tmp 37, .const (.int .i64 0)]⟩,
               ⟨(some 39), none, (.p .pick), [.tmp 34, .tmp 38, .const (.bool false)]⟩,
               ⟨(some 2), none, (.p .mv), [.tmp 39]⟩])
             .ret)
            (.seq
             (.ops [⟨(some 41), none, (.p (.cmp .eql)), [.tmp 8, .const (.int .u8 4)]⟩,
               ⟨(some 40), none, (.p .mv), [.tmp 41]⟩])
             (.cond (.tmp 40)
              (.seq
               (.ops [⟨(some 42), none, (.p (.faddr 1)), [.tmp 1]⟩,
                 ⟨(some 43), none, .load1, [.tmp 42]⟩,
                 ⟨(some 44), none, (.p (.cmp .eql)), [.tmp 43, .const (.int .u32 0)]⟩,
                 ⟨(some 45), none, (.p .mv), [.tmp 44]⟩,
                 ⟨(some 46), (some (45, true)), (.p (.faddr 2)), [.tmp 1]⟩,
                 ⟨(some 47), (some (45, true)), .load1, [.tmp 46]⟩,
                 ⟨(some 48), (some (45, true)), (.p (.cmp .eql)), [.tmp 47, .const (.int .u64 0)]⟩,
                 ⟨(some 49), none, (.p .pick), [.tmp 45, .tmp 48, .const (.bool false)]⟩,
                 ⟨(some 50), none, (.p .mv), [.tmp 49]⟩,
                 ⟨(some 51), (some (50, true)), (.p (.faddr 36)), [.tmp 1]⟩,
                 ⟨(some 52), (some (50, true)), .load1, [.tmp 51]⟩,
                 ⟨(some 53), (some (50, true)), (.p .lenS), [.tmp 52]⟩,
                 ⟨(some 54), (some (50, true)), (.p (.cmp .gtr)), [.tmp 53, .const (.int .i64 0)]⟩,
                 ⟨(some 55), none, (.p .pick), [.tmp 50, .tmp 54, .const (.bool false)]⟩,
                 ⟨(some 2), none, (.p .mv), [.tmp 55]⟩])
               .ret)
              .skip))))))))))
    (.seq
     (.ops [⟨(some 2), none, (.p .mv), [.const (.bool false)]⟩])
     .ret)))),
 [.t 2]⟩
theorem ir13_ok : cFn Try.prog Try.f13 = some ir13 := by kernel_rfl

/- pumice/record.Pages -/
def ir14 : FIR := ⟨18,
 (.seq
  (.ops [⟨(some 1), none, (.box 30), [.tmp 0]⟩,
    ⟨(some 2), none, (.p .mv), [.const (.int .i64 0)]⟩])
  (.seq
   (.ops [⟨(some 6), none, (.loadN 37), [.tmp 1]⟩,
     ⟨(some 7), none, (.call 10), [.tmp 6]⟩,
     ⟨(some 5), none, (.p .mv), [.tmp 7]⟩,
     ⟨(some 8), none, (.p (.ext 0)), [.tmp 5]⟩,
     ⟨(some 9), none, (.p (.ext 1)), [.tmp 5]⟩,
     ⟨(some 3), none, (.p .mv), [.tmp 8]⟩,
     ⟨(some 4), none, (.p .mv), [.tmp 9]⟩])
   (.seq
    (.seq
     (.ops [⟨(some 10), none, (.p .mv), [.tmp 4]⟩,
       ⟨(some 11), none, (.p (.cmp .neq)), [.tmp 10, .const (.int .i64 0)]⟩])
     (.cond (.tmp 11)
      (.seq
       (.ops [⟨(some 2), none, (.p .mv), [.const (.int .i64 0)]⟩])
       .ret)
      .skip))
    (.seq
     (.ops [⟨(some 12), none, (.p .mv), [.tmp 3]⟩,
       ⟨(some 13), none, (.p .lenS), [.tmp 12]⟩,
       ⟨(some 14), none, (.p (.bin .add)), [.tmp 13, .const (.int .i64 125)]⟩,
       ⟨(some 15), none, (.p (.bin .sub)), [.tmp 14, .const (.int .i64 1)]⟩,
       ⟨(some 16), none, (.p (.bin .quo)), [.tmp 15, .const (.int .i64 125)]⟩,
       ⟨(some 17), none, (.p .max), [.const (.int .i64 1), .tmp 16]⟩,
       ⟨(some 2), none, (.p .mv), [.tmp 17]⟩])
     .ret)))),
 [.t 2]⟩
theorem ir14_ok : cFn Try.prog Try.f14 = some ir14 := by kernel_rfl

/- pumice/pumiceref10.Pages -/
def ir15 : FIR := ⟨17,
 (.seq
  (.ops [⟨(some 1), none, (.box 30), [.tmp 0]⟩,
    ⟨(some 2), none, (.p .mv), [.const (.int .i64 0)]⟩])
  (.seq
   (.ops [⟨(some 6), none, (.loadN 37), [.tmp 1]⟩,
     ⟨(some 7), none, (.call 11), [.tmp 6]⟩,
     ⟨(some 5), none, (.p .mv), [.tmp 7]⟩,
     ⟨(some 8), none, (.p (.ext 0)), [.tmp 5]⟩,
     ⟨(some 9), none, (.p (.ext 1)), [.tmp 5]⟩,
     ⟨(some 3), none, (.p .mv), [.tmp 8]⟩,
     ⟨(some 4), none, (.p .mv), [.tmp 9]⟩])
   (.seq
    (.seq
     (.ops [⟨(some 10), none, (.p .mv), [.tmp 4]⟩,
       ⟨(some 11), none, (.p (.cmp .neq)), [.tmp 10, .const (.int .i64 0)]⟩])
     (.cond (.tmp 11)
      (.seq
       (.ops [⟨(some 2), none, (.p .mv), [.const (.int .i64 0)]⟩])
       .ret)
      .skip))
    (.seq
     (.ops [⟨(some 12), none, (.p .mv), [.tmp 3]⟩,
       ⟨(some 13), none, (.p .lenS), [.tmp 12]⟩,
       ⟨(some 14), none, (.p (.bin .add)), [.tmp 13, .const (.int .i64 125)]⟩,
       ⟨(some 15), none, (.p (.bin .sub)), [.tmp 14, .const (.int .i64 1)]⟩,
       ⟨(some 16), none, (.p (.bin .quo)), [.tmp 15, .const (.int .i64 125)]⟩,
       ⟨(some 2), none, (.p .mv), [.tmp 16]⟩])
     .ret)))),
 [.t 2]⟩
theorem ir15_ok : cFn Try.prog Try.f15 = some ir15 := by kernel_rfl

/- pumice/record.Take -/
def ir16 : FIR := ⟨58,
 (.seq
  (.ops [⟨(some 2), none, (.alloc 30 (#[(.int .u8 0), (.int .u32 0), (.int .u64 0)] ++ Array.replicate 32 (.int .u8 0) ++ #[(.int .u32 0), (.slice none 0 0)])), []⟩,
    ⟨(some 3), none, (.p .mv), [.const (.int .i64 0)]⟩])
  (.seq
   (.ops [⟨(some 8), none, (.p .mv), [.tmp 0]⟩,
     ⟨(some 9), none, (.call 26), [.tmp 8]⟩,
     ⟨(some 4), none, (.p .mv), [.tmp 9]⟩])
   (.seq
    (.ops [⟨(some 10), none, (.p .mv), [.tmp 4]⟩,
      ⟨(some 11), none, (.call 27), [.tmp 10, .const (.int .i64 1)]⟩,
      ⟨(some 5), none, (.p .mv), [.tmp 11]⟩])
    (.seq
     (.ops [⟨(some 12), none, (.p .mv), [.tmp 5]⟩,
       ⟨(some 13), none, (.p (.conv .u8)), [.tmp 12]⟩,
       ⟨(some 14), none, (.p (.bldS (#[(.int .u8 0), (.int .u32 0), (.int .u64 0)] ++ Array.replicate 32 (.int .u8 0) ++ #[(.int .u32 0), (.slice none 0 0)]) #[(0, 1), (1, 1), (2, 1), (3, 33), (36, 1)] [0])), [.tmp 13]⟩,
       ⟨(some 6), none, (.alloc 30 (#[(.int .u8 0), (.int .u32 0), (.int .u64 0)] ++ Array.replicate 32 (.int .u8 0) ++ #[(.int .u32 0), (.slice none 0 0)])), []⟩,
       ⟨none, none, (.storeN 37), [.tmp 6, .tmp 14]⟩])
     (.seq
      (.ops [⟨(some 15), none, (.p (.faddr 0)), [.tmp 6]⟩,
        ⟨(some 16), none, .load1, [.tmp 15]⟩,
        ⟨(some 17), none, (.call 19), [.tmp 16]⟩,
        ⟨(some 7), none, (.p .mv), [.tmp 17]⟩])
      (.seq
       (.seq
        (.ops [⟨(some 18), none, (.p .mv), [.tmp 7]⟩,
          ⟨(some 19), none, (.p (.bin .and)), [.tmp 18, .const (.int .i64 1)]⟩,
          ⟨(some 20), none, (.p (.cmp .neq)), [.tmp 19, .const (.int .i64 0)]⟩])
        (.cond (.tmp 20)
         (.ops [⟨(some 21), none, (.p .mv), [.tmp 4]⟩,
           ⟨(some 22), none, (.call 27), [.tmp 21, .const (.int .i64 4)]⟩,
           ⟨(some 23), none, (.p (.conv .u32)), [.tmp 22]⟩,
           ⟨(some 24), none, (.p (.faddr 1)), [.tmp 6]⟩,
           ⟨none, none, .store1, [.tmp 24, .tmp 23]⟩])
         .skip))
       (.seq
        (.seq
         (.ops [⟨(some 25), none, (.p .mv), [.tmp 7]⟩,
           ⟨(some 26), none, (.p (.bin .and)), [.tmp 25, .const (.int .i64 2)]⟩,
           ⟨(some 27), none, (.p (.cmp .neq)), [.tmp 26, .const (.int .i64 0)]⟩])
         (.cond (.tmp 27)
          (.ops [⟨(some 28), none, (.p .mv), [.tmp 4]⟩,
            ⟨(some 29), none, (.call 27), [.tmp 28, .const (.int .i64 8)]⟩,
            ⟨(some 30), none, (.p (.faddr 2)), [.tmp 6]⟩,
            ⟨none, none, .store1, [.tmp 30, .tmp 29]⟩])
          .skip))
        (.seq
         (.seq
          (.ops [⟨(some 31), none, (.p .mv), [.tmp 7]⟩,
            ⟨(some 32), none, (.p (.bin .and)), [.tmp 31, .const (.int .i64 4)]⟩,
            ⟨(some 33), none, (.p (.cmp .neq)), [.tmp 32, .const (.int .i64 0)]⟩])
          (.cond (.tmp 33)
           (.seq
            (.draw [⟨(some 34), none, (.p (.faddr 3)), [.tmp 6]⟩,
              ⟨(some 35), none, (.p (.faddr 0)), [.tmp 34]⟩,
              ⟨(some 36), none, (.p (.cutA 32 1 false false false)), [.tmp 35]⟩,
              ⟨(some 37), none, (.p .mv), [.tmp 4]⟩,
              ⟨(some 38), none, (.call 28), [.tmp 37, .const (.int .i64 32)]⟩,
              ⟨(some 39), none, (.cpy 28 1), [.tmp 36, .tmp 38]⟩] (.pu 0 (.pu 1 (.pu 2 (.pu 3 (.act true 4 [3] (.act true 5 [2, 4] .done .stop) .stop))))))
            (.seq
             (.ops [⟨(some 40), none, (.p .mv), [.tmp 4]⟩,
               ⟨(some 41), none, (.call 27), [.tmp 40, .const (.int .i64 4)]⟩,
               ⟨(some 42), none, (.p (.conv .u32)), [.tmp 41]⟩,
               ⟨(some 43), none, (.p (.faddr 3)), [.tmp 6]⟩,
               ⟨(some 44), none, (.p (.faddr 32)), [.tmp 43]⟩,
               ⟨none, none, .store1, [.tmp 44, .tmp 42]⟩])
             (.ops [⟨(some 45), none, (.p .mv), [.tmp 4]⟩,
               ⟨(some 46), none, (.call 29), [.tmp 45, .const (.int .i64 300)]⟩,
               ⟨(some 47), none, (.p (.faddr 36)), [.tmp 6]⟩,
               ⟨none, none, .store1, [.tmp 47, .tmp 46]⟩])))
           .skip))
         (.seq
          (.seq
           (.ops [⟨(some 48), none, (.p .mv), [.tmp 4]⟩,
             ⟨(some 49), none, (.call 30), [.tmp 48]⟩,
             ⟨(some 50), none, (.p (.cmp .neq)), [.tmp 49, .const (.int .i64 0)]⟩,
             ⟨(some 51), none, (.p .mv), [.tmp 50]⟩,
             ⟨(some 52), (some (51, false)), (.loadN 37), [.tmp 6]⟩,
             ⟨(some 53), (some (51, false)), (.call 12), [.tmp 52]⟩,
             ⟨(some 54), (some (51, false)), (.p .not), [.tmp 53]⟩,
             ⟨(some 55), none, (.p .pick), [.tmp 51, .const (.bool true), .tmp 54]⟩])
           (.cond (.tmp 55)
            (.seq
             (.ops [⟨(some 56), none, (.p (.bldS (#[(.int .u8 0), (.int .u32 0), (.int .u64 0)] ++ Array.replicate 32 (.int .u8 0) ++ #[(.int .u32 0), (.slice none 0 0)]) #[(0, 1), (1, 1), (2, 1), (3, 33), (36, 1)] [])), []⟩,
               ⟨none, none, (.storeN 37), [.tmp 2, .tmp 56]⟩,
               ⟨(some 3), none, (.p .mv), [.const (.int .i64 100)]⟩])
             .ret)
            .skip))
          (.seq
           (.ops [⟨(some 57), none, (.loadN 37), [.tmp 6]⟩,
             ⟨none, none, (.storeN 37), [.tmp 2, .tmp 57]⟩,
             ⟨(some 3), none, (.p .mv), [.const (.int .i64 0)]⟩])
           .ret)))))))))),
 [.cN 2 37, .t 3]⟩
theorem ir16_ok : cFn Try.prog Try.f16 = some ir16 := by kernel_rfl

/- pumice/pumiceref10.Take -/
def ir17 : FIR := ⟨75,
 (.seq
  (.ops [⟨(some 2), none, (.alloc 30 (#[(.int .u8 0), (.int .u32 0), (.int .u64 0)] ++ Array.replicate 32 (.int .u8 0) ++ #[(.int .u32 0), (.slice none 0 0)])), []⟩,
    ⟨(some 3), none, (.p .mv), [.const (.int .i64 0)]⟩])
  (.seq
   (.ops [⟨(some 8), none, (.p .mv), [.tmp 0]⟩,
     ⟨(some 9), none, (.p (.bldS #[(.slice none 0 0), (.int .i64 0), (.int .i64 0)] #[(0, 1), (1, 1), (2, 1)] [0])), [.tmp 8]⟩,
     ⟨(some 10), none, (.box 57), [.tmp 9]⟩,
     ⟨(some 4), none, (.p .mv), [.tmp 10]⟩])
   (.seq
    (.ops [⟨(some 11), none, (.p .mv), [.tmp 4]⟩,
      ⟨(some 12), none, (.call 31), [.tmp 11, .const (.int .i64 1)]⟩,
      ⟨(some 13), none, (.p (.conv .u8)), [.tmp 12]⟩,
      ⟨(some 14), none, (.p (.bldS (#[(.int .u8 0), (.int .u32 0), (.int .u64 0)] ++ Array.replicate 32 (.int .u8 0) ++ #[(.int .u32 0), (.slice none 0 0)]) #[(0, 1), (1, 1), (2, 1), (3, 33), (36, 1)] [0])), [.tmp 13]⟩,
      ⟨(some 5), none, (.alloc 30 (#[(.int .u8 0), (.int .u32 0), (.int .u64 0)] ++ Array.replicate 32 (.int .u8 0) ++ #[(.int .u32 0), (.slice none 0 0)])), []⟩,
      ⟨none, none, (.storeN 37), [.tmp 5, .tmp 14]⟩])
    (.seq
     (.seq
      (.ops [⟨(some 15), none, (.p (.faddr 0)), [.tmp 5]⟩,
        ⟨(some 16), none, .load1, [.tmp 15]⟩,
        ⟨(some 17), none, (.p (.cmp .eql)), [.tmp 16, .const (.int .u8 1)]⟩,
        ⟨(some 18), none, (.p .mv), [.tmp 17]⟩,
        ⟨(some 19), (some (18, false)), (.p (.faddr 0)), [.tmp 5]⟩,
        ⟨(some 20), (some (18, false)), .load1, [.tmp 19]⟩,
        ⟨(some 21), (some (18, false)), (.p (.cmp .eql)), [.tmp 20, .const (.int .u8 2)]⟩,
        ⟨(some 22), none, (.p .pick), [.tmp 18, .const (.bool true), .tmp 21]⟩])
      (.cond (.tmp 22)
       (.ops [⟨(some 23), none, (.p .mv), [.tmp 4]⟩,
         ⟨(some 24), none, (.call 31), [.tmp 23, .const (.int .i64 4)]⟩,
         ⟨(some 25), none, (.p (.conv .u32)), [.tmp 24]⟩,
         ⟨(some 26), none, (.p (.faddr 1)), [.tmp 5]⟩,
         ⟨none, none, .store1, [.tmp 26, .tmp 25]⟩])
       .skip))
     (.seq
      (.seq
       (.ops [⟨(some 27), none, (.p (.faddr 0)), [.tmp 5]⟩,
         ⟨(some 28), none, .load1, [.tmp 27]⟩,
         ⟨(some 29), none, (.p (.cmp .neq)), [.tmp 28, .const (.int .u8 4)]⟩])
       (.cond (.tmp 29)
        (.ops [⟨(some 30), none, (.p .mv), [.tmp 4]⟩,
          ⟨(some 31), none, (.call 31), [.tmp 30, .const (.int .i64 8)]⟩,
          ⟨(some 32), none, (.p (.faddr 2)), [.tmp 5]⟩,
          ⟨none, none, .store1, [.tmp 32, .tmp 31]⟩])
        .skip))
      (.seq
       (.seq
        (.ops [⟨(some 33), none, (.p (.faddr 0)), [.tmp 5]⟩,
          ⟨(some 34), none, .load1, [.tmp 33]⟩,
          ⟨(some 35), none, (.p (.cmp .eql)), [.tmp 34, .const (.int .u8 1)]⟩,
          ⟨(some 36), none, (.p .mv), [.tmp 35]⟩,
          ⟨(some 37), (some (36, false)), (.p (.faddr 0)), [.tmp 5]⟩,
          ⟨(some 38), (some (36, false)), .load1, [.tmp 37]⟩,
          ⟨(some 39), (some (36, false)), (.p (.cmp .eql)), [.tmp 38, .const (.int .u8 4)]⟩,
          ⟨(some 40), none, (.p .pick), [.tmp 36, .const (.bool true), .tmp 39]⟩])
        (.cond (.tmp 40)
         (.seq
          (.ops [⟨(some 41), none, (.p .mv), [.tmp 4]⟩,
            ⟨(some 42), none, (.call 32), [.tmp 41, .const (.int .i64 32)]⟩,
            ⟨(some 6), none, (.p .mv), [.tmp 42]⟩])
          (.seq
           (.seq
            (.ops [⟨(some 7), none, (.p .mv), [.const (.int .i64 0)]⟩])
            (.block 0
             (.loop
              (.seq
               (.seq
                (.ops [⟨(some 43), none, (.p .mv), [.tmp 7]⟩,
                  ⟨(some 44), none, (.p .mv), [.tmp 6]⟩,
                  ⟨(some 45), none, (.p .lenS), [.tmp 44]⟩,
                  ⟨(some 46), none, (.p (.cmp .lss)), [.tmp 43, .tmp 45]⟩])
                (.cond (.tmp 46)
                 .skip
                 (.exit 0)))
               (.seq
                (.block 1
                 (.ops [⟨(some 49), none, (.p .mv), [.tmp 7]⟩,
                   ⟨(some 50), none, (.p .mv), [.tmp 6]⟩,
                   ⟨(some 51), none, (.p .mv), [.tmp 7]⟩,
                   ⟨(some 52), none, (.p (.iaddrS 1)), [.tmp 50, .tmp 51]⟩,
                   ⟨(some 53), none, .load1, [.tmp 52]⟩,
                   ⟨(some 54), none, (.p (.faddr 3)), [.tmp 5]⟩,
                   ⟨(some 55), none, (.p (.faddr 0)), [.tmp 54]⟩,
                   ⟨(some 56), none, (.p (.iaddrA 32 1)), [.tmp 55, .tmp 49]⟩,
                   ⟨none, none, .store1, [.tmp 56, .tmp 53]⟩]))
                (.ops [⟨(some 47), none, (.p .mv), [.tmp 7]⟩,
                  ⟨(some 48), none, (.p (.bin .add)), [.tmp 47, .const (.int .i64 1)]⟩,
                  ⟨(some 7), none, (.p .mv), [.tmp 48]⟩]))))))
           (.seq
            (.ops [⟨(some 57), none, (.p .mv), [.tmp 4]⟩,
              ⟨(some 58), none, (.call 31), [.tmp 57, .const (.int .i64 4)]⟩,
              ⟨(some 59), none, (.p (.conv .u32)), [.tmp 58]⟩,
              ⟨(some 60), none, (.p (.faddr 3)), [.tmp 5]⟩,
              ⟨(some 61), none, (.p (.faddr 32)), [.tmp 60]⟩,
              ⟨none, none, .store1, [.tmp 61, .tmp 59]⟩])
            (.ops [⟨(some 62), none, (.p .mv), [.tmp 4]⟩,
              ⟨(some 63), none, (.call 33), [.tmp 62, .const (.int .i64 300)]⟩,
              ⟨(some 64), none, (.p (.faddr 36)), [.tmp 5]⟩,
              ⟨none, none, .store1, [.tmp 64, .tmp 63]⟩]))))
         .skip))
       (.seq
        (.seq
         (.ops [⟨(some 65), none, (.p .mv), [.tmp 4]⟩,
           ⟨(some 66), none, (.call 34), [.tmp 65]⟩,
           ⟨(some 67), none, (.p (.cmp .neq)), [.tmp 66, .const (.int .i64 0)]⟩,
           ⟨(some 68), none, (.p .mv), [.tmp 67]⟩,
           ⟨(some 69), (some (68, false)), (.loadN 37), [.tmp 5]⟩,
           ⟨(some 70), (some (68, false)), (.call 13), [.tmp 69]⟩,
           ⟨(some 71), (some (68, false)), (.p .not), [.tmp 70]⟩,
           ⟨(some 72), none, (.p .pick), [.tmp 68, .const (.bool true), .tmp 71]⟩])
         (.cond (.tmp 72)
          (.seq
           (.ops [⟨(some 73), none, (.p (.bldS (#[(.int .u8 0), (.int .u32 0), (.int .u64 0)] ++ Array.replicate 32 (.int .u8 0) ++ #[(.int .u32 0), (.slice none 0 0)]) #[(0, 1), (1, 1), (2, 1), (3, 33), (36, 1)] [])), []⟩,
             ⟨none, none, (.storeN 37), [.tmp 2, .tmp 73]⟩,
             ⟨(some 3), none, (.p .mv), [.const (.int .i64 100)]⟩])
           .ret)
          .skip))
        (.seq
         (.ops [⟨(some 74), none, (.loadN 37), [.tmp 5]⟩,
           ⟨none, none, (.storeN 37), [.tmp 2, .tmp 74]⟩,
           ⟨(some 3), none, (.p .mv), [.const (.int .i64 0)]⟩])
         .ret)))))))),
 [.cN 2 37, .t 3]⟩
theorem ir17_ok : cFn Try.prog Try.f17 = some ir17 := by kernel_rfl

/- pumice/pumiceref10.Same -/
def ir18 : FIR := ⟨40,
 (.seq
  (.ops [⟨(some 2), none, (.box 30), [.tmp 0]⟩,
    ⟨(some 3), none, (.box 30), [.tmp 1]⟩,
    ⟨(some 4), none, (.p .mv), [.const (.bool false)]⟩])
  (.seq
   (.ops [⟨(some 5), none, (.p (.faddr 0)), [.tmp 2]⟩,
     ⟨(some 6), none, .load1, [.tmp 5]⟩,
     ⟨(some 7), none, (.p (.faddr 0)), [.tmp 3]⟩,
     ⟨(some 8), none, .load1, [.tmp 7]⟩,
     ⟨(some 9), none, (.p (.cmp .eql)), [.tmp 6, .tmp 8]⟩,
     ⟨(some 10), none, (.p .mv), [.tmp 9]⟩,
     ⟨(some 11), (some (10, true)), (.p (.faddr 1)), [.tmp 2]⟩,
     ⟨(some 12), (some (10, true)), .load1, [.tmp 11]⟩,
     ⟨(some 13), (some (10, true)), (.p (.faddr 1)), [.tmp 3]⟩,
     ⟨(some 14), (some (10, true)), .load1, [.tmp 13]⟩,
     ⟨(some 15), (some (10, true)), (.p (.cmp .eql)), [.tmp 12, .tmp 14]⟩,
     ⟨(some 16), none, (.p .pick), [.tmp 10, .tmp 15, .const (.bool false)]⟩,
     ⟨(some 17), none, (.p .mv), [.tmp 16]⟩,
     ⟨(some 18), (some (17, true)), (.p (.faddr 2)), [.tmp 2]⟩,
     ⟨(some 19), (some (17, true)), .load1, [.tmp 18]⟩,
     ⟨(some 20), (some (17, true)), (.p (.faddr 2)), [.tmp 3]⟩,
     ⟨(some 21), (some (17, true)), .load1, [.tmp 20]⟩,
     ⟨(some 22), (some (17, true)), (.p (.cmp .eql)), [.tmp 19, .tmp 21]⟩,
     ⟨(some 23), none, (.p .pick), [.tmp 17, .tmp 22, .const (.bool false)]⟩,
     ⟨(some 24), none, (.p .mv), [.tmp 23]⟩,
     ⟨(some 25), (some (24, true)), (.p (.faddr 3)), [.tmp 2]⟩,
     ⟨(some 26), (some (24, true)), (.loadN 33), [.tmp 25]⟩,
     ⟨(some 27), (some (24, true)), (.p (.faddr 3)), [.tmp 3]⟩,
     ⟨(some 28), (some (24, true)), (.loadN 33), [.tmp 27]⟩,
     ⟨(some 29), (some (24, true)), (.eqv false 27), [.tmp 26, .tmp 28]⟩,
     ⟨(some 30), none, (.p .pick), [.tmp 24, .tmp 29, .const (.bool false)]⟩,
     ⟨(some 31), none, (.p .mv), [.tmp 30]⟩,
     ⟨(some 32), (some (31, true)), (.p (.faddr 36)), [.tmp 2]⟩,
     ⟨(some 33), (some (31, true)), .load1, [.tmp 32]⟩,
     ⟨(some 34), (some (31, true)), .b2s, [.tmp 33]⟩,
     ⟨(some 35), (some (31, true)), (.p (.faddr 36)), [.tmp 3]⟩,
     ⟨(some 36), (some (31, true)), .load1, [.tmp 35]⟩,
     ⟨(some 37), (some (31, true)), .b2s, [.tmp 36]⟩,
     ⟨(some 38), (some (31, true)), (.p (.seq false)), [.tmp 34, .tmp 37]⟩,
     ⟨(some 39), none, (.p .pick), [.tmp 31, .tmp 38, .const (.bool false)]⟩,
     ⟨(some 4), none, (.p .mv), [.tmp 39]⟩])
   .ret)),
 [.t 4]⟩
theorem ir18_ok : cFn Try.prog Try.f18 = some ir18 := by kernel_rfl

/- pumice/record.fields -/
def ir19 : FIR := ⟨12,
 (.seq
  (.ops [⟨(some 2), none, (.p .mv), [.const (.int .i64 0)]⟩])
  (.seq
   (.seq
    (.ops [⟨(some 3), none, (.p .mv), [.tmp 0]⟩])
    (.block 0
     (.seq
      (.ops [⟨(some 5), none, (.p (.cmp .eql)), [.tmp 3, .const (.int .u8 1)]⟩,
        ⟨(some 4), none, (.p .mv), [.tmp 5]⟩])
      (.cond (.tmp 4)
       (.seq
        (.ops [⟨(some 2), none, (.p .mv), [.const (.int .i64 7)]⟩])
        .ret)
       (.seq
        (.ops [⟨(some 7), none, (.p (.cmp .eql)), [.tmp 3, .const (.int .u8 2)]⟩,
          ⟨(some 6), none, (.p .mv), [.tmp 7]⟩])
        (.cond (.tmp 6)
         (.seq
          (.ops [⟨(some 2), none, (.p .mv), [.const (.int .i64 3)]⟩])
          .ret)
         (.seq
          (.ops [⟨(some 9), none, (.p (.cmp .eql)), [.tmp 3, .const (.int .u8 3)]⟩,
            ⟨(some 8), none, (.p .mv), [.tmp 9]⟩])
          (.cond (.tmp 8)
           (.seq
            (.ops [⟨(some 2), none, (.p .mv), [.const (.int .i64 2)]⟩])
            .ret)
           (.seq
            (.ops [⟨(some 11), none, (.p (.cmp .eql)), [.tmp 3, .const (.int .u8 4)]⟩,
              ⟨(some 10), none, (.p .mv), [.tmp 11]⟩])
            (.cond (.tmp 10)
             (.seq
              (.ops [⟨(some 2), none, (.p .mv), [.const (.int .i64 4)]⟩])
              .ret)
             .skip))))))))))
   (.seq
    (.ops [⟨(some 2), none, (.p .mv), [.const (.int .i64 0)]⟩])
    .ret))),
 [.t 2]⟩
theorem ir19_ok : cFn Try.prog Try.f19 = some ir19 := by kernel_rfl

/- pumice/codec.NewWriter -/
def ir20 : FIR := ⟨7,
 (.seq
  (.ops [⟨(some 2), none, (.p .mv), [.const (.pointer none)]⟩])
  (.seq
   (.ops [⟨(some 3), none, (.p .mv), [.tmp 0]⟩,
     ⟨(some 4), none, (.p .max), [.tmp 3, .const (.int .i64 0)]⟩,
     ⟨(some 5), none, (.p (.bldS #[(.slice none 0 0), (.int .i64 0), (.int .i64 0)] #[(0, 1), (1, 1), (2, 1)] [1])), [.tmp 4]⟩,
     ⟨(some 6), none, (.box 59), [.tmp 5]⟩,
     ⟨(some 2), none, (.p .mv), [.tmp 6]⟩])
   .ret)),
 [.t 2]⟩
theorem ir20_ok : cFn Try.prog Try.f20 = some ir20 := by kernel_rfl

/- (*pumice/codec.Writer).Num -/
def ir21 : FIR := ⟨47,
 (.seq
  (.seq
   (.ops [⟨(some 6), none, (.p .mv), [.tmp 0]⟩,
     ⟨(some 7), none, (.p (.isnil true)), [.tmp 6, .const (.pointer none)]⟩,
     ⟨(some 8), none, (.p .mv), [.tmp 7]⟩,
     ⟨(some 9), (some (8, true)), (.p .mv), [.tmp 0]⟩,
     ⟨(some 10), (some (8, true)), (.p .nilchk), [.tmp 9]⟩,
     ⟨(some 11), (some (8, true)), (.p (.faddr 2)), [.tmp 10]⟩,
     ⟨(some 12), (some (8, true)), .load1, [.tmp 11]⟩,
     ⟨(some 13), (some (8, true)), (.p (.cmp .eql)), [.tmp 12, .const (.int .i64 0)]⟩,
     ⟨(some 14), none, (.p .pick), [.tmp 8, .tmp 13, .const (.bool false)]⟩,
     ⟨(some 15), none, (.p .mv), [.tmp 14]⟩,
     ⟨(some 16), (some (15, true)), (.p .mv), [.tmp 2]⟩,
     ⟨(some 17), (some (15, true)), (.p (.cmp .lss)), [.tmp 16, .const (.int .i64 0)]⟩,
     ⟨(some 18), (some (15, true)), (.p .mv), [.tmp 17]⟩,
     ⟨(some 19), (some (18, false)), (.p .mv), [.tmp 2]⟩,
     ⟨(some 20), (some (18, false)), (.p (.cmp .gtr)), [.tmp 19, .const (.int .i64 8)]⟩,
     ⟨(some 21), (some (15, true)), (.p .pick), [.tmp 18, .const (.bool true), .tmp 20]⟩,
     ⟨(some 22), none, (.p .pick), [.tmp 15, .tmp 21, .const (.bool false)]⟩])
   (.cond (.tmp 22)
    (.ops [⟨(some 23), none, (.p .mv), [.tmp 0]⟩,
      ⟨(some 24), none, (.p .nilchk), [.tmp 23]⟩,
      ⟨(some 25), none, (.p (.faddr 2)), [.tmp 24]⟩,
      ⟨none, none, .store1, [.tmp 25, .const (.int .i64 1)]⟩])
    .skip))
  (.seq
   (.seq
    (.ops [⟨(some 26), none, (.p .mv), [.tmp 0]⟩,
      ⟨(some 27), none, (.p .mv), [.tmp 2]⟩,
      ⟨(some 28), none, (.call 35), [.tmp 26, .tmp 27]⟩,
      ⟨(some 29), none, (.p .not), [.tmp 28]⟩])
    (.cond (.tmp 29)
     .ret
     .skip))
   (.seq
    (.ops [⟨(some 30), none, (.p .mv), [.tmp 2]⟩,
      ⟨(some 31), none, (.p .mv), [.const (.int .i64 0)]⟩])
    (.block 0
     (.loop
      (.seq
       (.ops [⟨(some 32), none, (.p (.cmp .lss)), [.tmp 31, .tmp 30]⟩])
       (.seq
        (.cond (.tmp 32)
         .skip
         (.exit 0))
        (.seq
         (.block 1
          (.seq
           (.ops [⟨(some 33), none, (.p .mv), [.tmp 0]⟩,
             ⟨(some 34), none, (.p .mv), [.tmp 0]⟩,
             ⟨(some 35), none, (.p .nilchk), [.tmp 34]⟩,
             ⟨(some 36), none, (.p (.faddr 0)), [.tmp 35]⟩,
             ⟨(some 37), none, .load1, [.tmp 36]⟩,
             ⟨(some 38), none, (.p .mv), [.tmp 1]⟩,
             ⟨(some 39), none, (.p (.conv .u8)), [.tmp 38]⟩,
             ⟨(some 40), none, (.bldSl 5 1 1 #[(.int .u8 0)] [0]), [.tmp 39]⟩,
             ⟨(some 41), none, (.app 28 5 1 1 #[(.int .u8 0)]), [.tmp 37, .tmp 40]⟩,
             ⟨(some 42), none, (.p .nilchk), [.tmp 33]⟩,
             ⟨(some 43), none, (.p (.faddr 0)), [.tmp 42]⟩,
             ⟨none, none, .store1, [.tmp 43, .tmp 41]⟩])
           (.ops [⟨(some 44), none, (.p .mv), [.tmp 1]⟩,
             ⟨(some 45), none, (.p (.bin .shr)), [.tmp 44, .const (.int .u64 8)]⟩,
             ⟨(some 1), none, (.p .mv), [.tmp 45]⟩])))
         (.ops [⟨(some 46), none, (.p (.bin .add)), [.tmp 31, .const (.int .i64 1)]⟩,
           ⟨(some 31), none, (.p .mv), [.tmp 46]⟩]))))))))),
 []⟩
theorem ir21_ok : cFn Try.prog Try.f21 = some ir21 := by kernel_rfl

/- (*pumice/codec.Writer).Raw -/
def ir22 : FIR := ⟨17,
 (.seq
  (.ops [⟨(some 4), none, (.p .mv), [.tmp 0]⟩,
    ⟨(some 5), none, (.p .mv), [.tmp 1]⟩,
    ⟨(some 6), none, (.p .lenS), [.tmp 5]⟩,
    ⟨(some 7), none, (.call 35), [.tmp 4, .tmp 6]⟩])
  (.cond (.tmp 7)
   (.ops [⟨(some 8), none, (.p .mv), [.tmp 0]⟩,
     ⟨(some 9), none, (.p .mv), [.tmp 0]⟩,
     ⟨(some 10), none, (.p .nilchk), [.tmp 9]⟩,
     ⟨(some 11), none, (.p (.faddr 0)), [.tmp 10]⟩,
     ⟨(some 12), none, .load1, [.tmp 11]⟩,
     ⟨(some 13), none, (.p .mv), [.tmp 1]⟩,
     ⟨(some 14), none, (.app 28 5 1 1 #[(.int .u8 0)]), [.tmp 12, .tmp 13]⟩,
     ⟨(some 15), none, (.p .nilchk), [.tmp 8]⟩,
     ⟨(some 16), none, (.p (.faddr 0)), [.tmp 15]⟩,
     ⟨none, none, .store1, [.tmp 16, .tmp 14]⟩])
   .skip)),
 []⟩
theorem ir22_ok : cFn Try.prog Try.f22 = some ir22 := by kernel_rfl

/- (*pumice/codec.Writer).Blob -/
def ir23 : FIR := ⟨44,
 (.seq
  (.seq
   (.ops [⟨(some 4), none, (.p .mv), [.tmp 0]⟩,
     ⟨(some 5), none, (.p (.isnil true)), [.tmp 4, .const (.pointer none)]⟩,
     ⟨(some 6), none, (.p .mv), [.tmp 5]⟩,
     ⟨(some 7), (some (6, true)), (.p .mv), [.tmp 0]⟩,
     ⟨(some 8), (some (6, true)), (.p .nilchk), [.tmp 7]⟩,
     ⟨(some 9), (some (6, true)), (.p (.faddr 2)), [.tmp 8]⟩,
     ⟨(some 10), (some (6, true)), .load1, [.tmp 9]⟩,
     ⟨(some 11), (some (6, true)), (.p (.cmp .eql)), [.tmp 10, .const (.int .i64 0)]⟩,
     ⟨(some 12), none, (.p .pick), [.tmp 6, .tmp 11, .const (.bool false)]⟩,
     ⟨(some 13), none, (.p .mv), [.tmp 12]⟩,
     ⟨(some 14), (some (13, true)), (.p .mv), [.tmp 1]⟩,
     ⟨(some 15), (some (13, true)), (.p .lenS), [.tmp 14]⟩,
     ⟨(some 16), (some (13, true)), (.p (.cmp .gtr)), [.tmp 15, .const (.int .i64 65535)]⟩,
     ⟨(some 17), none, (.p .pick), [.tmp 13, .tmp 16, .const (.bool false)]⟩])
   (.cond (.tmp 17)
    (.ops [⟨(some 18), none, (.p .mv), [.tmp 0]⟩,
      ⟨(some 19), none, (.p .nilchk), [.tmp 18]⟩,
      ⟨(some 20), none, (.p (.faddr 2)), [.tmp 19]⟩,
      ⟨none, none, .store1, [.tmp 20, .const (.int .i64 4)]⟩])
    .skip))
  (.seq
   (.ops [⟨(some 21), none, (.p .mv), [.tmp 0]⟩,
     ⟨(some 22), none, (.p .mv), [.tmp 1]⟩,
     ⟨(some 23), none, (.p .lenS), [.tmp 22]⟩,
     ⟨(some 24), none, (.p (.bin .add)), [.tmp 23, .const (.int .i64 2)]⟩,
     ⟨(some 25), none, (.call 35), [.tmp 21, .tmp 24]⟩])
   (.cond (.tmp 25)
    (.ops [⟨(some 26), none, (.p .mv), [.tmp 0]⟩,
      ⟨(some 27), none, (.p .mv), [.tmp 0]⟩,
      ⟨(some 28), none, (.p .nilchk), [.tmp 27]⟩,
      ⟨(some 29), none, (.p (.faddr 0)), [.tmp 28]⟩,
      ⟨(some 30), none, .load1, [.tmp 29]⟩,
      ⟨(some 31), none, (.p .mv), [.tmp 1]⟩,
      ⟨(some 32), none, (.p .lenS), [.tmp 31]⟩,
      ⟨(some 33), none, (.p (.conv .u8)), [.tmp 32]⟩,
      ⟨(some 34), none, (.p .mv), [.tmp 1]⟩,
      ⟨(some 35), none, (.p .lenS), [.tmp 34]⟩,
      ⟨(some 36), none, (.p (.bin .shr)), [.tmp 35, .const (.int .u64 8)]⟩,
      ⟨(some 37), none, (.p (.conv .u8)), [.tmp 36]⟩,
      ⟨(some 38), none, (.bldSl 5 2 1 #[(.int .u8 0), (.int .u8 0)] [0, 1]), [.tmp 33, .tmp 37]⟩,
      ⟨(some 39), none, (.app 28 5 1 1 #[(.int .u8 0)]), [.tmp 30, .tmp 38]⟩,
      ⟨(some 40), none, (.p .mv), [.tmp 1]⟩,
      ⟨(some 41), none, (.app 28 5 1 1 #[(.int .u8 0)]), [.tmp 39, .tmp 40]⟩,
      ⟨(some 42), none, (.p .nilchk), [.tmp 26]⟩,
      ⟨(some 43), none, (.p (.faddr 0)), [.tmp 42]⟩,
      ⟨none, none, .store1, [.tmp 43, .tmp 41]⟩])
    .skip))),
 []⟩
theorem ir23_ok : cFn Try.prog Try.f23 = some ir23 := by kernel_rfl

/- (*pumice/codec.Writer).Out -/
def ir24 : FIR := ⟨15,
 (.seq
  (.ops [⟨(some 2), none, (.p .mv), [.const (.slice none 0 0)]⟩,
    ⟨(some 3), none, (.p .mv), [.const (.int .i64 0)]⟩])
  (.seq
   (.seq
    (.ops [⟨(some 4), none, (.p .mv), [.tmp 0]⟩,
      ⟨(some 5), none, (.p (.isnil false)), [.tmp 4, .const (.pointer none)]⟩])
    (.cond (.tmp 5)
     (.seq
      (.ops [⟨(some 2), none, (.p .mv), [.const (.slice none 0 0)]⟩,
        ⟨(some 3), none, (.p .mv), [.const (.int .i64 0)]⟩])
      .ret)
     .skip))
   (.seq
    (.draw [⟨(some 6), none, (.p .mv), [.tmp 0]⟩,
      ⟨(some 7), none, (.p .nilchk), [.tmp 6]⟩,
      ⟨(some 8), none, (.p (.faddr 0)), [.tmp 7]⟩,
      ⟨(some 9), none, .load1, [.tmp 8]⟩,
      ⟨(some 10), none, (.app 28 5 1 1 #[(.int .u8 0)]), [.const (.slice none 0 0), .tmp 9]⟩,
      ⟨(some 11), none, (.p .mv), [.tmp 0]⟩,
      ⟨(some 12), none, (.p .nilchk), [.tmp 11]⟩,
      ⟨(some 13), none, (.p (.faddr 2)), [.tmp 12]⟩,
      ⟨(some 14), none, .load1, [.tmp 13]⟩,
      ⟨(some 2), none, (.p .mv), [.tmp 10]⟩,
      ⟨(some 3), none, (.p .mv), [.tmp 14]⟩] (.pu 0 (.pu 1 (.pu 2 (.pu 5 (.pu 6 (.pu 7 (.fl 3 (.fl 8 (.act true 4 [3] (.pu 9 (.pu 10 .done)) .stop))))))))))
    .ret))),
 [.t 2, .t 3]⟩
theorem ir24_ok : cFn Try.prog Try.f24 = some ir24 := by kernel_rfl

/- pumice/pumiceref01.Num -/
def ir25 : FIR := ⟨21,
 (.seq
  (.ops [⟨(some 4), none, (.p .mv), [.const (.slice none 0 0)]⟩])
  (.seq
   (.ops [⟨(some 5), none, (.p .mv), [.const (.slice none 0 0)]⟩])
   (.seq
    (.seq
     (.ops [⟨(some 6), none, (.p .mv), [.const (.int .i64 0)]⟩])
     (.block 0
      (.loop
       (.seq
        (.seq
         (.ops [⟨(some 7), none, (.p .mv), [.tmp 6]⟩,
           ⟨(some 8), none, (.p .mv), [.tmp 1]⟩,
           ⟨(some 9), none, (.p (.cmp .lss)), [.tmp 7, .tmp 8]⟩])
         (.cond (.tmp 9)
          .skip
          (.exit 0)))
        (.seq
         (.block 1
          (.seq
           (.ops [⟨(some 12), none, (.p .mv), [.tmp 5]⟩,
             ⟨(some 13), none, (.p .mv), [.tmp 0]⟩,
             ⟨(some 14), none, (.p (.bin .rem)), [.tmp 13, .const (.int .u64 256)]⟩,
             ⟨(some 15), none, (.p (.conv .u8)), [.tmp 14]⟩,
             ⟨(some 16), none, (.bldSl 5 1 1 #[(.int .u8 0)] [0]), [.tmp 15]⟩,
             ⟨(some 17), none, (.app 28 5 1 1 #[(.int .u8 0)]), [.tmp 12, .tmp 16]⟩,
             ⟨(some 5), none, (.p .mv), [.tmp 17]⟩])
           (.ops [⟨(some 18), none, (.p .mv), [.tmp 0]⟩,
             ⟨(some 19), none, (.p (.bin .quo)), [.tmp 18, .const (.int .u64 256)]⟩,
             ⟨(some 0), none, (.p .mv), [.tmp 19]⟩])))
         (.ops [⟨(some 10), none, (.p .mv), [.tmp 6]⟩,
           ⟨(some 11), none, (.p (.bin .add)), [.tmp 10, .const (.int .i64 1)]⟩,
           ⟨(some 6), none, (.p .mv), [.tmp 11]⟩]))))))
    (.seq
     (.ops [⟨(some 20), none, (.p .mv), [.tmp 5]⟩,
       ⟨(some 4), none, (.p .mv), [.tmp 20]⟩])
     .ret)))),
 [.t 4]⟩
theorem ir25_ok : cFn Try.prog Try.f25 = some ir25 := by kernel_rfl

/- pumice/codec.NewReader -/
def ir26 : FIR := ⟨7,
 (.seq
  (.ops [⟨(some 2), none, (.p .mv), [.const (.pointer none)]⟩])
  (.seq
   (.ops [⟨(some 3), none, (.p .mv), [.tmp 0]⟩,
     ⟨(some 4), none, (.app 28 5 1 1 #[(.int .u8 0)]), [.const (.slice none 0 0), .tmp 3]⟩,
     ⟨(some 5), none, (.p (.bldS #[(.slice none 0 0), (.int .i64 0)] #[(0, 1), (1, 1)] [0])), [.tmp 4]⟩,
     ⟨(some 6), none, (.box 63), [.tmp 5]⟩,
     ⟨(some 2), none, (.p .mv), [.tmp 6]⟩])
   .ret)),
 [.t 2]⟩
theorem ir26_ok : cFn Try.prog Try.f26 = some ir26 := by kernel_rfl

/- (*pumice/codec.Reader).Num -/
def ir27 : FIR := ⟨43,
 (.seq
  (.ops [⟨(some 4), none, (.p .mv), [.const (.int .u64 0)]⟩])
  (.seq
   (.seq
    (.ops [⟨(some 6), none, (.p .mv), [.tmp 0]⟩,
      ⟨(some 7), none, (.p (.isnil true)), [.tmp 6, .const (.pointer none)]⟩,
      ⟨(some 8), none, (.p .mv), [.tmp 7]⟩,
      ⟨(some 9), (some (8, true)), (.p .mv), [.tmp 0]⟩,
      ⟨(some 10), (some (8, true)), (.p .nilchk), [.tmp 9]⟩,
      ⟨(some 11), (some (8, true)), (.p (.faddr 1)), [.tmp 10]⟩,
      ⟨(some 12), (some (8, true)), .load1, [.tmp 11]⟩,
      ⟨(some 13), (some (8, true)), (.p (.cmp .eql)), [.tmp 12, .const (.int .i64 0)]⟩,
      ⟨(some 14), none, (.p .pick), [.tmp 8, .tmp 13, .const (.bool false)]⟩,
      ⟨(some 15), none, (.p .mv), [.tmp 14]⟩,
      ⟨(some 16), (some (15, true)), (.p .mv), [.tmp 1]⟩,
      ⟨(some 17), (some (15, true)), (.p (.cmp .gtr)), [.tmp 16, .const (.int .i64 8)]⟩,
      ⟨(some 18), none, (.p .pick), [.tmp 15, .tmp 17, .const (.bool false)]⟩])
    (.cond (.tmp 18)
     (.ops [⟨(some 19), none, (.p .mv), [.tmp 0]⟩,
       ⟨(some 20), none, (.p .nilchk), [.tmp 19]⟩,
       ⟨(some 21), none, (.p (.faddr 1)), [.tmp 20]⟩,
       ⟨none, none, .store1, [.tmp 21, .const (.int .i64 1)]⟩])
     .skip))
   (.seq
    (.seq
     (.ops [⟨(some 22), none, (.p .mv), [.tmp 0]⟩,
       ⟨(some 23), none, (.p .mv), [.tmp 1]⟩,
       ⟨(some 24), none, (.call 36), [.tmp 22, .tmp 23]⟩,
       ⟨(some 25), none, (.p .not), [.tmp 24]⟩])
     (.cond (.tmp 25)
      (.seq
       (.ops [⟨(some 4), none, (.p .mv), [.const (.int .u64 0)]⟩])
       .ret)
      .skip))
    (.seq
     (.ops [⟨(some 26), none, (.p .mv), [.tmp 0]⟩,
       ⟨(some 27), none, (.p .nilchk), [.tmp 26]⟩,
       ⟨(some 28), none, (.p (.faddr 0)), [.tmp 27]⟩,
       ⟨(some 29), none, .load1, [.tmp 28]⟩,
       ⟨(some 30), none, (.p .mv), [.tmp 1]⟩,
       ⟨(some 31), none, (.p (.cutS 1 false true false)), [.tmp 29, .tmp 30]⟩,
       ⟨(some 32), none, (.call 37), [.tmp 31]⟩,
       ⟨(some 5), none, (.p .mv), [.tmp 32]⟩])
     (.seq
      (.ops [⟨(some 33), none, (.p .mv), [.tmp 0]⟩,
        ⟨(some 34), none, (.p .mv), [.tmp 0]⟩,
        ⟨(some 35), none, (.p .nilchk), [.tmp 34]⟩,
        ⟨(some 36), none, (.p (.faddr 0)), [.tmp 35]⟩,
        ⟨(some 37), none, .load1, [.tmp 36]⟩,
        ⟨(some 38), none, (.p .mv), [.tmp 1]⟩,
        ⟨(some 39), none, (.p (.cutS 1 true false false)), [.tmp 37, .tmp 38]⟩,
        ⟨(some 40), none, (.p .nilchk), [.tmp 33]⟩,
        ⟨(some 41), none, (.p (.faddr 0)), [.tmp 40]⟩,
        ⟨none, none, .store1, [.tmp 41, .tmp 39]⟩])
      (.seq
       (.ops [⟨(some 42), none, (.p .mv), [.tmp 5]⟩,
         ⟨(some 4), none, (.p .mv), [.tmp 42]⟩])
       .ret)))))),
 [.t 4]⟩
theorem ir27_ok : cFn Try.prog Try.f27 = some ir27 := by kernel_rfl

/- (*pumice/codec.Reader).Raw -/
def ir28 : FIR := ⟨27,
 (.seq
  (.ops [⟨(some 4), none, (.p .mv), [.const (.slice none 0 0)]⟩])
  (.seq
   (.seq
    (.ops [⟨(some 6), none, (.p .mv), [.tmp 0]⟩,
      ⟨(some 7), none, (.p .mv), [.tmp 1]⟩,
      ⟨(some 8), none, (.call 36), [.tmp 6, .tmp 7]⟩,
      ⟨(some 9), none, (.p .not), [.tmp 8]⟩])
    (.cond (.tmp 9)
     (.seq
      (.ops [⟨(some 4), none, (.p .mv), [.const (.slice none 0 0)]⟩])
      .ret)
     .skip))
   (.seq
    (.ops [⟨(some 10), none, (.p .mv), [.tmp 0]⟩,
      ⟨(some 11), none, (.p .nilchk), [.tmp 10]⟩,
      ⟨(some 12), none, (.p (.faddr 0)), [.tmp 11]⟩,
      ⟨(some 13), none, .load1, [.tmp 12]⟩,
      ⟨(some 14), none, (.p .mv), [.tmp 1]⟩,
      ⟨(some 15), none, (.p (.cutS 1 false true false)), [.tmp 13, .tmp 14]⟩,
      ⟨(some 16), none, (.app 28 5 1 1 #[(.int .u8 0)]), [.const (.slice none 0 0), .tmp 15]⟩,
      ⟨(some 5), none, (.p .mv), [.tmp 16]⟩])
    (.seq
     (.ops [⟨(some 17), none, (.p .mv), [.tmp 0]⟩,
       ⟨(some 18), none, (.p .mv), [.tmp 0]⟩,
       ⟨(some 19), none, (.p .nilchk), [.tmp 18]⟩,
       ⟨(some 20), none, (.p (.faddr 0)), [.tmp 19]⟩,
       ⟨(some 21), none, .load1, [.tmp 20]⟩,
       ⟨(some 22), none, (.p .mv), [.tmp 1]⟩,
       ⟨(some 23), none, (.p (.cutS 1 true false false)), [.tmp 21, .tmp 22]⟩,
       ⟨(some 24), none, (.p .nilchk), [.tmp 17]⟩,
       ⟨(some 25), none, (.p (.faddr 0)), [.tmp 24]⟩,
       ⟨none, none, .store1, [.tmp 25, .tmp 23]⟩])
     (.seq
      (.ops [⟨(some 26), none, (.p .mv), [.tmp 5]⟩,
        ⟨(some 4), none, (.p .mv), [.tmp 26]⟩])
      .ret))))),
 [.t 4]⟩
theorem ir28_ok : cFn Try.prog Try.f28 = some ir28 := by kernel_rfl

/- (*pumice/codec.Reader).Blob -/
def ir29 : FIR := ⟨39,
 (.seq
  (.ops [⟨(some 4), none, (.p .mv), [.const (.slice none 0 0)]⟩])
  (.seq
   (.seq
    (.ops [⟨(some 6), none, (.p .mv), [.tmp 0]⟩,
      ⟨(some 7), none, (.call 36), [.tmp 6, .const (.int .i64 2)]⟩,
      ⟨(some 8), none, (.p .not), [.tmp 7]⟩])
    (.cond (.tmp 8)
     (.seq
      (.ops [⟨(some 4), none, (.p .mv), [.const (.slice none 0 0)]⟩])
      .ret)
     .skip))
   (.seq
    (.ops [⟨(some 9), none, (.p .mv), [.tmp 0]⟩,
      ⟨(some 10), none, (.p .nilchk), [.tmp 9]⟩,
      ⟨(some 11), none, (.p (.faddr 0)), [.tmp 10]⟩,
      ⟨(some 12), none, .load1, [.tmp 11]⟩,
      ⟨(some 13), none, (.p (.cutS 1 false true false)), [.tmp 12, .const (.int .i64 2)]⟩,
      ⟨(some 14), none, (.call 37), [.tmp 13]⟩,
      ⟨(some 15), none, (.p (.conv .i64)), [.tmp 14]⟩,
      ⟨(some 5), none, (.p .mv), [.tmp 15]⟩])
    (.seq
     (.seq
      (.ops [⟨(some 16), none, (.p .mv), [.tmp 5]⟩,
        ⟨(some 17), none, (.p .mv), [.tmp 1]⟩,
        ⟨(some 18), none, (.p .max), [.tmp 17, .const (.int .i64 0)]⟩,
        ⟨(some 19), none, (.p (.cmp .gtr)), [.tmp 16, .tmp 18]⟩])
      (.cond (.tmp 19)
       (.seq
        (.ops [⟨(some 20), none, (.p .mv), [.tmp 0]⟩,
          ⟨(some 21), none, (.p .nilchk), [.tmp 20]⟩,
          ⟨(some 22), none, (.p (.faddr 1)), [.tmp 21]⟩,
          ⟨none, none, .store1, [.tmp 22, .const (.int .i64 4)]⟩])
        (.seq
         (.ops [⟨(some 4), none, (.p .mv), [.const (.slice none 0 0)]⟩])
         .ret))
       .skip))
     (.seq
      (.seq
       (.ops [⟨(some 23), none, (.p .mv), [.tmp 0]⟩,
         ⟨(some 24), none, (.p .mv), [.tmp 5]⟩,
         ⟨(some 25), none, (.p (.bin .add)), [.tmp 24, .const (.int .i64 2)]⟩,
         ⟨(some 26), none, (.call 36), [.tmp 23, .tmp 25]⟩,
         ⟨(some 27), none, (.p .not), [.tmp 26]⟩])
       (.cond (.tmp 27)
        (.seq
         (.ops [⟨(some 4), none, (.p .mv), [.const (.slice none 0 0)]⟩])
         .ret)
        .skip))
      (.seq
       (.ops [⟨(some 28), none, (.p .mv), [.tmp 0]⟩,
         ⟨(some 29), none, (.p .mv), [.tmp 0]⟩,
         ⟨(some 30), none, (.p .nilchk), [.tmp 29]⟩,
         ⟨(some 31), none, (.p (.faddr 0)), [.tmp 30]⟩,
         ⟨(some 32), none, .load1, [.tmp 31]⟩,
         ⟨(some 33), none, (.p (.cutS 1 true false false)), [.tmp 32, .const (.int .i64 2)]⟩,
         ⟨(some 34), none, (.p .nilchk), [.tmp 28]⟩,
         ⟨(some 35), none, (.p (.faddr 0)), [.tmp 34]⟩,
         ⟨none, none, .store1, [.tmp 35, .tmp 33]⟩])
       (.seq
        (.ops [⟨(some 36), none, (.p .mv), [.tmp 0]⟩,
          ⟨(some 37), none, (.p .mv), [.tmp 5]⟩,
          ⟨(some 38), none, (.call 28), [.tmp 36, .tmp 37]⟩,
          ⟨(some 4), none, (.p .mv), [.tmp 38]⟩])
        .ret))))))),
 [.t 4]⟩
theorem ir29_ok : cFn Try.prog Try.f29 = some ir29 := by kernel_rfl

/- (*pumice/codec.Reader).End -/
def ir30 : FIR := ⟨24,
 (.seq
  (.ops [⟨(some 2), none, (.p .mv), [.const (.int .i64 0)]⟩])
  (.seq
   (.block 0
    (.seq
     (.ops [⟨(some 4), none, (.p .mv), [.tmp 0]⟩,
       ⟨(some 5), none, (.p (.isnil false)), [.tmp 4, .const (.pointer none)]⟩,
       ⟨(some 3), none, (.p .mv), [.tmp 5]⟩])
     (.cond (.tmp 3)
      (.seq
       (.ops [⟨(some 2), none, (.p .mv), [.const (.int .i64 0)]⟩])
       .ret)
      (.seq
       (.ops [⟨(some 7), none, (.p .mv), [.tmp 0]⟩,
         ⟨(some 8), none, (.p .nilchk), [.tmp 7]⟩,
         ⟨(some 9), none, (.p (.faddr 1)), [.tmp 8]⟩,
         ⟨(some 10), none, .load1, [.tmp 9]⟩,
         ⟨(some 11), none, (.p (.cmp .eql)), [.tmp 10, .const (.int .i64 0)]⟩,
         ⟨(some 12), none, (.p .mv), [.tmp 11]⟩,
         ⟨(some 13), (some (12, true)), (.p .mv), [.tmp 0]⟩,
         ⟨(some 14), (some (12, true)), (.p .nilchk), [.tmp 13]⟩,
         ⟨(some 15), (some (12, true)), (.p (.faddr 0)), [.tmp 14]⟩,
         ⟨(some 16), (some (12, true)), .load1, [.tmp 15]⟩,
         ⟨(some 17), (some (12, true)), (.p .lenS), [.tmp 16]⟩,
         ⟨(some 18), (some (12, true)), (.p (.cmp .gtr)), [.tmp 17, .const (.int .i64 0)]⟩,
         ⟨(some 19), none, (.p .pick), [.tmp 12, .tmp 18, .const (.bool false)]⟩,
         ⟨(some 6), none, (.p .mv), [.tmp 19]⟩])
       (.cond (.tmp 6)
        (.seq
         (.ops [⟨(some 2), none, (.p .mv), [.const (.int .i64 11)]⟩])
         .ret)
        .skip)))))
   (.seq
    (.ops [⟨(some 20), none, (.p .mv), [.tmp 0]⟩,
      ⟨(some 21), none, (.p .nilchk), [.tmp 20]⟩,
      ⟨(some 22), none, (.p (.faddr 1)), [.tmp 21]⟩,
      ⟨(some 23), none, .load1, [.tmp 22]⟩,
      ⟨(some 2), none, (.p .mv), [.tmp 23]⟩])
    .ret))),
 [.t 2]⟩
theorem ir30_ok : cFn Try.prog Try.f30 = some ir30 := by kernel_rfl

/- (*pumice/pumiceref01.Reader).Num -/
def ir31 : FIR := ⟨21,
 (.seq
  (.ops [⟨(some 4), none, (.p .mv), [.const (.int .u64 0)]⟩])
  (.seq
   (.seq
    (.ops [⟨(some 5), none, (.p .mv), [.tmp 0]⟩,
      ⟨(some 6), none, (.p .nilchk), [.tmp 5]⟩,
      ⟨(some 7), none, (.p (.faddr 2)), [.tmp 6]⟩,
      ⟨(some 8), none, .load1, [.tmp 7]⟩,
      ⟨(some 9), none, (.p (.cmp .eql)), [.tmp 8, .const (.int .i64 0)]⟩,
      ⟨(some 10), none, (.p .mv), [.tmp 9]⟩,
      ⟨(some 11), (some (10, true)), (.p .mv), [.tmp 1]⟩,
      ⟨(some 12), (some (10, true)), (.p (.cmp .gtr)), [.tmp 11, .const (.int .i64 8)]⟩,
      ⟨(some 13), none, (.p .pick), [.tmp 10, .tmp 12, .const (.bool false)]⟩])
    (.cond (.tmp 13)
     (.ops [⟨(some 14), none, (.p .mv), [.tmp 0]⟩,
       ⟨(some 15), none, (.p .nilchk), [.tmp 14]⟩,
       ⟨(some 16), none, (.p (.faddr 2)), [.tmp 15]⟩,
       ⟨none, none, .store1, [.tmp 16, .const (.int .i64 1)]⟩])
     .skip))
   (.seq
    (.ops [⟨(some 17), none, (.p .mv), [.tmp 0]⟩,
      ⟨(some 18), none, (.p .mv), [.tmp 1]⟩,
      ⟨(some 19), none, (.call 39), [.tmp 17, .tmp 18]⟩,
      ⟨(some 20), none, (.call 38), [.tmp 19]⟩,
      ⟨(some 4), none, (.p .mv), [.tmp 20]⟩])
    .ret))),
 [.t 4]⟩
theorem ir31_ok : cFn Try.prog Try.f31 = some ir31 := by kernel_rfl

/- (*pumice/pumiceref01.Reader).Raw -/
def ir32 : FIR := ⟨8,
 (.seq
  (.ops [⟨(some 4), none, (.p .mv), [.const (.slice none 0 0)]⟩])
  (.seq
   (.ops [⟨(some 5), none, (.p .mv), [.tmp 0]⟩,
     ⟨(some 6), none, (.p .mv), [.tmp 1]⟩,
     ⟨(some 7), none, (.call 39), [.tmp 5, .tmp 6]⟩,
     ⟨(some 4), none, (.p .mv), [.tmp 7]⟩])
   .ret)),
 [.t 4]⟩
theorem ir32_ok : cFn Try.prog Try.f32 = some ir32 := by kernel_rfl

/- (*pumice/pumiceref01.Reader).Blob -/
def ir33 : FIR := ⟨43,
 (.seq
  (.ops [⟨(some 4), none, (.p .mv), [.const (.slice none 0 0)]⟩])
  (.seq
   (.ops [⟨(some 8), none, (.p .mv), [.tmp 0]⟩,
     ⟨(some 9), none, (.p .nilchk), [.tmp 8]⟩,
     ⟨(some 10), none, (.p (.faddr 1)), [.tmp 9]⟩,
     ⟨(some 11), none, .load1, [.tmp 10]⟩,
     ⟨(some 5), none, (.p .mv), [.tmp 11]⟩])
   (.seq
    (.ops [⟨(some 12), none, (.p .mv), [.tmp 0]⟩,
      ⟨(some 13), none, (.call 31), [.tmp 12, .const (.int .i64 2)]⟩,
      ⟨(some 6), none, (.p .mv), [.tmp 13]⟩])
    (.seq
     (.seq
      (.ops [⟨(some 14), none, (.p .mv), [.tmp 0]⟩,
        ⟨(some 15), none, (.p .nilchk), [.tmp 14]⟩,
        ⟨(some 16), none, (.p (.faddr 2)), [.tmp 15]⟩,
        ⟨(some 17), none, .load1, [.tmp 16]⟩,
        ⟨(some 18), none, (.p (.cmp .eql)), [.tmp 17, .const (.int .i64 0)]⟩,
        ⟨(some 19), none, (.p .mv), [.tmp 18]⟩,
        ⟨(some 20), (some (19, true)), (.p .mv), [.tmp 6]⟩,
        ⟨(some 21), (some (19, true)), (.p .mv), [.tmp 1]⟩,
        ⟨(some 22), (some (19, true)), (.p .max), [.tmp 21, .const (.int .i64 0)]⟩,
        ⟨(some 23), (some (19, true)), (.p (.conv .u64)), [.tmp 22]⟩,
        ⟨(some 24), (some (19, true)), (.p (.cmp .gtr)), [.tmp 20, .tmp 23]⟩,
        ⟨(some 25), none, (.p .pick), [.tmp 19, .tmp 24, .const (.bool false)]⟩])
      (.cond (.tmp 25)
       (.ops [⟨(some 26), none, (.p .mv), [.tmp 0]⟩,
         ⟨(some 27), none, (.p .nilchk), [.tmp 26]⟩,
         ⟨(some 28), none, (.p (.faddr 2)), [.tmp 27]⟩,
         ⟨none, none, .store1, [.tmp 28, .const (.int .i64 4)]⟩])
       .skip))
     (.seq
      (.ops [⟨(some 29), none, (.p .mv), [.tmp 0]⟩,
        ⟨(some 30), none, (.p .mv), [.tmp 6]⟩,
        ⟨(some 31), none, (.p (.conv .i64)), [.tmp 30]⟩,
        ⟨(some 32), none, (.call 39), [.tmp 29, .tmp 31]⟩,
        ⟨(some 7), none, (.p .mv), [.tmp 32]⟩])
      (.seq
       (.seq
        (.ops [⟨(some 33), none, (.p .mv), [.tmp 0]⟩,
          ⟨(some 34), none, (.p .nilchk), [.tmp 33]⟩,
          ⟨(some 35), none, (.p (.faddr 2)), [.tmp 34]⟩,
          ⟨(some 36), none, .load1, [.tmp 35]⟩,
          ⟨(some 37), none, (.p (.cmp .neq)), [.tmp 36, .const (.int .i64 0)]⟩])
        (.cond (.tmp 37)
         (.ops [⟨(some 38), none, (.p .mv), [.tmp 0]⟩,
           ⟨(some 39), none, (.p .mv), [.tmp 5]⟩,
           ⟨(some 40), none, (.p .nilchk), [.tmp 38]⟩,
           ⟨(some 41), none, (.p (.faddr 1)), [.tmp 40]⟩,
           ⟨none, none, .store1, [.tmp 41, .tmp 39]⟩])
         .skip))
       (.seq
        (.ops [⟨(some 42), none, (.p .mv), [.tmp 7]⟩,
          ⟨(some 4), none, (.p .mv), [.tmp 42]⟩])
        .ret))))))),
 [.t 4]⟩
theorem ir33_ok : cFn Try.prog Try.f33 = some ir33 := by kernel_rfl

/- (*pumice/pumiceref01.Reader).End -/
def ir34 : FIR := ⟨24,
 (.seq
  (.ops [⟨(some 2), none, (.p .mv), [.const (.int .i64 0)]⟩])
  (.seq
   (.seq
    (.draw [⟨(some 3), none, (.p .mv), [.tmp 0]⟩,
      ⟨(some 4), none, (.p .nilchk), [.tmp 3]⟩,
      ⟨(some 5), none, (.p (.faddr 2)), [.tmp 4]⟩,
      ⟨(some 6), none, .load1, [.tmp 5]⟩,
      ⟨(some 7), none, (.p (.cmp .eql)), [.tmp 6, .const (.int .i64 0)]⟩,
      ⟨(some 8), none, (.p .mv), [.tmp 7]⟩,
      ⟨(some 9), (some (8, true)), (.p .mv), [.tmp 0]⟩,
      ⟨(some 10), (some (8, true)), (.p .nilchk), [.tmp 9]⟩,
      ⟨(some 11), (some (8, true)), (.p (.faddr 1)), [.tmp 10]⟩,
      ⟨(some 12), (some (8, true)), .load1, [.tmp 11]⟩,
      ⟨(some 13), (some (8, true)), (.p .mv), [.tmp 0]⟩,
      ⟨(some 14), (some (8, true)), (.p .nilchk), [.tmp 13]⟩,
      ⟨(some 15), (some (8, true)), (.p (.faddr 0)), [.tmp 14]⟩,
      ⟨(some 16), (some (8, true)), .load1, [.tmp 15]⟩,
      ⟨(some 17), (some (8, true)), (.p .lenS), [.tmp 16]⟩,
      ⟨(some 18), (some (8, true)), (.p (.cmp .lss)), [.tmp 12, .tmp 17]⟩,
      ⟨(some 19), none, (.p .pick), [.tmp 8, .tmp 18, .const (.bool false)]⟩] (.pu 0 (.pu 1 (.pu 2 (.fl 3 (.pu 4 (.pu 5 (.pu 6 (.pu 7 (.pu 8 (.pu 10 (.pu 11 (.pu 12 (.fl 9 (.fl 13 (.pu 14 (.pu 15 (.pu 16 .done))))))))))))))))))
    (.cond (.tmp 19)
     (.seq
      (.ops [⟨(some 2), none, (.p .mv), [.const (.int .i64 11)]⟩])
      .ret)
     .skip))
   (.seq
    (.ops [⟨(some 20), none, (.p .mv), [.tmp 0]⟩,
      ⟨(some 21), none, (.p .nilchk), [.tmp 20]⟩,
      ⟨(some 22), none, (.p (.faddr 2)), [.tmp 21]⟩,
      ⟨(some 23), none, .load1, [.tmp 22]⟩,
      ⟨(some 2), none, (.p .mv), [.tmp 23]⟩])
    .ret))),
 [.t 2]⟩
theorem ir34_ok : cFn Try.prog Try.f34 = some ir34 := by kernel_rfl

/- (*pumice/codec.Writer).fits -/
def ir35 : FIR := ⟨29,
 (.seq
  (.ops [⟨(some 4), none, (.p .mv), [.const (.bool false)]⟩])
  (.seq
   (.seq
    (.ops [⟨(some 5), none, (.p .mv), [.tmp 0]⟩,
      ⟨(some 6), none, (.p (.isnil false)), [.tmp 5, .const (.pointer none)]⟩,
      ⟨(some 7), none, (.p .mv), [.tmp 6]⟩,
      ⟨(some 8), (some (7, false)), (.p .mv), [.tmp 0]⟩,
      ⟨(some 9), (some (7, false)), (.p .nilchk), [.tmp 8]⟩,
      ⟨(some 10), (some (7, false)), (.p (.faddr 2)), [.tmp 9]⟩,
      ⟨(some 11), (some (7, false)), .load1, [.tmp 10]⟩,
      ⟨(some 12), (some (7, false)), (.p (.cmp .neq)), [.tmp 11, .const (.int .i64 0)]⟩,
      ⟨(some 13), none, (.p .pick), [.tmp 7, .const (.bool true), .tmp 12]⟩])
    (.cond (.tmp 13)
     (.seq
      (.ops [⟨(some 4), none, (.p .mv), [.const (.bool false)]⟩])
      .ret)
     .skip))
   (.seq
    (.seq
     (.draw [⟨(some 14), none, (.p .mv), [.tmp 1]⟩,
       ⟨(some 15), none, (.p .mv), [.tmp 0]⟩,
       ⟨(some 16), none, (.p .nilchk), [.tmp 15]⟩,
       ⟨(some 17), none, (.p (.faddr 1)), [.tmp 16]⟩,
       ⟨(some 18), none, .load1, [.tmp 17]⟩,
       ⟨(some 19), none, (.p .mv), [.tmp 0]⟩,
       ⟨(some 20), none, (.p .nilchk), [.tmp 19]⟩,
       ⟨(some 21), none, (.p (.faddr 0)), [.tmp 20]⟩,
       ⟨(some 22), none, .load1, [.tmp 21]⟩,
       ⟨(some 23), none, (.p .lenS), [.tmp 22]⟩,
       ⟨(some 24), none, (.p (.bin .sub)), [.tmp 18, .tmp 23]⟩,
       ⟨(some 25), none, (.p (.cmp .gtr)), [.tmp 14, .tmp 24]⟩] (.pu 0 (.pu 1 (.pu 2 (.pu 3 (.pu 5 (.pu 6 (.pu 7 (.fl 4 (.fl 8 (.pu 9 (.pu 10 (.pu 11 .done)))))))))))))
     (.cond (.tmp 25)
      (.seq
       (.ops [⟨(some 26), none, (.p .mv), [.tmp 0]⟩,
         ⟨(some 27), none, (.p .nilchk), [.tmp 26]⟩,
         ⟨(some 28), none, (.p (.faddr 2)), [.tmp 27]⟩,
         ⟨none, none, .store1, [.tmp 28, .const (.int .i64 4)]⟩])
       (.seq
        (.ops [⟨(some 4), none, (.p .mv), [.const (.bool false)]⟩])
        .ret))
      .skip))
    (.seq
     (.ops [⟨(some 4), none, (.p .mv), [.const (.bool true)]⟩])
     .ret)))),
 [.t 4]⟩
theorem ir35_ok : cFn Try.prog Try.f35 = some ir35 := by kernel_rfl

/- (*pumice/codec.Reader).there -/
def ir36 : FIR := ⟨32,
 (.seq
  (.ops [⟨(some 4), none, (.p .mv), [.const (.bool false)]⟩])
  (.seq
   (.block 0
    (.seq
     (.ops [⟨(some 6), none, (.p .mv), [.tmp 0]⟩,
       ⟨(some 7), none, (.p (.isnil false)), [.tmp 6, .const (.pointer none)]⟩,
       ⟨(some 8), none, (.p .mv), [.tmp 7]⟩,
       ⟨(some 9), (some (8, false)), (.p .mv), [.tmp 0]⟩,
       ⟨(some 10), (some (8, false)), (.p .nilchk), [.tmp 9]⟩,
       ⟨(some 11), (some (8, false)), (.p (.faddr 1)), [.tmp 10]⟩,
       ⟨(some 12), (some (8, false)), .load1, [.tmp 11]⟩,
       ⟨(some 13), (some (8, false)), (.p (.cmp .neq)), [.tmp 12, .const (.int .i64 0)]⟩,
       ⟨(some 14), none, (.p .pick), [.tmp 8, .const (.bool true), .tmp 13]⟩,
       ⟨(some 5), none, (.p .mv), [.tmp 14]⟩])
     (.cond (.tmp 5)
      (.seq
       (.ops [⟨(some 4), none, (.p .mv), [.const (.bool false)]⟩])
       .ret)
      (.seq
       (.ops [⟨(some 16), none, (.p .mv), [.tmp 1]⟩,
         ⟨(some 17), none, (.p (.cmp .lss)), [.tmp 16, .const (.int .i64 0)]⟩,
         ⟨(some 15), none, (.p .mv), [.tmp 17]⟩])
       (.cond (.tmp 15)
        (.seq
         (.ops [⟨(some 18), none, (.p .mv), [.tmp 0]⟩,
           ⟨(some 19), none, (.p .nilchk), [.tmp 18]⟩,
           ⟨(some 20), none, (.p (.faddr 1)), [.tmp 19]⟩,
           ⟨none, none, .store1, [.tmp 20, .const (.int .i64 1)]⟩])
         (.seq
          (.ops [⟨(some 4), none, (.p .mv), [.const (.bool false)]⟩])
          .ret))
        (.seq
         (.ops [⟨(some 22), none, (.p .mv), [.tmp 1]⟩,
           ⟨(some 23), none, (.p .mv), [.tmp 0]⟩,
           ⟨(some 24), none, (.p .nilchk), [.tmp 23]⟩,
           ⟨(some 25), none, (.p (.faddr 0)), [.tmp 24]⟩,
           ⟨(some 26), none, .load1, [.tmp 25]⟩,
           ⟨(some 27), none, (.p .lenS), [.tmp 26]⟩,
           ⟨(some 28), none, (.p (.cmp .gtr)), [.tmp 22, .tmp 27]⟩,
           ⟨(some 21), none, (.p .mv), [.tmp 28]⟩])
         (.cond (.tmp 21)
          (.seq
           (.ops [⟨(some 29), none, (.p .mv), [.tmp 0]⟩,
             ⟨(some 30), none, (.p .nilchk), [.tmp 29]⟩,
             ⟨(some 31), none, (.p (.faddr 1)), [.tmp 30]⟩,
             ⟨none, none, .store1, [.tmp 31, .const (.int .i64 10)]⟩])
           (.seq
            (.ops [⟨(some 4), none, (.p .mv), [.const (.bool false)]⟩])
            .ret))
          .skip)))))))
   (.seq
    (.ops [⟨(some 4), none, (.p .mv), [.const (.bool true)]⟩])
    .ret))),
 [.t 4]⟩
theorem ir36_ok : cFn Try.prog Try.f36 = some ir36 := by kernel_rfl

/- pumice/codec.number -/
def ir37 : FIR := ⟨22,
 (.seq
  (.ops [⟨(some 2), none, (.p .mv), [.const (.int .u64 0)]⟩])
  (.seq
   (.ops [⟨(some 3), none, (.p .mv), [.const (.int .u64 0)]⟩])
   (.seq
    (.seq
     (.ops [⟨(some 6), none, (.p .mv), [.tmp 0]⟩,
       ⟨(some 7), none, (.p .lenS), [.tmp 6]⟩,
       ⟨(some 8), none, (.p .mv), [.const (.int .i64 0)]⟩])
     (.block 0
      (.loop
       (.seq
        (.ops [⟨(some 9), none, (.p (.cmp .lss)), [.tmp 8, .tmp 7]⟩])
        (.seq
         (.cond (.tmp 9)
          .skip
          (.exit 0))
         (.seq
          (.block 1
           (.seq
            (.ops [⟨(some 10), none, (.p .mv), [.tmp 8]⟩,
              ⟨(some 11), none, (.p (.iaddrS 1)), [.tmp 6, .tmp 8]⟩,
              ⟨(some 12), none, .load1, [.tmp 11]⟩,
              ⟨(some 4), none, (.p .mv), [.tmp 10]⟩,
              ⟨(some 5), none, (.p .mv), [.tmp 12]⟩])
            (.ops [⟨(some 13), none, (.p .mv), [.tmp 3]⟩,
              ⟨(some 14), none, (.p .mv), [.tmp 5]⟩,
              ⟨(some 15), none, (.p (.conv .u64)), [.tmp 14]⟩,
              ⟨(some 16), none, (.p .mv), [.tmp 4]⟩,
              ⟨(some 17), none, (.p (.bin .mul)), [.const (.int .i64 8), .tmp 16]⟩,
              ⟨(some 18), none, (.p (.bin .shl)), [.tmp 15, .tmp 17]⟩,
              ⟨(some 19), none, (.p (.bin .or)), [.tmp 13, .tmp 18]⟩,
              ⟨(some 3), none, (.p .mv), [.tmp 19]⟩])))
          (.ops [⟨(some 20), none, (.p (.bin .add)), [.tmp 8, .const (.int .i64 1)]⟩,
            ⟨(some 8), none, (.p .mv), [.tmp 20]⟩])))))))
    (.seq
     (.ops [⟨(some 21), none, (.p .mv), [.tmp 3]⟩,
       ⟨(some 2), none, (.p .mv), [.tmp 21]⟩])
     .ret)))),
 [.t 2]⟩
theorem ir37_ok : cFn Try.prog Try.f37 = some ir37 := by kernel_rfl

/- pumice/pumiceref01.number -/
def ir38 : FIR := ⟨21,
 (.seq
  (.ops [⟨(some 2), none, (.p .mv), [.const (.int .u64 0)]⟩])
  (.seq
   (.ops [⟨(some 3), none, (.p .mv), [.const (.int .u64 0)]⟩])
   (.seq
    (.seq
     (.ops [⟨(some 5), none, (.p .mv), [.tmp 0]⟩,
       ⟨(some 6), none, (.p .lenS), [.tmp 5]⟩,
       ⟨(some 7), none, (.p (.bin .sub)), [.tmp 6, .const (.int .i64 1)]⟩,
       ⟨(some 4), none, (.p .mv), [.tmp 7]⟩])
     (.block 0
      (.loop
       (.seq
        (.seq
         (.ops [⟨(some 8), none, (.p .mv), [.tmp 4]⟩,
           ⟨(some 9), none, (.p (.cmp .geq)), [.tmp 8, .const (.int .i64 0)]⟩])
         (.cond (.tmp 9)
          .skip
          (.exit 0)))
        (.seq
         (.block 1
          (.ops [⟨(some 12), none, (.p .mv), [.tmp 3]⟩,
            ⟨(some 13), none, (.p (.bin .mul)), [.tmp 12, .const (.int .u64 256)]⟩,
            ⟨(some 14), none, (.p .mv), [.tmp 0]⟩,
            ⟨(some 15), none, (.p .mv), [.tmp 4]⟩,
            ⟨(some 16), none, (.p (.iaddrS 1)), [.tmp 14, .tmp 15]⟩,
            ⟨(some 17), none, .load1, [.tmp 16]⟩,
            ⟨(some 18), none, (.p (.conv .u64)), [.tmp 17]⟩,
            ⟨(some 19), none, (.p (.bin .add)), [.tmp 13, .tmp 18]⟩,
            ⟨(some 3), none, (.p .mv), [.tmp 19]⟩]))
         (.ops [⟨(some 10), none, (.p .mv), [.tmp 4]⟩,
           ⟨(some 11), none, (.p (.bin .sub)), [.tmp 10, .const (.int .i64 1)]⟩,
           ⟨(some 4), none, (.p .mv), [.tmp 11]⟩]))))))
    (.seq
     (.ops [⟨(some 20), none, (.p .mv), [.tmp 3]⟩,
       ⟨(some 2), none, (.p .mv), [.tmp 20]⟩])
     .ret)))),
 [.t 2]⟩
theorem ir38_ok : cFn Try.prog Try.f38 = some ir38 := by kernel_rfl

/- (*pumice/pumiceref01.Reader).take -/
def ir39 : FIR := ⟨54,
 (.seq
  (.ops [⟨(some 4), none, (.p .mv), [.const (.slice none 0 0)]⟩])
  (.seq
   (.seq
    (.ops [⟨(some 5), none, (.p .mv), [.tmp 0]⟩,
      ⟨(some 6), none, (.p .nilchk), [.tmp 5]⟩,
      ⟨(some 7), none, (.p (.faddr 2)), [.tmp 6]⟩,
      ⟨(some 8), none, .load1, [.tmp 7]⟩,
      ⟨(some 9), none, (.p (.cmp .neq)), [.tmp 8, .const (.int .i64 0)]⟩])
    (.cond (.tmp 9)
     (.seq
      (.ops [⟨(some 4), none, (.p .mv), [.const (.slice none 0 0)]⟩])
      .ret)
     .skip))
   (.seq
    (.seq
     (.ops [⟨(some 10), none, (.p .mv), [.tmp 1]⟩,
       ⟨(some 11), none, (.p (.cmp .lss)), [.tmp 10, .const (.int .i64 0)]⟩])
     (.cond (.tmp 11)
      (.seq
       (.ops [⟨(some 12), none, (.p .mv), [.tmp 0]⟩,
         ⟨(some 13), none, (.p .nilchk), [.tmp 12]⟩,
         ⟨(some 14), none, (.p (.faddr 2)), [.tmp 13]⟩,
         ⟨none, none, .store1, [.tmp 14, .const (.int .i64 1)]⟩])
       (.seq
        (.ops [⟨(some 4), none, (.p .mv), [.const (.slice none 0 0)]⟩])
        .ret))
      .skip))
    (.seq
     (.seq
      (.draw [⟨(some 15), none, (.p .mv), [.tmp 1]⟩,
        ⟨(some 16), none, (.p .mv), [.tmp 0]⟩,
        ⟨(some 17), none, (.p .nilchk), [.tmp 16]⟩,
        ⟨(some 18), none, (.p (.faddr 0)), [.tmp 17]⟩,
        ⟨(some 19), none, .load1, [.tmp 18]⟩,
        ⟨(some 20), none, (.p .lenS), [.tmp 19]⟩,
        ⟨(some 21), none, (.p .mv), [.tmp 0]⟩,
        ⟨(some 22), none, (.p .nilchk), [.tmp 21]⟩,
        ⟨(some 23), none, (.p (.faddr 1)), [.tmp 22]⟩,
        ⟨(some 24), none, .load1, [.tmp 23]⟩,
        ⟨(some 25), none, (.p (.bin .sub)), [.tmp 20, .tmp 24]⟩,
        ⟨(some 26), none, (.p (.cmp .gtr)), [.tmp 15, .tmp 25]⟩] (.pu 0 (.pu 1 (.pu 2 (.pu 3 (.pu 6 (.pu 7 (.pu 8 (.fl 4 (.pu 5 (.fl 9 (.pu 10 (.pu 11 .done)))))))))))))
      (.cond (.tmp 26)
       (.seq
        (.ops [⟨(some 27), none, (.p .mv), [.tmp 0]⟩,
          ⟨(some 28), none, (.p .nilchk), [.tmp 27]⟩,
          ⟨(some 29), none, (.p (.faddr 2)), [.tmp 28]⟩,
          ⟨none, none, .store1, [.tmp 29, .const (.int .i64 10)]⟩])
        (.seq
         (.ops [⟨(some 4), none, (.p .mv), [.const (.slice none 0 0)]⟩])
         .ret))
       .skip))
     (.seq
      (.ops [⟨(some 30), none, (.p .mv), [.tmp 0]⟩,
        ⟨(some 31), none, (.p .mv), [.tmp 0]⟩,
        ⟨(some 32), none, (.p .nilchk), [.tmp 31]⟩,
        ⟨(some 33), none, (.p (.faddr 1)), [.tmp 32]⟩,
        ⟨(some 34), none, .load1, [.tmp 33]⟩,
        ⟨(some 35), none, (.p .mv), [.tmp 1]⟩,
        ⟨(some 36), none, (.p (.bin .add)), [.tmp 34, .tmp 35]⟩,
        ⟨(some 37), none, (.p .nilchk), [.tmp 30]⟩,
        ⟨(some 38), none, (.p (.faddr 1)), [.tmp 37]⟩,
        ⟨none, none, .store1, [.tmp 38, .tmp 36]⟩])
      (.seq
       (.draw [⟨(some 39), none, (.p .mv), [.tmp 0]⟩,
         ⟨(some 40), none, (.p .nilchk), [.tmp 39]⟩,
         ⟨(some 41), none, (.p (.faddr 0)), [.tmp 40]⟩,
         ⟨(some 42), none, .load1, [.tmp 41]⟩,
         ⟨(some 43), none, (.p .mv), [.tmp 0]⟩,
         ⟨(some 44), none, (.p .nilchk), [.tmp 43]⟩,
         ⟨(some 45), none, (.p (.faddr 1)), [.tmp 44]⟩,
         ⟨(some 46), none, .load1, [.tmp 45]⟩,
         ⟨(some 47), none, (.p .mv), [.tmp 1]⟩,
         ⟨(some 48), none, (.p (.bin .sub)), [.tmp 46, .tmp 47]⟩,
         ⟨(some 49), none, (.p .mv), [.tmp 0]⟩,
         ⟨(some 50), none, (.p .nilchk), [.tmp 49]⟩,
         ⟨(some 51), none, (.p (.faddr 1)), [.tmp 50]⟩,
         ⟨(some 52), none, .load1, [.tmp 51]⟩,
         ⟨(some 53), none, (.p (.cutS 1 true true false)), [.tmp 42, .tmp 48, .tmp 52]⟩,
         ⟨(some 4), none, (.p .mv), [.tmp 53]⟩] (.pu 0 (.pu 1 (.pu 2 (.pu 4 (.pu 5 (.pu 6 (.pu 8 (.pu 10 (.pu 11 (.pu 12 (.fl 3 (.fl 7 (.pu 9 (.fl 13 (.pu 14 (.pu 15 .done)))))))))))))))))
       .ret)))))),
 [.t 4]⟩
theorem ir39_ok : cFn Try.prog Try.f39 = some ir39 := by kernel_rfl

/- NOT: 55 (*pumice/codec.Reader).Left: no body -/

end Go.Proofs.Ytkbegghcphokmaa
