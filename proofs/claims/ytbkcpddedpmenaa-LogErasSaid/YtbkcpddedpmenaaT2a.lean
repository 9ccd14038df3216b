/- The plain formulas of the program's functions, printed by gen.py (a program of this work). -/
import Derived.Test.YtbkcpddedpmenaaVcG
import Derived.Test.YtbkcpddedpmenaaProg
set_option maxRecDepth 100000
set_option linter.unusedVariables false
namespace Go.Proofs
open Go Go.Vc

/-! 3 pollard/pollardlaw08.LogStays -/
def A_pollardlaw08_LogStays : Ann := .keep [0, 1, 2, 3] (.sh .bool (.keep [0, 1, 2, 3, 9] (.sh (.tup [.ptr, .bool, .bool]) (.keep [0, 1, 2, 3, 9, 10, 11] (.gsplit (.keep [0, 1, 2, 3, 10, 
    48] (.known true (.keep [8] (.done)))) (.keep [0, 1, 2, 3, 10, 48] (.split (.keep [8] (.done)) (.keep [0, 1, 2, 3, 10] (.keep [0, 1, 2, 3, 10, 
    13] (.keep [0, 1, 2, 3, 10, 13, 14] (.sh .ptr (.sh (.agg [(.int .i64), (.int .i64)]) (.keep [0, 1, 2, 3, 10, 13, 14, 15] (.keep [0, 1, 2, 3, 10, 13, 
    14, 15, 16] (.loop [(13, .slc), (14, .slc), (16, (.int .i64))] [0, 1, 2, 3, 10, 15] (.keep [0, 1, 2, 3, 10, 13, 14, 15, 16, 57] (.split (.keep [0, 1, 
    2, 3, 10, 13, 14, 15, 16] (.cut [(13, .slc), (14, .slc)] [0, 1, 2, 3, 10, 15, 16] (.cut [(17, .adr), (18, (.int .i64))] [0, 1, 2, 3, 10, 13, 14, 15, 
    16] (.q 0 (.q 1 (.q 2 (.q 3 (.sh .ptr (.q 4 (.sh (.agg [(.int .i64), 
    (.int .i64)]) (.q 5 (.q 6 (.q 7 (.q 8 (.q 9 (.q 10 (.q 11 (.sh .slc (.alt 12 (.sh (.tup [(.agg [(.int .i64), (.int .i64)]), 
    (.int .i64)]) (.q 13 (.q 14 (.q 15 (.alt 16 (.alt 17 (.q 18 (.fin (.done))) .stop) .stop))))) (.alt 16 (.alt 12 (.sh (.tup [(.agg [(.int .i64), 
    (.int .i64)]), (.int .i64)]) (.q 13 (.q 14 (.q 15 (.alt 17 (.q 18 (.fin (.done))) .stop))))) .stop) .stop))))))))))))))))) (.keep [0, 1, 2, 3, 10, 
    13, 14, 15, 16, 17, 77] (.split (.sh (.int .i64) (.sh .slc (.keep [0, 1, 2, 3, 10, 13, 14, 15, 16, 17] (.sh .slc (.sh .slc (.keep [0, 1, 2, 3, 10, 
    13, 14, 15, 16, 17] (.sh (.agg [(.int .i64), (.int .i64)]) (.done)))))))) (.done)))) (.done))) (.keep [1, 2, 3, 10, 13, 14, 
    15] (.sh .ptr (.sh (.agg [(.int .i64), (.int .i64)]) (.keep [1, 2, 3, 10, 13, 14, 15, 19] (.sh .ptr (.sh .ptr (.keep [1, 2, 3, 10, 13, 14, 15, 19, 
    20] (.keep [1, 2, 3, 10, 13, 14, 15, 19, 20, 103] (.split (.keep [8] (.done)) (.keep [1, 2, 3, 10, 13, 14, 15, 19, 20] (.sh .nil (.keep [1, 2, 3, 10, 
    13, 14, 15, 19, 20] (.sh (.tup [(.int .i64), (.int .i64)]) (.keep [1, 2, 3, 10, 13, 14, 15, 19, 21, 22] (.gsplit (.keep [1, 2, 3, 10, 13, 14, 15, 
    117] (.known true (.keep [8] (.done)))) (.keep [1, 2, 3, 10, 13, 14, 15, 117] (.split (.keep [8] (.done)) (.keep [1, 2, 3, 10, 13, 14, 15] (.keep [1, 
    2, 3, 10, 13, 14, 15, 23] (.loop [(23, (.int .i64))] [1, 2, 3, 10, 13, 14, 15] (.keep [1, 2, 3, 10, 13, 14, 15, 23, 121] (.split (.keep [1, 2, 3, 10, 
    13, 14, 15, 
    23] (.q 0 (.q 1 (.q 2 (.q 3 (.sh .ptr (.q 4 (.q 5 (.q 6 (.q 7 (.sh .ptr (.q 9 (.q 10 (.q 11 (.q 12 (.sh .slc (.alt 8 (.sh (.agg [(.int .i64), 
    (.int .i64)]) (.alt 13 (.sh (.tup [(.agg [(.int .i64), (.int .i64)]), (.int .i64)]) (.fin (.keep [1, 2, 3, 10, 13, 14, 15, 
    23] (.done)))) .stop)) .stop))))))))))))))))) (.keep [2, 3, 10, 13, 14, 15] (.sh .ptr (.sh .ptr (.keep [2, 3, 10, 13, 14, 15, 24] (.keep [2, 3, 10, 
    13, 14, 15, 24, 144] (.split (.keep [8] (.done)) (.keep [2, 3, 10, 13, 14, 15, 24] (.cut [] [3, 10, 13, 14, 15] (.keep [2, 3, 10, 13, 14, 15, 24, 
    25] (.loop [(25, (.int .i64))] [2, 3, 10, 13, 14, 15, 24] (.gsplit (.keep [2, 3, 10, 13, 14, 15, 24, 25, 149, 150, 151] (.split (.keep [2, 3, 10, 13, 
    14, 15, 24, 25, 149, 150] (.sh .bool (.keep [2, 3, 10, 13, 14, 15, 24, 25, 149, 150] (.done)))) (.done))) (.keep [2, 3, 10, 13, 14, 15, 24, 25, 149, 
    150, 151] (.known false (.done)))))) (.sh .ptr (.sh .nil (.keep [10, 13, 14, 
    15] (.q 0 (.q 1 (.q 2 (.q 3 (.sh .ptr (.q 4 (.q 5 (.q 6 (.q 7 (.sh .ptr (.alt 8 (.sh (.int .i64) (.alt 9 (.sh (.tup [.ptr, 
    (.int .i64)]) (.q 10 (.q 11 (.q 12 (.q 13 (.q 14 (.fin (.keep [10, 13, 14, 15, 26, 27] (.gsplit (.keep [10, 13, 14, 15, 26, 
    180] (.known true (.keep [8] (.done)))) (.keep [10, 13, 14, 15, 26, 180] (.split (.keep [8] (.done)) (.keep [10, 13, 14, 15, 
    26] (.q 0 (.q 1 (.q 2 (.q 3 (.sh .ptr (.q 4 (.q 5 (.sh (.agg [(.int .i64), (.int .i64)]) (.alt 6 (.sh (.tup [.ptr, 
    (.int .i64)]) (.q 7 (.q 8 (.q 9 (.q 10 (.q 11 (.fin (.keep [13, 14, 28, 29] (.gsplit (.keep [13, 14, 28, 
    196] (.known true (.keep [8] (.done)))) (.keep [13, 14, 28, 196] (.split (.keep [8] (.done)) (.keep [13, 14, 28] (.keep [13, 14, 28, 30] (.loop [(30, 
    (.int .i64))] [13, 14, 28] (.keep [13, 14, 28, 30, 200] (.split (.keep [13, 14, 28, 30] (.sh (.int .i64) (.sh .ptr (.keep [13, 14, 28, 30, 
    31] (.keep [13, 14, 28, 30, 31, 210] (.split (.keep [8] (.done)) (.keep [13, 14, 28, 30, 31] (.sh .nil (.keep [13, 14, 28, 30, 
    31] (.sh (.tup [(.int .i64), (.int .i64), .slc, (.int .i64)]) (.keep [13, 14, 28, 30, 32, 34, 
    35] (.q 0 (.q 1 (.q 2 (.gsplit (.q 3 (.q 4 (.q 5 (.q 6 (.q 7 (.q 8 (.known true (.q 9 (.q 10 (.q 11 (.q 12 (.q 13 (.q 14 (.q 15 (.q 16 (.q 17 (.fin (.keep [13, 
    14, 28, 30, 223, 224, 225, 226, 229, 230, 231, 232, 233, 234, 235, 236, 
    237] (.known true (.keep [8] (.done))))))))))))))))))))) (.q 3 (.q 4 (.q 5 (.q 6 (.q 7 (.q 8 (.gsplit (.q 9 (.q 10 (.q 11 (.q 12 (.q 13 (.q 14 (.q 15 (.q 16 (.q 17 (.fin (.keep [13, 
    14, 28, 30, 223, 224, 225, 226, 229, 230, 231, 232, 233, 234, 235, 236, 
    237] (.known true (.keep [8] (.done)))))))))))))) (.q 9 (.q 10 (.fb 230 false .str (.q 11 (.q 12 (.q 13 (.q 14 (.sh .slc (.q 15 (.fb 235 false .str (.q 16 (.q 17 (.fin (.keep [13, 
    14, 28, 30, 223, 224, 225, 226, 229, 230, 231, 232, 233, 234, 235, 236, 237] (.split (.keep [8] (.done)) (.keep [13, 14, 28, 30, 223, 224, 225, 226, 
    229, 230, 231, 232, 233, 234, 235, 
    236] (.done))))))))))))))))))))))))))))))))))))))) (.keep [] (.keep [8] (.done))))))))))))))))))) .stop))))))))))))))))))))) .stop)) .stop)))))))))))))))))))))))))))))))))))))))))))))))))))))))))))))
def F_pollardlaw08_LogStays (a1a : Option Addr) (a1l a1c : Nat) (a2a : Option Addr) (a2l a2c : Nat) (a3 : Int) (a4a : Option Addr) (a4l a4c : Nat) (w : World) (R : Ending → World → Prop) : Prop :=
    Calls Try.prog 5 #[] w (fun e5 w6 => ∃ r7 : Bool, e5 = .returned (.bool r7) ∧ Calls Try.prog 6 #[(.int .i64 (552 : Int)), (.int .i64 (1 : Int)), 
    (.agg #[(.int .i64 (0 : Int)), (.int .i64 (8 : Int))]), (.int .i64 (1 : Int))] w6 (fun e8 w9 => ∃ r10 : Option Addr, ∃ r11 : Bool, ∃ r12 : Bool, 
    e8 = .returned (.tuple #[(.pointer r10), (.bool r11), (.bool r12)]) ∧ ((!r7) = true → R (.returned (.bool false)) w9) ∧ ((!r7) = false → 
    ((!r11) = true → R (.returned (.bool false)) w9) ∧ ((!r11) = false → ∃ b13 o14, r10 = some ⟨b13, o14, none⟩ ∧ ∃ L15 : Option Addr, w9.cell? ⟨b13, 
    o14 + 2, none⟩ = some (.pointer L15) ∧ Calls Try.prog 7 #[(.pointer L15)] w9 (fun e16 w17 => ∃ r18 : Int, ∃ r19 : Int, 
    e16 = .returned (.agg #[(.int .i64 r18), (.int .i64 r19)]) ∧ ∀ w20, w20 = w17.alloc (.cells #[(.int .i64 (0 : Int)), (.int .i64 (0 : Int))] 29) → 
    Wr w20 ⟨w17.heap.size, 0, none⟩ ∧ ∀ w21, w21 = w20.setCell ⟨w17.heap.size, 0, none⟩ (.int .i64 r18) → Wr w21 ⟨w17.heap.size, 0 + 1, none⟩ ∧ ∀ w22, 
    w22 = w21.setCell ⟨w17.heap.size, 0 + 1, none⟩ (.int .i64 r19) → ∃ (I23 : Slc → Slc → Int → World → Prop) (mu24 : Slc → Slc → Int → World → Nat), 
    I23 ⟨none, 0, 0⟩ ⟨none, 0, 0⟩ (0 : Int) w22 ∧ ∀ (x25 : Slc) (x26 : Slc) (x27 : Int) (w28 : World), I23 x25 x26 x27 w28 → 
    ((decide (x27 < ((a1l : Nat) : Int))) = true → ∀ J29 : Slc → Slc → World → Prop, (∀ (x30 : Slc) (x31 : Slc) (w32 : World), (∀ n33 : Int, 
    n33 = (IntKind.wrap .i64 (x27 + (1 : Int))) → I23 ⟨x30.a, x30.len, x30.cap⟩ ⟨x31.a, x31.len, x31.cap⟩ n33 w32 ∧ mu24 ⟨x30.a, x30.len, 
    x30.cap⟩ ⟨x31.a, x31.len, x31.cap⟩ n33 w32 < mu24 x25 x26 x27 w28) → J29 x30 x31 w32) → ∀ J34 : Nat → Int → World → Prop, 
    (∀ (x35 : Nat) (x36 : Int) (w37 : World), (((x36 == (0 : Int)) = true → ∃ Place38 : Int, w37.cell? ⟨w17.heap.size, 0 + 1, 
    none⟩ = some (.int .i64 Place38) ∧ ∀ w39, w39 = w37.alloc (.cells #[(.int .i64 Place38)] 3) → ∃ (s40a : Option Addr) (s40l s40c : Nat), ∃ w41, 
    Sem.run Try.prog (Builtin.append_ #[30, 30] 30 #[(.slice x25.a x25.len x25.cap), (.slice (some ⟨w37.heap.size, 0, 
    none⟩) 1 1)]) w39 = .ok (.slice s40a s40l s40c) w41 ∧ ∃ b42 o43, a1a = some ⟨b42, o43, none⟩ ∧ 0 ≤ x27 ∧ x27 < ((a1l : Nat) : Int) ∧ 
    ∃ (s44a : Option Addr) (s44l s44c : Nat), w41.cell? ⟨b42, o43 + Int.toNat x27 * 1, none⟩ = some (.slice s44a s44l s44c) ∧ ∀ w45, 
    w45 = w41.alloc (.cells #[(.slice s44a s44l s44c)] 47) → ∃ (s46a : Option Addr) (s46l s46c : Nat), ∃ w47, Sem.run Try.prog (Builtin.append_ #[22, 
    22] 22 #[(.slice x26.a x26.len x26.cap), (.slice (some ⟨w41.heap.size, 0, none⟩) 1 1)]) w45 = .ok (.slice s46a s46l s46c) w47 ∧ ∃ n50 : Int, 
    w47.cell? ⟨x35, 0, none⟩ = some (.int .i64 n50) ∧ ∃ n51 : Int, w47.cell? ⟨x35, 0 + 1, none⟩ = some (.int .i64 n51) ∧ Wr w47 ⟨w17.heap.size, 0, 
    none⟩ ∧ ∀ w52, w52 = w47.setCell ⟨w17.heap.size, 0, none⟩ (.int .i64 n50) → Wr w52 ⟨w17.heap.size, 0 + 1, none⟩ ∧ ∀ w53, 
    w53 = w52.setCell ⟨w17.heap.size, 0 + 1, none⟩ (.int .i64 n51) → J29 ⟨s40a, s40l, s40c⟩ ⟨s46a, s46l, s46c⟩ w53) ∧ ((x36 == (0 : Int)) = false → 
    J29 ⟨x25.a, x25.len, x25.cap⟩ ⟨x26.a, x26.len, x26.cap⟩ w37)) → J34 x35 x36 w37) → ∃ b54 o55, r10 = some ⟨b54, o55, none⟩ ∧ ∃ L56 : Option Addr, 
    w28.drew.cell? ⟨b54, o55 + 2, none⟩ = some (.pointer L56) ∧ ∃ n59 : Int, w28.drew.cell? ⟨w17.heap.size, 0, none⟩ = some (.int .i64 n59) ∧ 
    ∃ n60 : Int, w28.drew.cell? ⟨w17.heap.size, 0 + 1, none⟩ = some (.int .i64 n60) ∧ (5 : Int) ≠ 0 ∧ ∀ n61 : Int, n61 = (Int.tmod x27 (5 : Int)) → 
    ∀ n62 : Int, n62 = (IntKind.wrap .i64 ((1 : Int) + n61)) → ∃ b63 o64, a1a = some ⟨b63, o64, none⟩ ∧ 0 ≤ x27 ∧ x27 < ((a1l : Nat) : Int) ∧ 
    ∃ (s65a : Option Addr) (s65l s65c : Nat), w28.drew.cell? ⟨b63, o64 + Int.toNat x27 * 1, none⟩ = some (.slice s65a s65l s65c) ∧ 
    (Calls Try.prog 8 #[(.pointer L56), (.agg #[(.int .i64 n59), (.int .i64 n60)]), (.int .i64 n62), 
    (.slice s65a s65l s65c)] w28.drew (fun e66 w67 => ∃ r68 : Int, ∃ r69 : Int, ∃ r70 : Int, e66 = .returned (.tuple #[(.agg #[(.int .i64 r68), 
    (.int .i64 r69)]), (.int .i64 r70)]) ∧ ∀ w71, w71 = w67.alloc (.cells #[(.int .i64 (0 : Int)), (.int .i64 (0 : Int))] 29) → w71.cell? ⟨b63, 
    o64 + Int.toNat x27 * 1, none⟩ = some (.slice s65a s65l s65c) ∧ (w71.cell? ⟨w17.heap.size, 0, none⟩ = some (.int .i64 n59) ∧ 
    w71.cell? ⟨w17.heap.size, 0 + 1, none⟩ = some (.int .i64 n60)) ∧ w71.cell? ⟨b54, o55 + 2, none⟩ = some (.pointer L56) ∧ Wr w71 ⟨w67.heap.size, 0, 
    none⟩ ∧ ∀ w72, w72 = w71.setCell ⟨w67.heap.size, 0, none⟩ (.int .i64 r68) → Wr w72 ⟨w67.heap.size, 0 + 1, none⟩ ∧ ∀ w73, 
    w73 = w72.setCell ⟨w67.heap.size, 0 + 1, none⟩ (.int .i64 r69) → J34 w67.heap.size r70 w73)) ∧ (∀ w74, 
    w74 = w28.drew.alloc (.cells #[(.int .i64 (0 : Int)), (.int .i64 (0 : Int))] 29) → w74.cell? ⟨b63, o64 + Int.toNat x27 * 1, 
    none⟩ = some (.slice s65a s65l s65c) ∧ (w74.cell? ⟨w17.heap.size, 0, none⟩ = some (.int .i64 n59) ∧ w74.cell? ⟨w17.heap.size, 0 + 1, 
    none⟩ = some (.int .i64 n60)) ∧ w74.cell? ⟨b54, o55 + 2, none⟩ = some (.pointer L56) ∧ Calls Try.prog 8 #[(.pointer L56), (.agg #[(.int .i64 n59), 
    (.int .i64 n60)]), (.int .i64 n62), (.slice s65a s65l s65c)] w74 (fun e75 w76 => ∃ r77 : Int, ∃ r78 : Int, ∃ r79 : Int, 
    e75 = .returned (.tuple #[(.agg #[(.int .i64 r77), (.int .i64 r78)]), (.int .i64 r79)]) ∧ Wr w76 ⟨w28.drew.heap.size, 0, none⟩ ∧ ∀ w80, 
    w80 = w76.setCell ⟨w28.drew.heap.size, 0, none⟩ (.int .i64 r77) → Wr w80 ⟨w28.drew.heap.size, 0 + 1, none⟩ ∧ ∀ w81, 
    w81 = w80.setCell ⟨w28.drew.heap.size, 0 + 1, none⟩ (.int .i64 r78) → J34 w28.drew.heap.size r79 w81))) ∧ 
    ((decide (x27 < ((a1l : Nat) : Int))) = false → ∃ b82 o83, r10 = some ⟨b82, o83, none⟩ ∧ ∃ L84 : Option Addr, w28.cell? ⟨b82, o83 + 2, 
    none⟩ = some (.pointer L84) ∧ Calls Try.prog 7 #[(.pointer L84)] w28 (fun e85 w86 => ∃ r87 : Int, ∃ r88 : Int, 
    e85 = .returned (.agg #[(.int .i64 r87), (.int .i64 r88)]) ∧ ∃ b89 o90, r10 = some ⟨b89, o90, none⟩ ∧ ∃ L91 : Option Addr, w86.cell? ⟨b89, o90 + 2, 
    none⟩ = some (.pointer L91) ∧ Calls Try.prog 9 #[(.pointer L91)] w86 (fun e92 w93 => ∃ r94 : Option Addr, e92 = .returned (.pointer r94) ∧ 
    ((Option.isNone r94) = true → R (.returned (.bool false)) w93) ∧ ((Option.isNone r94) = false → 
    Calls Try.prog 10 #[(.pointer r94)] w93 (fun e95 w96 => e95 = .returned (.tuple #[]) ∧ 
    Calls Try.prog 11 #[(.pointer r94)] w96 (fun e97 w98 => ∃ r99 : Int, ∃ r100 : Int, e97 = .returned (.tuple #[(.int .i64 r99), (.int .i64 r100)]) ∧ 
    ((r100 != (0 : Int)) = true → R (.returned (.bool false)) w98) ∧ ((r100 != (0 : Int)) = false → ((r99 != r87) = true → 
    R (.returned (.bool false)) w98) ∧ ((r99 != r87) = false → ∃ (I101 : Int → World → Prop) (mu102 : Int → World → Nat), I101 (0 : Int) w98 ∧ 
    ∀ (x103 : Int) (w104 : World), I101 x103 w104 → ((decide (x103 < ((a2l : Nat) : Int))) = true → ∃ b105 o106, r10 = some ⟨b105, o106, none⟩ ∧ 
    ∃ L107 : Option Addr, w104.drew.cell? ⟨b105, o106 + 2, none⟩ = some (.pointer L107) ∧ ∃ b108 o109, r10 = some ⟨b108, o109, none⟩ ∧ 
    ∃ L110 : Option Addr, w104.drew.cell? ⟨b108, o109 + 2, none⟩ = some (.pointer L110) ∧ ∃ b111 o112, a2a = some ⟨b111, o112, none⟩ ∧ 0 ≤ x103 ∧ 
    x103 < ((a2l : Nat) : Int) ∧ ∃ (s113a : Option Addr) (s113l s113c : Nat), w104.drew.cell? ⟨b111, o112 + Int.toNat x103 * 1, 
    none⟩ = some (.slice s113a s113l s113c) ∧ Calls Try.prog 7 #[(.pointer L110)] w104.drew (fun e114 w115 => ∃ r116 : Int, ∃ r117 : Int, 
    e114 = .returned (.agg #[(.int .i64 r116), (.int .i64 r117)]) ∧ w115.cell? ⟨b111, o112 + Int.toNat x103 * 1, 
    none⟩ = some (.slice s113a s113l s113c) ∧ w115.cell? ⟨b105, o106 + 2, none⟩ = some (.pointer L107) ∧ Calls Try.prog 8 #[(.pointer L107), 
    (.agg #[(.int .i64 r116), (.int .i64 r117)]), (.int .i64 (1 : Int)), (.slice s113a s113l s113c)] w115 (fun e118 w119 => ∃ r120 : Int, ∃ r121 : Int, 
    ∃ r122 : Int, e118 = .returned (.tuple #[(.agg #[(.int .i64 r120), (.int .i64 r121)]), (.int .i64 r122)]) ∧ ∀ n123 : Int, 
    n123 = (IntKind.wrap .i64 (x103 + (1 : Int))) → I101 n123 w119 ∧ mu102 n123 w119 < mu102 x103 w104))) ∧ 
    ((decide (x103 < ((a2l : Nat) : Int))) = false → ∃ b124 o125, r10 = some ⟨b124, o125, none⟩ ∧ ∃ L126 : Option Addr, w104.cell? ⟨b124, o125 + 2, 
    none⟩ = some (.pointer L126) ∧ Calls Try.prog 9 #[(.pointer L126)] w104 (fun e127 w128 => ∃ r129 : Option Addr, e127 = .returned (.pointer r129) ∧ 
    ((Option.isNone r129) = true → R (.returned (.bool false)) w128) ∧ ((Option.isNone r129) = false → ∀ J130 : World → Prop, (∀ (w131 : World), 
    (∃ b132 o133, r10 = some ⟨b132, o133, none⟩ ∧ ∃ D134 : Option Addr, w131.cell? ⟨b132, o133, none⟩ = some (.pointer D134) ∧ 
    Calls Try.prog 13 #[(.pointer D134), (.slice a4a a4l a4c)] w131 (fun e135 w136 => e135 = .returned (.tuple #[]) ∧ ∃ b137 o138, r10 = some ⟨b137, 
    o138, none⟩ ∧ ∃ D139 : Option Addr, w136.drew.cell? ⟨b137, o138, none⟩ = some (.pointer D139) ∧ ∃ b140 o141, r10 = some ⟨b140, o141, none⟩ ∧ 
    ∃ S142 : Option Addr, w136.drew.cell? ⟨b140, o141 + 1, none⟩ = some (.pointer S142) ∧ 
    Calls Try.prog 15 #[(.pointer S142)] w136.drew (fun e143 w144 => ∃ r145 : Int, e143 = .returned (.int .i64 r145) ∧ w144.cell? ⟨b137, o138, 
    none⟩ = some (.pointer D139) ∧ Calls Try.prog 14 #[(.pointer D139), (.int .i64 (1 : Int)), 
    (.int .i64 r145)] w144 (fun e146 w147 => ∃ r148 : Option Addr, ∃ r149 : Int, e146 = .returned (.tuple #[(.pointer r148), (.int .i64 r149)]) ∧ 
    ((r149 != (0 : Int)) = true → R (.returned (.bool false)) w147) ∧ ((r149 != (0 : Int)) = false → ((Option.isNone r148) = true → 
    R (.returned (.bool false)) w147) ∧ ((Option.isNone r148) = false → ∃ b150 o151, r10 = some ⟨b150, o151, none⟩ ∧ ∃ D152 : Option Addr, 
    w147.drew.cell? ⟨b150, o151, none⟩ = some (.pointer D152) ∧ ∃ n155 : Int, w147.drew.cell? ⟨w17.heap.size, 0, none⟩ = some (.int .i64 n155) ∧ 
    ∃ n156 : Int, w147.drew.cell? ⟨w17.heap.size, 0 + 1, none⟩ = some (.int .i64 n156) ∧ Calls Try.prog 16 #[(.pointer D152), (.pointer r148), 
    (.agg #[(.int .i64 n155), (.int .i64 n156)]), (.int .i64 (2 : Int))] w147.drew (fun e157 w158 => ∃ r159 : Option Addr, ∃ r160 : Int, 
    e157 = .returned (.tuple #[(.pointer r159), (.int .i64 r160)]) ∧ ((r160 != (0 : Int)) = true → R (.returned (.bool false)) w158) ∧ 
    ((r160 != (0 : Int)) = false → ((Option.isNone r159) = true → R (.returned (.bool false)) w158) ∧ ((Option.isNone r159) = false → ∃ (I161 : Int → 
    World → Prop) (mu162 : Int → World → Nat), I161 (0 : Int) w158 ∧ ∀ (x163 : Int) (w164 : World), I161 x163 w164 → 
    ((decide (x163 < ((x25.len : Nat) : Int))) = true → ∃ b165 o166, x25.a = some ⟨b165, o166, none⟩ ∧ 0 ≤ x163 ∧ x163 < ((x25.len : Nat) : Int) ∧ 
    ∃ n167 : Int, w164.cell? ⟨b165, o166 + Int.toNat x163 * 1, none⟩ = some (.int .i64 n167) ∧ Calls Try.prog 17 #[(.pointer r159), 
    (.int .i64 n167)] w164 (fun e168 w169 => ∃ r170 : Option Addr, e168 = .returned (.pointer r170) ∧ ((Option.isNone r170) = true → 
    R (.returned (.bool false)) w169) ∧ ((Option.isNone r170) = false → 
    Calls Try.prog 18 #[(.pointer r170)] w169 (fun e171 w172 => e171 = .returned (.tuple #[]) ∧ 
    Calls Try.prog 19 #[(.pointer r170)] w172 (fun e173 w174 => ∃ r175 : Int, ∃ r176 : Int, ∃ (r177a : Option Addr) (r177l r177c : Nat), ∃ r178 : Int, 
    e173 = .returned (.tuple #[(.int .i64 r175), (.int .i64 r176), (.slice r177a r177l r177c), (.int .i64 r178)]) ∧ ((r178 != (0 : Int)) = true → 
    R (.returned (.bool false)) w174.drew) ∧ ((r178 != (0 : Int)) = false → ∀ n179 : Int, n179 = (IntKind.wrap .i64 (x163 + (1 : Int))) → 
    ((r175 != n179) = true → R (.returned (.bool false)) w174.drew) ∧ ((r175 != n179) = false → ∃ s180 : ByteArray, 
    Sem.run Try.prog (convert 47 9 (.slice r177a r177l r177c)) w174.drew = .ok (.string s180) w174.drew ∧ ∃ b181 o182, x26.a = some ⟨b181, o182, none⟩ ∧ 
    0 ≤ x163 ∧ x163 < ((x26.len : Nat) : Int) ∧ ∃ (s183a : Option Addr) (s183l s183c : Nat), w174.drew.cell? ⟨b181, o182 + Int.toNat x163 * 1, 
    none⟩ = some (.slice s183a s183l s183c) ∧ ∃ s184 : ByteArray, 
    Sem.run Try.prog (convert 47 9 (.slice s183a s183l s183c)) w174.drew = .ok (.string s184) w174.drew ∧ ((!(s180.toList == s184.toList)) = true → 
    R (.returned (.bool false)) w174.drew) ∧ ((!(s180.toList == s184.toList)) = false → ∀ n185 : Int, n185 = (IntKind.wrap .i64 (x163 + (1 : Int))) → 
    I161 n185 w174.drew ∧ mu162 n185 w174.drew < mu162 x163 w164)))))))) ∧ ((decide (x163 < ((x25.len : Nat) : Int))) = false → 
    R (.returned (.bool true)) w164)))))))))) → J130  w131) → ∃ (I186 : Int → World → Prop) (mu187 : Int → World → Nat), I186 (0 : Int) w128 ∧ 
    ∀ (x188 : Int) (w189 : World), I186 x188 w189 → ((decide (x188 < a3)) = true → ((decide (x188 < (60 : Int))) = true → 
    Calls Try.prog 12 #[(.pointer r129)] w189 (fun e190 w191 => ∃ r192 : Bool, e190 = .returned (.bool r192) ∧ ∀ n193 : Int, 
    n193 = (IntKind.wrap .i64 (x188 + (1 : Int))) → I186 n193 w191 ∧ mu187 n193 w191 < mu187 x188 w189)) ∧ ((decide (x188 < (60 : Int))) = false → 
    J130  w189)) ∧ ((decide (x188 < a3)) = false → J130  w189)))))))))))))))))
theorem E_pollardlaw08_LogStays (a1a : Option Addr) (a1l a1c : Nat) (a2a : Option Addr) (a2l a2c : Nat) (a3 : Int) (a4a : Option Addr) (a4l a4c : Nat) (w : World) (R : Ending → World → Prop) : F_pollardlaw08_LogStays a1a a1l a1c a2a a2l a2c a3 a4a a4l a4c w R = fnVC Try.prog Try.f3 A_pollardlaw08_LogStays [(.slice a1a a1l a1c), (.slice a2a a2l a2c), (.int .i64 a3), (.slice a4a a4l a4c)] w R := by kernel_rfl
theorem C_pollardlaw08_LogStays {a1a : Option Addr} {a1l a1c : Nat} {a2a : Option Addr} {a2l a2c : Nat} {a3 : Int} {a4a : Option Addr} {a4l a4c : Nat} {w : World} {R : Ending → World → Prop} (h : F_pollardlaw08_LogStays a1a a1l a1c a2a a2l a2c a3 a4a a4l a4c w R) : Calls Try.prog 3 #[(.slice a1a a1l a1c), (.slice a2a a2l a2c), (.int .i64 a3), (.slice a4a a4l a4c)] w R := fnVC_calls Try.func3 (Eq.mp (E_pollardlaw08_LogStays a1a a1l a1c a2a a2l a2c a3 a4a a4l a4c w R) h)

/-! 4 pollard/pollardlaw08.LogEras -/
def A_pollardlaw08_LogEras : Ann := .keep [0, 1, 2, 3] (.sh .bool (.keep [0, 1, 2, 3, 9] (.sh (.tup [.ptr, .bool, .bool]) (.keep [0, 1, 2, 3, 9, 10, 11] (.gsplit (.keep [0, 1, 2, 3, 10, 
    47] (.known true (.keep [8] (.done)))) (.keep [0, 1, 2, 3, 10, 47] (.split (.keep [8] (.done)) (.keep [0, 1, 2, 3, 10] (.keep [0, 1, 2, 3, 10, 
    13] (.loop [(13, (.int .i64))] [0, 1, 2, 3, 10] (.keep [0, 1, 2, 3, 10, 13, 51] (.split (.keep [0, 1, 2, 3, 10, 
    13] (.q 0 (.q 1 (.q 2 (.q 3 (.sh .ptr (.q 4 (.q 5 (.q 6 (.q 7 (.sh .ptr (.q 9 (.q 10 (.q 11 (.q 12 (.sh .slc (.alt 8 (.sh (.agg [(.int .i64), 
    (.int .i64)]) (.alt 13 (.sh (.tup [(.agg [(.int .i64), (.int .i64)]), (.int .i64)]) (.fin (.keep [0, 1, 2, 3, 10, 
    13] (.done)))) .stop)) .stop))))))))))))))))) (.keep [1, 2, 3, 10] (.sh .bool (.keep [1, 2, 3, 10, 14] (.sh .ptr (.sh (.agg [(.int .i64), 
    (.int .i64)]) (.keep [1, 2, 3, 10, 14, 15] (.keep [1, 2, 3, 10, 14, 15, 16] (.loop [(16, (.int .i64))] [1, 2, 3, 10, 14, 15] (.keep [1, 2, 3, 10, 14, 
    15, 16, 78] (.split (.keep [1, 2, 3, 10, 14, 15, 
    16] (.q 0 (.q 1 (.q 2 (.q 3 (.sh .ptr (.q 4 (.q 5 (.q 6 (.q 7 (.sh .ptr (.q 9 (.q 10 (.q 11 (.q 12 (.sh .slc (.alt 8 (.sh (.agg [(.int .i64), 
    (.int .i64)]) (.alt 13 (.sh (.tup [(.agg [(.int .i64), (.int .i64)]), (.int .i64)]) (.fin (.keep [1, 2, 3, 10, 14, 15, 
    16] (.done)))) .stop)) .stop))))))))))))))))) (.keep [2, 3, 10, 14, 15] (.sh .ptr (.sh .ptr (.keep [2, 3, 10, 14, 15, 17] (.gsplit (.keep [2, 3, 10, 
    15, 17, 105] (.known true (.keep [8] (.done)))) (.keep [2, 3, 10, 15, 17, 105] (.split (.keep [8] (.done)) (.keep [2, 3, 10, 15, 17] (.keep [2, 3, 
    10, 15, 17, 18] (.loop [(18, (.int .i64))] [2, 3, 10, 15, 
    17] (.q 0 (.q 1 (.q 2 (.q 3 (.q 4 (.sh .ptr (.q 7 (.q 8 (.sh (.int .i64) (.alt 5 (.sh (.agg [(.int .i64), 
    (.int .i64)]) (.q 6 (.q 9 (.q 10 (.fin (.keep [2, 3, 10, 15, 17, 18, 116] (.split (.keep [2, 3, 10, 15, 17, 18] (.sh .bool (.keep [2, 3, 10, 15, 17, 
    18] (.done)))) (.keep [2, 3, 10, 15] (.sh .ptr (.sh .nil (.keep [3, 10, 
    15] (.q 0 (.q 1 (.q 2 (.q 3 (.sh .ptr (.q 4 (.q 5 (.sh (.int .i64) (.q 6 (.q 7 (.alt 8 (.sh (.tup [.ptr, 
    (.int .i64)]) (.q 9 (.q 10 (.q 11 (.q 12 (.q 13 (.fin (.keep [3, 10, 15, 19, 20] (.gsplit (.keep [3, 10, 15, 19, 
    144] (.known true (.keep [8] (.done)))) (.keep [3, 10, 15, 19, 144] (.split (.keep [8] (.done)) (.keep [3, 10, 15, 
    19] (.q 0 (.q 1 (.q 2 (.q 3 (.sh .ptr (.q 4 (.q 5 (.sh (.agg [(.int .i64), (.int .i64)]) (.alt 6 (.sh (.tup [.ptr, 
    (.int .i64)]) (.q 7 (.q 8 (.q 9 (.q 10 (.q 11 (.fin (.keep [3, 10, 15, 19, 21, 22] (.gsplit (.keep [3, 10, 15, 19, 21, 
    160] (.known true (.keep [8] (.done)))) (.keep [3, 10, 15, 19, 21, 160] (.split (.keep [8] (.done)) (.keep [3, 10, 15, 19, 21] (.keep [3, 10, 15, 19, 
    21] (.keep [3, 10, 15, 21] (.keep [3, 10, 15, 21, 23] (.cut [(23, .slc)] [3, 10, 15, 21] (.keep [3, 10, 15, 21, 23, 24] (.loop [(23, .slc), (24, 
    (.int .i64))] [3, 10, 15, 21] (.keep [3, 10, 15, 21, 23, 24, 172] (.split (.keep [3, 10, 15, 21, 23, 24] (.sh (.agg [(.int .i64), 
    (.int .i64)]) (.keep [3, 10, 15, 21, 23, 24, 25] (.cut [(27, (.int .i64))] [3, 10, 15, 21, 23, 24, 25] (.q 0 (.q 1 (.sh (.agg [(.int .i64), 
    (.int .i64)]) (.q 2 (.q 3 (.q 4 (.q 5 (.sh .slc (.alt 6 (.sh (.tup [(.agg [(.int .i64), (.int .i64)]), 
    (.int .i64)]) (.q 7 (.q 8 (.q 9 (.alt 10 (.alt 11 (.q 12 (.fin (.done))) .stop) .stop))))) (.alt 10 (.alt 6 (.sh (.tup [(.agg [(.int .i64), 
    (.int .i64)]), (.int .i64)]) (.q 7 (.q 8 (.q 9 (.alt 11 (.q 12 (.fin (.done))) .stop))))) .stop) .stop)))))))))) (.keep [3, 10, 15, 21, 23, 24, 25, 
    188] (.split (.done) (.keep [3, 10, 15, 21, 23, 24, 25] (.sh (.int .i64) (.sh .slc (.keep [3, 10, 15, 21, 23, 
    24] (.done))))))))))) (.done))))) (.sh .bool (.keep [3, 15, 21, 23, 28] (.sh .nil (.keep [3, 15, 21, 23, 28] (.keep [3, 15, 21, 23, 
    199] (.split (.keep [8] (.done)) (.keep [3, 15, 21, 23] (.keep [3, 15, 21, 23, 29] (.loop [(29, (.int .i64))] [3, 15, 21, 23] (.keep [3, 15, 21, 23, 
    29, 203] (.split (.keep [3, 15, 21, 23, 29] (.sh (.int .i64) (.sh .ptr (.keep [3, 15, 21, 23, 29, 30] (.keep [3, 15, 21, 23, 29, 30, 
    213] (.split (.keep [8] (.done)) (.keep [3, 15, 21, 23, 29, 30] (.sh .nil (.keep [3, 15, 21, 23, 29, 30] (.sh (.tup [(.int .i64), (.int .i64), .slc, 
    (.int .i64)]) (.keep [3, 15, 21, 23, 29, 31, 32, 33, 
    34] (.q 0 (.q 1 (.q 2 (.gsplit (.q 3 (.q 4 (.q 5 (.q 6 (.q 7 (.q 8 (.q 9 (.q 10 (.q 11 (.known true (.q 12 (.q 13 (.q 14 (.q 15 (.known true (.q 16 (.q 17 (.q 18 (.q 19 (.q 20 (.q 21 (.q 22 (.q 23 (.q 24 (.fin (.keep [3, 
    15, 21, 23, 29, 226, 227, 228, 229, 230, 231, 232, 235, 236, 239, 240, 241, 242, 243, 244, 245, 246, 
    247] (.known true (.keep [8] (.done))))))))))))))))))))))))))))) (.q 3 (.q 4 (.q 5 (.sh (.int .i64) (.q 6 (.q 7 (.q 8 (.q 9 (.q 10 (.q 11 (.gsplit (.q 12 (.q 13 (.q 14 (.q 15 (.known true (.q 16 (.q 17 (.q 18 (.q 19 (.q 20 (.q 21 (.q 22 (.q 23 (.q 24 (.fin (.keep [3, 
    15, 21, 23, 29, 226, 227, 228, 229, 230, 231, 232, 235, 236, 239, 240, 241, 242, 243, 244, 245, 246, 
    247] (.known true (.keep [8] (.done))))))))))))))))))) (.q 12 (.q 13 (.q 14 (.q 15 (.gsplit (.q 16 (.q 17 (.q 18 (.q 19 (.q 20 (.q 21 (.q 22 (.q 23 (.q 24 (.fin (.keep [3, 
    15, 21, 23, 29, 226, 227, 228, 229, 230, 231, 232, 235, 236, 239, 240, 241, 242, 243, 244, 245, 246, 
    247] (.known true (.keep [8] (.done)))))))))))))) (.q 16 (.q 17 (.fb 240 false .str (.q 18 (.q 19 (.q 20 (.q 21 (.sh .slc (.q 22 (.fb 245 false .str (.q 23 (.q 24 (.fin (.keep [3, 
    15, 21, 23, 29, 226, 227, 228, 229, 230, 231, 232, 235, 236, 239, 240, 241, 242, 243, 244, 245, 246, 247] (.split (.keep [8] (.done)) (.keep [3, 15, 
    21, 23, 29, 226, 227, 228, 229, 230, 231, 232, 235, 236, 239, 240, 241, 242, 243, 244, 245, 
    246] (.done)))))))))))))))))))))))))))))))))))))))))))))))) (.keep [] (.keep [8] (.done)))))))))))))))))))))))))))))) .stop))))))))))))))))))))) .stop)))))))))))))))))))))) .stop))))))))))))))))))))))))))))))))))))))))))
def F_pollardlaw08_LogEras (a1a : Option Addr) (a1l a1c : Nat) (a2a : Option Addr) (a2l a2c : Nat) (a3a : Option Addr) (a3l a3c : Nat) (a4a : Option Addr) (a4l a4c : Nat) (w : World) (R : Ending → World → Prop) : Prop :=
    Calls Try.prog 5 #[] w (fun e5 w6 => ∃ r7 : Bool, e5 = .returned (.bool r7) ∧ Calls Try.prog 6 #[(.int .i64 (552 : Int)), (.int .i64 (1 : Int)), 
    (.agg #[(.int .i64 (0 : Int)), (.int .i64 (8 : Int))]), (.int .i64 (1 : Int))] w6 (fun e8 w9 => ∃ r10 : Option Addr, ∃ r11 : Bool, ∃ r12 : Bool, 
    e8 = .returned (.tuple #[(.pointer r10), (.bool r11), (.bool r12)]) ∧ ((!r7) = true → R (.returned (.bool false)) w9) ∧ ((!r7) = false → 
    ((!r11) = true → R (.returned (.bool false)) w9) ∧ ((!r11) = false → ∃ (I13 : Int → World → Prop) (mu14 : Int → World → Nat), I13 (0 : Int) w9 ∧ 
    ∀ (x15 : Int) (w16 : World), I13 x15 w16 → ((decide (x15 < ((a1l : Nat) : Int))) = true → ∃ b17 o18, r10 = some ⟨b17, o18, none⟩ ∧ 
    ∃ L19 : Option Addr, w16.drew.cell? ⟨b17, o18 + 2, none⟩ = some (.pointer L19) ∧ ∃ b20 o21, r10 = some ⟨b20, o21, none⟩ ∧ ∃ L22 : Option Addr, 
    w16.drew.cell? ⟨b20, o21 + 2, none⟩ = some (.pointer L22) ∧ ∃ b23 o24, a1a = some ⟨b23, o24, none⟩ ∧ 0 ≤ x15 ∧ x15 < ((a1l : Nat) : Int) ∧ 
    ∃ (s25a : Option Addr) (s25l s25c : Nat), w16.drew.cell? ⟨b23, o24 + Int.toNat x15 * 1, none⟩ = some (.slice s25a s25l s25c) ∧ 
    Calls Try.prog 7 #[(.pointer L22)] w16.drew (fun e26 w27 => ∃ r28 : Int, ∃ r29 : Int, e26 = .returned (.agg #[(.int .i64 r28), (.int .i64 r29)]) ∧ 
    w27.cell? ⟨b23, o24 + Int.toNat x15 * 1, none⟩ = some (.slice s25a s25l s25c) ∧ w27.cell? ⟨b17, o18 + 2, none⟩ = some (.pointer L19) ∧ 
    Calls Try.prog 8 #[(.pointer L19), (.agg #[(.int .i64 r28), (.int .i64 r29)]), (.int .i64 (1 : Int)), 
    (.slice s25a s25l s25c)] w27 (fun e30 w31 => ∃ r32 : Int, ∃ r33 : Int, ∃ r34 : Int, e30 = .returned (.tuple #[(.agg #[(.int .i64 r32), 
    (.int .i64 r33)]), (.int .i64 r34)]) ∧ ∀ n35 : Int, n35 = (IntKind.wrap .i64 (x15 + (1 : Int))) → I13 n35 w31 ∧ mu14 n35 w31 < mu14 x15 w16))) ∧ 
    ((decide (x15 < ((a1l : Nat) : Int))) = false → Calls Try.prog 20 #[(.pointer r10)] w16 (fun e36 w37 => ∃ r38 : Bool, e36 = .returned (.bool r38) ∧ 
    ∃ b39 o40, r10 = some ⟨b39, o40, none⟩ ∧ ∃ L41 : Option Addr, w37.cell? ⟨b39, o40 + 2, none⟩ = some (.pointer L41) ∧ 
    Calls Try.prog 7 #[(.pointer L41)] w37 (fun e42 w43 => ∃ r44 : Int, ∃ r45 : Int, e42 = .returned (.agg #[(.int .i64 r44), (.int .i64 r45)]) ∧ ∀ w46, 
    w46 = w43.alloc (.cells #[(.int .i64 (0 : Int)), (.int .i64 (0 : Int))] 29) → Wr w46 ⟨w43.heap.size, 0, none⟩ ∧ ∀ w47, 
    w47 = w46.setCell ⟨w43.heap.size, 0, none⟩ (.int .i64 r44) → Wr w47 ⟨w43.heap.size, 0 + 1, none⟩ ∧ ∀ w48, w48 = w47.setCell ⟨w43.heap.size, 0 + 1, 
    none⟩ (.int .i64 r45) → ∃ (I49 : Int → World → Prop) (mu50 : Int → World → Nat), I49 (0 : Int) w48 ∧ ∀ (x51 : Int) (w52 : World), I49 x51 w52 → 
    ((decide (x51 < ((a2l : Nat) : Int))) = true → ∃ b53 o54, r10 = some ⟨b53, o54, none⟩ ∧ ∃ L55 : Option Addr, w52.drew.cell? ⟨b53, o54 + 2, 
    none⟩ = some (.pointer L55) ∧ ∃ b56 o57, r10 = some ⟨b56, o57, none⟩ ∧ ∃ L58 : Option Addr, w52.drew.cell? ⟨b56, o57 + 2, 
    none⟩ = some (.pointer L58) ∧ ∃ b59 o60, a2a = some ⟨b59, o60, none⟩ ∧ 0 ≤ x51 ∧ x51 < ((a2l : Nat) : Int) ∧ 
    ∃ (s61a : Option Addr) (s61l s61c : Nat), w52.drew.cell? ⟨b59, o60 + Int.toNat x51 * 1, none⟩ = some (.slice s61a s61l s61c) ∧ 
    Calls Try.prog 7 #[(.pointer L58)] w52.drew (fun e62 w63 => ∃ r64 : Int, ∃ r65 : Int, e62 = .returned (.agg #[(.int .i64 r64), (.int .i64 r65)]) ∧ 
    w63.cell? ⟨b59, o60 + Int.toNat x51 * 1, none⟩ = some (.slice s61a s61l s61c) ∧ w63.cell? ⟨b53, o54 + 2, none⟩ = some (.pointer L55) ∧ 
    Calls Try.prog 8 #[(.pointer L55), (.agg #[(.int .i64 r64), (.int .i64 r65)]), (.int .i64 (2 : Int)), 
    (.slice s61a s61l s61c)] w63 (fun e66 w67 => ∃ r68 : Int, ∃ r69 : Int, ∃ r70 : Int, e66 = .returned (.tuple #[(.agg #[(.int .i64 r68), 
    (.int .i64 r69)]), (.int .i64 r70)]) ∧ ∀ n71 : Int, n71 = (IntKind.wrap .i64 (x51 + (1 : Int))) → I49 n71 w67 ∧ mu50 n71 w67 < mu50 x51 w52))) ∧ 
    ((decide (x51 < ((a2l : Nat) : Int))) = false → ∃ b72 o73, r10 = some ⟨b72, o73, none⟩ ∧ ∃ L74 : Option Addr, w52.cell? ⟨b72, o73 + 2, 
    none⟩ = some (.pointer L74) ∧ Calls Try.prog 9 #[(.pointer L74)] w52 (fun e75 w76 => ∃ r77 : Option Addr, e75 = .returned (.pointer r77) ∧ 
    ((Option.isNone r77) = true → R (.returned (.bool false)) w76) ∧ ((Option.isNone r77) = false → ((!r38) = true → R (.returned (.bool false)) w76) ∧ 
    ((!r38) = false → ∃ (I78 : Int → World → Prop) (mu79 : Int → World → Nat), I78 (0 : Int) w76 ∧ ∀ (x80 : Int) (w81 : World), I78 x80 w81 → ∃ b82 o83, 
    r10 = some ⟨b82, o83, none⟩ ∧ ∃ L84 : Option Addr, w81.drew.cell? ⟨b82, o83 + 2, none⟩ = some (.pointer L84) ∧ ∃ Place85 : Int, 
    w81.drew.cell? ⟨w43.heap.size, 0 + 1, none⟩ = some (.int .i64 Place85) ∧ Calls Try.prog 7 #[(.pointer L84)] w81.drew (fun e86 w87 => ∃ r88 : Int, 
    ∃ r89 : Int, e86 = .returned (.agg #[(.int .i64 r88), (.int .i64 r89)]) ∧ w87.cell? ⟨w43.heap.size, 0 + 1, none⟩ = some (.int .i64 Place85) ∧ 
    ∀ n90 : Int, n90 = (IntKind.wrap .i64 (r89 - Place85)) → ((decide (x80 ≤ n90)) = true → 
    Calls Try.prog 12 #[(.pointer r77)] w87 (fun e91 w92 => ∃ r93 : Bool, e91 = .returned (.bool r93) ∧ ∀ n94 : Int, 
    n94 = (IntKind.wrap .i64 (x80 + (1 : Int))) → I78 n94 w92 ∧ mu79 n94 w92 < mu79 x80 w81)) ∧ ((decide (x80 ≤ n90)) = false → ∃ b95 o96, 
    r10 = some ⟨b95, o96, none⟩ ∧ ∃ D97 : Option Addr, w87.cell? ⟨b95, o96, none⟩ = some (.pointer D97) ∧ Calls Try.prog 13 #[(.pointer D97), 
    (.slice a3a a3l a3c)] w87 (fun e98 w99 => e98 = .returned (.tuple #[]) ∧ ∃ b100 o101, r10 = some ⟨b100, o101, none⟩ ∧ ∃ D102 : Option Addr, 
    w99.drew.cell? ⟨b100, o101, none⟩ = some (.pointer D102) ∧ ∃ Place103 : Int, w99.drew.cell? ⟨w43.heap.size, 0 + 1, 
    none⟩ = some (.int .i64 Place103) ∧ ∀ n104 : Int, n104 = (IntKind.wrap .i64 (Place103 + (7 : Int))) → (8 : Int) ≠ 0 ∧ ∀ n105 : Int, 
    n105 = (IntKind.wrap .i64 (Int.tdiv n104 (8 : Int))) → Calls Try.prog 14 #[(.pointer D102), (.int .i64 (1 : Int)), 
    (.int .i64 n105)] w99.drew (fun e106 w107 => ∃ r108 : Option Addr, ∃ r109 : Int, e106 = .returned (.tuple #[(.pointer r108), (.int .i64 r109)]) ∧ 
    ((r109 != (0 : Int)) = true → R (.returned (.bool false)) w107) ∧ ((r109 != (0 : Int)) = false → ((Option.isNone r108) = true → 
    R (.returned (.bool false)) w107) ∧ ((Option.isNone r108) = false → ∃ b110 o111, r10 = some ⟨b110, o111, none⟩ ∧ ∃ D112 : Option Addr, 
    w107.drew.cell? ⟨b110, o111, none⟩ = some (.pointer D112) ∧ ∃ n115 : Int, w107.drew.cell? ⟨w43.heap.size, 0, none⟩ = some (.int .i64 n115) ∧ 
    ∃ n116 : Int, w107.drew.cell? ⟨w43.heap.size, 0 + 1, none⟩ = some (.int .i64 n116) ∧ Calls Try.prog 16 #[(.pointer D112), (.pointer r108), 
    (.agg #[(.int .i64 n115), (.int .i64 n116)]), (.int .i64 (2 : Int))] w107.drew (fun e117 w118 => ∃ r119 : Option Addr, ∃ r120 : Int, 
    e117 = .returned (.tuple #[(.pointer r119), (.int .i64 r120)]) ∧ ((r120 != (0 : Int)) = true → R (.returned (.bool false)) w118) ∧ 
    ((r120 != (0 : Int)) = false → ((Option.isNone r119) = true → R (.returned (.bool false)) w118) ∧ ((Option.isNone r119) = false → ∃ b121 o122, 
    r10 = some ⟨b121, o122, none⟩ ∧ Wr w118 ⟨b121, o122 + 2, none⟩ ∧ ∀ w123, w123 = w118.setCell ⟨b121, o122 + 2, none⟩ (.pointer r119) → ∃ b124 o125, 
    r10 = some ⟨b124, o125, none⟩ ∧ Wr w123 ⟨b124, o125 + 1, none⟩ ∧ ∀ w126, w126 = w123.setCell ⟨b124, o125 + 1, none⟩ (.pointer r108) → ∀ J127 : Slc → 
    World → Prop, (∀ (x128 : Slc) (w129 : World), (Calls Try.prog 20 #[(.pointer r10)] w129 (fun e130 w131 => ∃ r132 : Bool, 
    e130 = .returned (.bool r132) ∧ Calls Try.prog 21 #[(.pointer r119), 
    (.int .i64 (1099511627776 : Int))] w131 (fun e133 w134 => e133 = .returned (.tuple #[]) ∧ ((!r132) = true → R (.returned (.bool false)) w134) ∧ 
    ((!r132) = false → ∃ (I135 : Int → World → Prop) (mu136 : Int → World → Nat), I135 (0 : Int) w134 ∧ ∀ (x137 : Int) (w138 : World), I135 x137 w138 → 
    ((decide (x137 < ((x128.len : Nat) : Int))) = true → ∃ b139 o140, x128.a = some ⟨b139, o140, none⟩ ∧ 0 ≤ x137 ∧ x137 < ((x128.len : Nat) : Int) ∧ 
    ∃ n141 : Int, w138.cell? ⟨b139, o140 + Int.toNat x137 * 1, none⟩ = some (.int .i64 n141) ∧ Calls Try.prog 17 #[(.pointer r119), 
    (.int .i64 n141)] w138 (fun e142 w143 => ∃ r144 : Option Addr, e142 = .returned (.pointer r144) ∧ ((Option.isNone r144) = true → 
    R (.returned (.bool false)) w143) ∧ ((Option.isNone r144) = false → 
    Calls Try.prog 18 #[(.pointer r144)] w143 (fun e145 w146 => e145 = .returned (.tuple #[]) ∧ 
    Calls Try.prog 19 #[(.pointer r144)] w146 (fun e147 w148 => ∃ r149 : Int, ∃ r150 : Int, ∃ (r151a : Option Addr) (r151l r151c : Nat), ∃ r152 : Int, 
    e147 = .returned (.tuple #[(.int .i64 r149), (.int .i64 r150), (.slice r151a r151l r151c), (.int .i64 r152)]) ∧ ((r152 != (0 : Int)) = true → 
    R (.returned (.bool false)) w148.drew) ∧ ((r152 != (0 : Int)) = false → ∃ No153 : Int, w148.drew.cell? ⟨w43.heap.size, 0, 
    none⟩ = some (.int .i64 No153) ∧ ∀ n154 : Int, n154 = (IntKind.wrap .i64 (No153 + x137)) → ∀ n155 : Int, 
    n155 = (IntKind.wrap .i64 (n154 + (1 : Int))) → ((r149 != n155) = true → R (.returned (.bool false)) w148.drew) ∧ ((r149 != n155) = false → 
    ((r150 != (3 : Int)) = true → R (.returned (.bool false)) w148.drew) ∧ ((r150 != (3 : Int)) = false → ∃ s156 : ByteArray, 
    Sem.run Try.prog (convert 47 9 (.slice r151a r151l r151c)) w148.drew = .ok (.string s156) w148.drew ∧ ∃ b157 o158, a4a = some ⟨b157, o158, none⟩ ∧ 
    0 ≤ x137 ∧ x137 < ((a4l : Nat) : Int) ∧ ∃ (s159a : Option Addr) (s159l s159c : Nat), w148.drew.cell? ⟨b157, o158 + Int.toNat x137 * 1, 
    none⟩ = some (.slice s159a s159l s159c) ∧ ∃ s160 : ByteArray, 
    Sem.run Try.prog (convert 47 9 (.slice s159a s159l s159c)) w148.drew = .ok (.string s160) w148.drew ∧ ((!(s156.toList == s160.toList)) = true → 
    R (.returned (.bool false)) w148.drew) ∧ ((!(s156.toList == s160.toList)) = false → ∀ n161 : Int, n161 = (IntKind.wrap .i64 (x137 + (1 : Int))) → 
    I135 n161 w148.drew ∧ mu136 n161 w148.drew < mu136 x137 w138))))))))) ∧ ((decide (x137 < ((x128.len : Nat) : Int))) = false → 
    R (.returned (.bool true)) w138))))) → J127 x128 w129) → ∃ (I162 : Slc → Int → World → Prop) (mu163 : Slc → Int → World → Nat), I162 ⟨none, 0, 
    0⟩ (0 : Int) w126 ∧ ∀ (x164 : Slc) (x165 : Int) (w166 : World), I162 x164 x165 w166 → ((decide (x165 < ((a4l : Nat) : Int))) = true → 
    Calls Try.prog 7 #[(.pointer r119)] w166 (fun e167 w168 => ∃ r169 : Int, ∃ r170 : Int, e167 = .returned (.agg #[(.int .i64 r169), 
    (.int .i64 r170)]) ∧ ∀ w171, w171 = w168.alloc (.cells #[(.int .i64 (0 : Int)), (.int .i64 (0 : Int))] 29) → Wr w171 ⟨w168.heap.size, 0, none⟩ ∧ 
    ∀ w172, w172 = w171.setCell ⟨w168.heap.size, 0, none⟩ (.int .i64 r169) → Wr w172 ⟨w168.heap.size, 0 + 1, none⟩ ∧ ∀ w173, 
    w173 = w172.setCell ⟨w168.heap.size, 0 + 1, none⟩ (.int .i64 r170) → ∀ J174 : Int → World → Prop, (∀ (x175 : Int) (w176 : World), 
    (((x175 != (0 : Int)) = true → J127 ⟨x164.a, x164.len, x164.cap⟩ w176) ∧ ((x175 != (0 : Int)) = false → ∃ Place177 : Int, w176.cell? ⟨w168.heap.size, 
    0 + 1, none⟩ = some (.int .i64 Place177) ∧ ∀ w178, w178 = w176.alloc (.cells #[(.int .i64 Place177)] 3) → 
    ∃ (s179a : Option Addr) (s179l s179c : Nat), ∃ w180, Sem.run Try.prog (Builtin.append_ #[30, 30] 30 #[(.slice x164.a x164.len x164.cap), 
    (.slice (some ⟨w176.heap.size, 0, none⟩) 1 1)]) w178 = .ok (.slice s179a s179l s179c) w180 ∧ ∀ n181 : Int, 
    n181 = (IntKind.wrap .i64 (x165 + (1 : Int))) → I162 ⟨s179a, s179l, s179c⟩ n181 w180 ∧ mu163 ⟨s179a, s179l, 
    s179c⟩ n181 w180 < mu163 x164 x165 w166)) → J174 x175 w176) → ∃ n184 : Int, w173.drew.cell? ⟨w168.heap.size, 0, none⟩ = some (.int .i64 n184) ∧ 
    ∃ n185 : Int, w173.drew.cell? ⟨w168.heap.size, 0 + 1, none⟩ = some (.int .i64 n185) ∧ ∃ b186 o187, a4a = some ⟨b186, o187, none⟩ ∧ 0 ≤ x165 ∧ 
    x165 < ((a4l : Nat) : Int) ∧ ∃ (s188a : Option Addr) (s188l s188c : Nat), w173.drew.cell? ⟨b186, o187 + Int.toNat x165 * 1, 
    none⟩ = some (.slice s188a s188l s188c) ∧ (Calls Try.prog 8 #[(.pointer r119), (.agg #[(.int .i64 n184), (.int .i64 n185)]), (.int .i64 (3 : Int)), 
    (.slice s188a s188l s188c)] w173.drew (fun e189 w190 => ∃ r191 : Int, ∃ r192 : Int, ∃ r193 : Int, 
    e189 = .returned (.tuple #[(.agg #[(.int .i64 r191), (.int .i64 r192)]), (.int .i64 r193)]) ∧ ∀ w194, 
    w194 = w190.alloc (.cells #[(.int .i64 (0 : Int)), (.int .i64 (0 : Int))] 29) → w194.cell? ⟨b186, o187 + Int.toNat x165 * 1, 
    none⟩ = some (.slice s188a s188l s188c) ∧ (w194.cell? ⟨w168.heap.size, 0, none⟩ = some (.int .i64 n184) ∧ w194.cell? ⟨w168.heap.size, 0 + 1, 
    none⟩ = some (.int .i64 n185)) ∧ Wr w194 ⟨w190.heap.size, 0, none⟩ ∧ ∀ w195, w195 = w194.setCell ⟨w190.heap.size, 0, none⟩ (.int .i64 r191) → 
    Wr w195 ⟨w190.heap.size, 0 + 1, none⟩ ∧ ∀ w196, w196 = w195.setCell ⟨w190.heap.size, 0 + 1, none⟩ (.int .i64 r192) → J174 r193 w196)) ∧ (∀ w197, 
    w197 = w173.drew.alloc (.cells #[(.int .i64 (0 : Int)), (.int .i64 (0 : Int))] 29) → w197.cell? ⟨b186, o187 + Int.toNat x165 * 1, 
    none⟩ = some (.slice s188a s188l s188c) ∧ (w197.cell? ⟨w168.heap.size, 0, none⟩ = some (.int .i64 n184) ∧ w197.cell? ⟨w168.heap.size, 0 + 1, 
    none⟩ = some (.int .i64 n185)) ∧ Calls Try.prog 8 #[(.pointer r119), (.agg #[(.int .i64 n184), (.int .i64 n185)]), (.int .i64 (3 : Int)), 
    (.slice s188a s188l s188c)] w197 (fun e198 w199 => ∃ r200 : Int, ∃ r201 : Int, ∃ r202 : Int, e198 = .returned (.tuple #[(.agg #[(.int .i64 r200), 
    (.int .i64 r201)]), (.int .i64 r202)]) ∧ Wr w199 ⟨w173.drew.heap.size, 0, none⟩ ∧ ∀ w203, w203 = w199.setCell ⟨w173.drew.heap.size, 0, 
    none⟩ (.int .i64 r200) → Wr w203 ⟨w173.drew.heap.size, 0 + 1, none⟩ ∧ ∀ w204, w204 = w203.setCell ⟨w173.drew.heap.size, 0 + 1, 
    none⟩ (.int .i64 r201) → J174 r202 w204)))) ∧ ((decide (x165 < ((a4l : Nat) : Int))) = false → J127 ⟨x164.a, x164.len, 
    x164.cap⟩ w166)))))))))))))))))))))
theorem E_pollardlaw08_LogEras (a1a : Option Addr) (a1l a1c : Nat) (a2a : Option Addr) (a2l a2c : Nat) (a3a : Option Addr) (a3l a3c : Nat) (a4a : Option Addr) (a4l a4c : Nat) (w : World) (R : Ending → World → Prop) : F_pollardlaw08_LogEras a1a a1l a1c a2a a2l a2c a3a a3l a3c a4a a4l a4c w R = fnVC Try.prog Try.f4 A_pollardlaw08_LogEras [(.slice a1a a1l a1c), (.slice a2a a2l a2c), (.slice a3a a3l a3c), (.slice a4a a4l a4c)] w R := by kernel_rfl
theorem C_pollardlaw08_LogEras {a1a : Option Addr} {a1l a1c : Nat} {a2a : Option Addr} {a2l a2c : Nat} {a3a : Option Addr} {a3l a3c : Nat} {a4a : Option Addr} {a4l a4c : Nat} {w : World} {R : Ending → World → Prop} (h : F_pollardlaw08_LogEras a1a a1l a1c a2a a2l a2c a3a a3l a3c a4a a4l a4c w R) : Calls Try.prog 4 #[(.slice a1a a1l a1c), (.slice a2a a2l a2c), (.slice a3a a3l a3c), (.slice a4a a4l a4c)] w R := fnVC_calls Try.func4 (Eq.mp (E_pollardlaw08_LogEras a1a a1l a1c a2a a2l a2c a3a a3l a3c a4a a4l a4c w R) h)

/-! 5 pollard/pollardlaw08.awake -/
def A_pollardlaw08_awake : Ann := .keep [] (.sh (.tup [.ptr, .bool, .bool]) (.keep [1, 2] (.keep [1, 24] (.split (.keep [0] (.done)) (.keep [1] (.cut [(4, .adr), (5, 
    (.int .i64))] [1] (.q 0 (.q 1 (.q 2 (.q 3 (.sh .ptr (.q 4 (.alt 5 (.sh .slc (.alt 6 (.sh (.tup [(.agg [(.int .i64), (.int .i64)]), 
    (.int .i64)]) (.q 7 (.q 8 (.q 9 (.alt 10 (.alt 11 (.q 12 (.fin (.done))) .stop) .stop))))) (.alt 10 (.alt 6 (.sh (.tup [(.agg [(.int .i64), 
    (.int .i64)]), 
    (.int .i64)]) (.q 7 (.q 8 (.q 9 (.alt 11 (.q 12 (.fin (.done))) .stop))))) .stop) .stop))) (.alt 10 (.alt 5 (.sh .slc (.alt 6 (.sh (.tup [(.agg [(.int .i64), 
    (.int .i64)]), (.int .i64)]) (.q 7 (.q 8 (.q 9 (.alt 11 (.q 12 (.fin (.done))) .stop))))) .stop)) .stop) .stop)))))))) (.cut [(7, (.int .i64))] [1, 
    4, 5] (.q 0 (.q 1 (.q 2 (.q 3 (.sh .ptr (.q 4 (.alt 5 (.sh .slc (.alt 6 (.sh (.tup [(.agg [(.int .i64), (.int .i64)]), 
    (.int .i64)]) (.q 7 (.q 8 (.q 9 (.alt 10 (.alt 11 (.q 12 (.fin (.done))) .stop) .stop))))) (.alt 10 (.alt 6 (.sh (.tup [(.agg [(.int .i64), 
    (.int .i64)]), 
    (.int .i64)]) (.q 7 (.q 8 (.q 9 (.alt 11 (.q 12 (.fin (.done))) .stop))))) .stop) .stop))) (.alt 10 (.alt 5 (.sh .slc (.alt 6 (.sh (.tup [(.agg [(.int .i64), 
    (.int .i64)]), (.int .i64)]) (.q 7 (.q 8 (.q 9 (.alt 11 (.q 12 (.fin (.done))) .stop))))) .stop)) .stop) .stop)))))))) (.sh .ptr (.sh .ptr (.keep [1, 
    4, 5, 7, 8] (.gsplit (.known true (.known true (.keep [1, 8, 64] (.known true (.keep [0] (.done)))))) (.sh (.agg [(.int .i64), 
    (.int .i64)]) (.fb 55 false .bool (.gsplit (.known true (.keep [1, 8, 64] (.known true (.keep [0] (.done))))) (.gsplit (.keep [1, 8, 
    64] (.known true (.keep [0] (.done)))) (.keep [1, 8, 64] (.split (.keep [0] (.done)) (.keep [1, 8] (.keep [1, 8, 9] (.cut [(9, (.int .i64))] [1, 
    8] (.loop [(9, (.int .i64))] [1, 8] (.gsplit (.sh .bool (.keep [1, 8, 9, 68, 69, 70, 71] (.split (.keep [1, 8, 9, 68, 69, 
    70] (.done)) (.done)))) (.keep [1, 8, 9, 68, 69, 70, 71] (.known false (.done))))) (.sh (.tup [(.int .i64), (.int .i64)]) (.keep [1, 9, 10, 
    11] (.sh .ptr (.sh .nil (.keep [1, 9, 10, 11] (.sh .ptr (.sh .ptr (.keep [1, 9, 10, 11, 12] (.keep [1, 9, 10, 11, 12, 
    90] (.split (.keep [0] (.done)) (.keep [1, 9, 10, 11, 12] (.sh .bool (.keep [1, 9, 10, 11, 12] (.sh .bool (.keep [1, 9, 10, 11, 
    12] (.sh (.tup [(.int .i64), (.int .i64), .slc, (.int .i64)]) (.keep [1, 9, 10, 11, 13, 14, 15, 
    16] (.gsplit (.gsplit (.gsplit (.gsplit (.gsplit (.gsplit (.gsplit (.sh .ptr (.sh (.int .i64) (.gsplit (.sh .ptr (.sh (.int .i64) (.gsplit (.sh .ptr (.sh (.agg [(.int .i64), 
    (.int .i64)]) (.keep [0] (.done)))) (.keep [0] (.done))))) (.known true (.keep [0] (.done)))))) (.known true (.known true (.keep [0] (.done))))) (.known true (.known true (.known true (.keep [0] (.done)))))) (.known true (.known true (.known true (.known true (.keep [0] (.done))))))) (.known true (.known true (.known true (.known true (.known true (.keep [0] (.done)))))))) (.known true (.known true (.known true (.known true (.known true (.known true (.keep [0] (.done))))))))) (.known true (.known true (.known true (.known true (.known true (.known true (.known true (.keep [0] (.done)))))))))) (.known true (.known true (.known true (.known true (.known true (.known true (.known true (.known true (.keep [0] (.done))))))))))))))))))))))))))))))))))))))))))))))))
def F_pollardlaw08_awake  (w : World) (R : Ending → World → Prop) : Prop :=
    Calls Try.prog 6 #[(.int .i64 (328 : Int)), (.int .i64 (1 : Int)), (.agg #[(.int .i64 (0 : Int)), (.int .i64 (8 : Int))]), 
    (.int .i64 (1 : Int))] w (fun e1 w2 => ∃ r3 : Option Addr, ∃ r4 : Bool, ∃ r5 : Bool, e1 = .returned (.tuple #[(.pointer r3), (.bool r4), 
    (.bool r5)]) ∧ ((!r4) = true → R (.returned (.bool false)) w2) ∧ ((!r4) = false → ∀ J6 : Nat → Int → World → Prop, 
    (∀ (x7 : Nat) (x8 : Int) (w9 : World), (∀ J10 : Int → World → Prop, (∀ (x11 : Int) (w12 : World), (∃ b13 o14, r3 = some ⟨b13, o14, none⟩ ∧ 
    ∃ L15 : Option Addr, w12.cell? ⟨b13, o14 + 2, none⟩ = some (.pointer L15) ∧ 
    Calls Try.prog 9 #[(.pointer L15)] w12 (fun e16 w17 => ∃ r18 : Option Addr, e16 = .returned (.pointer r18) ∧ ((Option.isNone r18) = true → 
    R (.returned (.bool false)) w17) ∧ ((Option.isNone r18) = false → ∃ n21 : Int, w17.cell? ⟨x7, 0, none⟩ = some (.int .i64 n21) ∧ ∃ n22 : Int, 
    w17.cell? ⟨x7, 0 + 1, none⟩ = some (.int .i64 n22) ∧ ∃ b23 : Bool, BinRuns Try.prog .neq 29 (.tmp 53) (.tmp 54) (.agg #[(.int .i64 n21), 
    (.int .i64 n22)]) (.agg #[(.int .i64 (1 : Int)), (.int .i64 (10 : Int))]) (.bool b23) ∧ (b23 = true → R (.returned (.bool false)) w17) ∧ 
    (b23 = false → ((x8 != (0 : Int)) = true → R (.returned (.bool false)) w17) ∧ ((x8 != (0 : Int)) = false → ((x11 != (5 : Int)) = true → 
    R (.returned (.bool false)) w17) ∧ ((x11 != (5 : Int)) = false → ∀ J24 : Int → World → Prop, (∀ (x25 : Int) (w26 : World), 
    (Calls Try.prog 11 #[(.pointer r18)] w26 (fun e27 w28 => ∃ r29 : Int, ∃ r30 : Int, e27 = .returned (.tuple #[(.int .i64 r29), (.int .i64 r30)]) ∧ 
    ∃ b31 o32, r3 = some ⟨b31, o32, none⟩ ∧ ∃ L33 : Option Addr, w28.cell? ⟨b31, o32 + 2, none⟩ = some (.pointer L33) ∧ 
    Calls Try.prog 21 #[(.pointer L33), (.int .i64 (1 : Int))] w28 (fun e34 w35 => e34 = .returned (.tuple #[]) ∧ ∃ b36 o37, r3 = some ⟨b36, o37, none⟩ ∧ 
    ∃ L38 : Option Addr, w35.cell? ⟨b36, o37 + 2, none⟩ = some (.pointer L38) ∧ Calls Try.prog 17 #[(.pointer L38), 
    (.int .i64 (8 : Int))] w35 (fun e39 w40 => ∃ r41 : Option Addr, e39 = .returned (.pointer r41) ∧ ((Option.isNone r41) = true → 
    R (.returned (.bool false)) w40) ∧ ((Option.isNone r41) = false → Calls Try.prog 22 #[(.pointer r41)] w40 (fun e42 w43 => ∃ r44 : Bool, 
    e42 = .returned (.bool r44) ∧ Calls Try.prog 22 #[(.pointer r41)] w43 (fun e45 w46 => ∃ r47 : Bool, e45 = .returned (.bool r47) ∧ 
    Calls Try.prog 19 #[(.pointer r41)] w46 (fun e48 w49 => ∃ r50 : Int, ∃ r51 : Int, ∃ (r52a : Option Addr) (r52l r52c : Nat), ∃ r53 : Int, 
    e48 = .returned (.tuple #[(.int .i64 r50), (.int .i64 r51), (.slice r52a r52l r52c), (.int .i64 r53)]) ∧ ((x25 == (4 : Int)) = true → 
    ((r29 == (1 : Int)) = true → ((r30 == (0 : Int)) = true → ((r50 == (1 : Int)) = true → ((r51 == (1 : Int)) = true → 
    ((((r52l : Nat) : Int) == (198 : Int)) = true → ((r53 == (0 : Int)) = true → ∃ b54 o55, r3 = some ⟨b54, o55, none⟩ ∧ ∃ L56 : Option Addr, 
    w49.cell? ⟨b54, o55 + 2, none⟩ = some (.pointer L56) ∧ Calls Try.prog 23 #[(.pointer L56)] w49 (fun e57 w58 => ∃ r59 : Int, 
    e57 = .returned (.int .i64 r59) ∧ ((r59 == (0 : Int)) = true → ∃ b60 o61, r3 = some ⟨b60, o61, none⟩ ∧ ∃ L62 : Option Addr, w58.cell? ⟨b60, o61 + 2, 
    none⟩ = some (.pointer L62) ∧ Calls Try.prog 24 #[(.pointer L62)] w58 (fun e63 w64 => ∃ r65 : Int, e63 = .returned (.int .i64 r65) ∧ 
    ((r65 == (1 : Int)) = true → ∃ b66 o67, r3 = some ⟨b66, o67, none⟩ ∧ ∃ L68 : Option Addr, w64.cell? ⟨b66, o67 + 2, none⟩ = some (.pointer L68) ∧ 
    Calls Try.prog 25 #[(.pointer L68)] w64 (fun e69 w70 => ∃ r71 : Int, ∃ r72 : Int, e69 = .returned (.agg #[(.int .i64 r71), (.int .i64 r72)]) ∧ 
    R (.returned (.bool (r72 == (10 : Int)))) w70)) ∧ ((r65 == (1 : Int)) = false → R (.returned (.bool false)) w64))) ∧ ((r59 == (0 : Int)) = false → 
    R (.returned (.bool false)) w58))) ∧ ((r53 == (0 : Int)) = false → R (.returned (.bool false)) w49)) ∧ 
    ((((r52l : Nat) : Int) == (198 : Int)) = false → R (.returned (.bool false)) w49)) ∧ ((r51 == (1 : Int)) = false → 
    R (.returned (.bool false)) w49)) ∧ ((r50 == (1 : Int)) = false → R (.returned (.bool false)) w49)) ∧ ((r30 == (0 : Int)) = false → 
    R (.returned (.bool false)) w49)) ∧ ((r29 == (1 : Int)) = false → R (.returned (.bool false)) w49)) ∧ ((x25 == (4 : Int)) = false → 
    R (.returned (.bool false)) w49))))))))) → J24 x25 w26) → ∃ (I73 : Int → World → Prop) (mu74 : Int → World → Nat), I73 (0 : Int) w17 ∧ 
    ∀ (x75 : Int) (w76 : World), I73 x75 w76 → ((decide (x75 < (5 : Int))) = true → Calls Try.prog 12 #[(.pointer r18)] w76 (fun e77 w78 => ∃ r79 : Bool, 
    e77 = .returned (.bool r79) ∧ ((!r79) = true → ∀ n80 : Int, n80 = (IntKind.wrap .i64 (x75 + (1 : Int))) → I73 n80 w78 ∧ 
    mu74 n80 w78 < mu74 x75 w76) ∧ ((!r79) = false → J24 x75 w78))) ∧ ((decide (x75 < (5 : Int))) = false → J24 x75 w76))))))) → J10 x11 w12) → 
    ∃ b81 o82, r3 = some ⟨b81, o82, none⟩ ∧ ∃ L83 : Option Addr, w9.drew.cell? ⟨b81, o82 + 2, none⟩ = some (.pointer L83) ∧ 
    (∃ (s84a : Option Addr) (s84l s84c : Nat), ∃ w85, 
    Sem.run Try.prog (Instr.makeSlice 47 (.int .i64 (1 : Int)) (.int .i64 (1 : Int))) w9.drew = .ok (.slice s84a s84l s84c) w85 ∧ w85.cell? ⟨b81, 
    o82 + 2, none⟩ = some (.pointer L83) ∧ (Calls Try.prog 8 #[(.pointer L83), (.agg #[(.int .i64 (0 : Int)), (.int .i64 (8 : Int))]), 
    (.int .i64 (1 : Int)), (.slice s84a s84l s84c)] w85 (fun e86 w87 => ∃ r88 : Int, ∃ r89 : Int, ∃ r90 : Int, 
    e86 = .returned (.tuple #[(.agg #[(.int .i64 r88), (.int .i64 r89)]), (.int .i64 r90)]) ∧ ∀ w91, w91 = w87.alloc (.cells #[(.int .i64 (0 : Int)), 
    (.int .i64 (0 : Int))] 29) → w91.cell? ⟨b81, o82 + 2, none⟩ = some (.pointer L83) ∧ Wr w91 ⟨w87.heap.size, 0, none⟩ ∧ ∀ w92, 
    w92 = w91.setCell ⟨w87.heap.size, 0, none⟩ (.int .i64 r88) → Wr w92 ⟨w87.heap.size, 0 + 1, none⟩ ∧ ∀ w93, w93 = w92.setCell ⟨w87.heap.size, 0 + 1, 
    none⟩ (.int .i64 r89) → J10 r90 w93)) ∧ (∀ w94, w94 = w85.alloc (.cells #[(.int .i64 (0 : Int)), (.int .i64 (0 : Int))] 29) → w94.cell? ⟨b81, 
    o82 + 2, none⟩ = some (.pointer L83) ∧ Calls Try.prog 8 #[(.pointer L83), (.agg #[(.int .i64 (0 : Int)), (.int .i64 (8 : Int))]), 
    (.int .i64 (1 : Int)), (.slice s84a s84l s84c)] w94 (fun e95 w96 => ∃ r97 : Int, ∃ r98 : Int, ∃ r99 : Int, 
    e95 = .returned (.tuple #[(.agg #[(.int .i64 r97), (.int .i64 r98)]), (.int .i64 r99)]) ∧ Wr w96 ⟨w85.heap.size, 0, none⟩ ∧ ∀ w100, 
    w100 = w96.setCell ⟨w85.heap.size, 0, none⟩ (.int .i64 r97) → Wr w100 ⟨w85.heap.size, 0 + 1, none⟩ ∧ ∀ w101, w101 = w100.setCell ⟨w85.heap.size, 
    0 + 1, none⟩ (.int .i64 r98) → J10 r99 w101))) ∧ (∀ w102, w102 = w9.drew.alloc (.cells #[(.int .i64 (0 : Int)), (.int .i64 (0 : Int))] 29) → 
    w102.cell? ⟨b81, o82 + 2, none⟩ = some (.pointer L83) ∧ ∃ (s103a : Option Addr) (s103l s103c : Nat), ∃ w104, 
    Sem.run Try.prog (Instr.makeSlice 47 (.int .i64 (1 : Int)) (.int .i64 (1 : Int))) w102 = .ok (.slice s103a s103l s103c) w104 ∧ w104.cell? ⟨b81, 
    o82 + 2, none⟩ = some (.pointer L83) ∧ Calls Try.prog 8 #[(.pointer L83), (.agg #[(.int .i64 (0 : Int)), (.int .i64 (8 : Int))]), 
    (.int .i64 (1 : Int)), (.slice s103a s103l s103c)] w104 (fun e105 w106 => ∃ r107 : Int, ∃ r108 : Int, ∃ r109 : Int, 
    e105 = .returned (.tuple #[(.agg #[(.int .i64 r107), (.int .i64 r108)]), (.int .i64 r109)]) ∧ Wr w106 ⟨w9.drew.heap.size, 0, none⟩ ∧ ∀ w110, 
    w110 = w106.setCell ⟨w9.drew.heap.size, 0, none⟩ (.int .i64 r107) → Wr w110 ⟨w9.drew.heap.size, 0 + 1, none⟩ ∧ ∀ w111, 
    w111 = w110.setCell ⟨w9.drew.heap.size, 0 + 1, none⟩ (.int .i64 r108) → J10 r109 w111))) → J6 x7 x8 w9) → ∃ b112 o113, r3 = some ⟨b112, o113, none⟩ ∧ 
    ∃ L114 : Option Addr, w2.drew.cell? ⟨b112, o113 + 2, none⟩ = some (.pointer L114) ∧ (∃ (s115a : Option Addr) (s115l s115c : Nat), ∃ w116, 
    Sem.run Try.prog (Instr.makeSlice 47 (.int .i64 (198 : Int)) (.int .i64 (198 : Int))) w2.drew = .ok (.slice s115a s115l s115c) w116 ∧ 
    w116.cell? ⟨b112, o113 + 2, none⟩ = some (.pointer L114) ∧ (Calls Try.prog 8 #[(.pointer L114), (.agg #[(.int .i64 (0 : Int)), 
    (.int .i64 (8 : Int))]), (.int .i64 (1 : Int)), (.slice s115a s115l s115c)] w116 (fun e117 w118 => ∃ r119 : Int, ∃ r120 : Int, ∃ r121 : Int, 
    e117 = .returned (.tuple #[(.agg #[(.int .i64 r119), (.int .i64 r120)]), (.int .i64 r121)]) ∧ ∀ w122, 
    w122 = w118.alloc (.cells #[(.int .i64 (0 : Int)), (.int .i64 (0 : Int))] 29) → w122.cell? ⟨b112, o113 + 2, none⟩ = some (.pointer L114) ∧ 
    Wr w122 ⟨w118.heap.size, 0, none⟩ ∧ ∀ w123, w123 = w122.setCell ⟨w118.heap.size, 0, none⟩ (.int .i64 r119) → Wr w123 ⟨w118.heap.size, 0 + 1, none⟩ ∧ 
    ∀ w124, w124 = w123.setCell ⟨w118.heap.size, 0 + 1, none⟩ (.int .i64 r120) → J6 w118.heap.size r121 w124)) ∧ (∀ w125, 
    w125 = w116.alloc (.cells #[(.int .i64 (0 : Int)), (.int .i64 (0 : Int))] 29) → w125.cell? ⟨b112, o113 + 2, none⟩ = some (.pointer L114) ∧ 
    Calls Try.prog 8 #[(.pointer L114), (.agg #[(.int .i64 (0 : Int)), (.int .i64 (8 : Int))]), (.int .i64 (1 : Int)), 
    (.slice s115a s115l s115c)] w125 (fun e126 w127 => ∃ r128 : Int, ∃ r129 : Int, ∃ r130 : Int, e126 = .returned (.tuple #[(.agg #[(.int .i64 r128), 
    (.int .i64 r129)]), (.int .i64 r130)]) ∧ Wr w127 ⟨w116.heap.size, 0, none⟩ ∧ ∀ w131, w131 = w127.setCell ⟨w116.heap.size, 0, none⟩ (.int .i64 r128) → 
    Wr w131 ⟨w116.heap.size, 0 + 1, none⟩ ∧ ∀ w132, w132 = w131.setCell ⟨w116.heap.size, 0 + 1, none⟩ (.int .i64 r129) → J6 w116.heap.size r130 w132))) ∧ 
    (∀ w133, w133 = w2.drew.alloc (.cells #[(.int .i64 (0 : Int)), (.int .i64 (0 : Int))] 29) → w133.cell? ⟨b112, o113 + 2, 
    none⟩ = some (.pointer L114) ∧ ∃ (s134a : Option Addr) (s134l s134c : Nat), ∃ w135, 
    Sem.run Try.prog (Instr.makeSlice 47 (.int .i64 (198 : Int)) (.int .i64 (198 : Int))) w133 = .ok (.slice s134a s134l s134c) w135 ∧ w135.cell? ⟨b112, 
    o113 + 2, none⟩ = some (.pointer L114) ∧ Calls Try.prog 8 #[(.pointer L114), (.agg #[(.int .i64 (0 : Int)), (.int .i64 (8 : Int))]), 
    (.int .i64 (1 : Int)), (.slice s134a s134l s134c)] w135 (fun e136 w137 => ∃ r138 : Int, ∃ r139 : Int, ∃ r140 : Int, 
    e136 = .returned (.tuple #[(.agg #[(.int .i64 r138), (.int .i64 r139)]), (.int .i64 r140)]) ∧ Wr w137 ⟨w2.drew.heap.size, 0, none⟩ ∧ ∀ w141, 
    w141 = w137.setCell ⟨w2.drew.heap.size, 0, none⟩ (.int .i64 r138) → Wr w141 ⟨w2.drew.heap.size, 0 + 1, none⟩ ∧ ∀ w142, 
    w142 = w141.setCell ⟨w2.drew.heap.size, 0 + 1, none⟩ (.int .i64 r139) → J6 w2.drew.heap.size r140 w142))))
theorem E_pollardlaw08_awake  (w : World) (R : Ending → World → Prop) : F_pollardlaw08_awake  w R = fnVC Try.prog Try.f5 A_pollardlaw08_awake [] w R := by kernel_rfl
theorem C_pollardlaw08_awake  {w : World} {R : Ending → World → Prop} (h : F_pollardlaw08_awake  w R) : Calls Try.prog 5 #[] w R := fnVC_calls Try.func5 (Eq.mp (E_pollardlaw08_awake  w R) h)

/-! 6 pollard/pollardlaw08.begun -/
def A_pollardlaw08_begun : Ann := .keep [0, 1, 3, 6] (.keep [0, 1, 3, 6, 11] (.sh (.tup [.ptr, (.int .i64)]) (.keep [0, 1, 3, 6, 11, 12, 13] (.sh (.tup [.ptr, (.int .i64)]) (.keep [1, 
    3, 6, 11, 12, 13, 14, 15] (.inl (.cut [(46, .bool)] [1, 3, 6, 11, 12, 13, 14, 
    15] (.gsplit (.known true (.done)) (.gsplit (.done) (.done))) (.split (.gsplit (.keep [8, 9, 10] (.done)) (.keep [8, 9, 10] (.done))) (.keep [1, 3, 
    6, 11, 12, 14] (.keep [1, 3, 6, 11, 12, 14] (.keep [1, 3, 6, 11, 12, 14] (.sh (.tup [.ptr, (.int .i64)]) (.keep [1, 3, 6, 11, 12, 14, 16, 
    17] (.sh (.tup [.ptr, (.int .i64)]) (.keep [3, 6, 11, 12, 16, 17, 18, 19] (.inl (.cut [(87, .bool)] [3, 6, 11, 12, 16, 17, 18, 
    19] (.gsplit (.known true (.done)) (.gsplit (.done) (.done))) (.split (.gsplit (.keep [8, 9, 10] (.done)) (.keep [8, 9, 10] (.done))) (.keep [3, 6, 
    11, 12, 16, 18] (.keep [3, 6, 11, 12, 16, 18] (.keep [3, 6, 11, 12, 16, 18] (.sh (.agg [(.int .i64), (.int .i64)]) (.sh (.tup [.ptr, 
    (.int .i64)]) (.keep [3, 6, 11, 18, 20, 21] (.sh (.agg [(.int .i64), (.int .i64)]) (.sh (.tup [.ptr, (.int .i64)]) (.keep [11, 20, 21, 22, 
    23] (.keep [11, 20, 21, 22, 23] (.keep [11, 20, 21, 23] (.inl (.cut [(136, .bool)] [11, 
    23] (.gsplit (.done) (.fb 135 false .bool (.done))) (.split (.keep [8, 9, 10] (.done)) (.keep [11, 23] (.keep [8, 9, 
    10] (.done)))))))))))))))))))))))))))))))))))
def F_pollardlaw08_begun (a1 : Int) (a2 : Int) (a3 : Int) (a4 : Int) (a5 : Int) (w : World) (R : Ending → World → Prop) : Prop :=
    ∀ w6, w6 = w.alloc (.cells #[(.int .i64 a3), (.int .i64 a4)] 29) → ∀ w7, w7 = w6.alloc (.cells #[(.pointer none), (.pointer none), (.pointer none), 
    (.pointer none), (.pointer none), (.pointer none), (.slice none 0 0), (.slice none 0 0), (.slice none 0 0), (.slice none 0 0)] 42) → 
    Calls Try.prog 26 #[(.int .i64 a1)] w7 (fun e8 w9 => ∃ r10 : Option Addr, ∃ r11 : Int, e8 = .returned (.tuple #[(.pointer r10), (.int .i64 r11)]) ∧ 
    Calls Try.prog 27 #[(.int .i64 a1)] w9 (fun e12 w13 => ∃ r14 : Option Addr, ∃ r15 : Int, e12 = .returned (.tuple #[(.pointer r14), 
    (.int .i64 r15)]) ∧ ∀ J16 : Bool → World → Prop, (∀ (x17 : Bool) (w18 : World), ((x17 = true → ((r11 == r15) = true → 
    R (.returned (.tuple #[(.pointer (some ⟨w6.heap.size, 0, none⟩)), (.bool false), (.bool (r15 != (0 : Int)))])) w18) ∧ ((r11 == r15) = false → 
    R (.returned (.tuple #[(.pointer (some ⟨w6.heap.size, 0, none⟩)), (.bool false), (.bool false)])) w18)) ∧ (x17 = false → ∃ b19 o20, 
    (some (⟨w6.heap.size, 0, none⟩ : Addr)) = some ⟨b19, o20, none⟩ ∧ Wr w18 ⟨b19, o20, none⟩ ∧ ∀ w21, w21 = w18.setCell ⟨b19, o20, 
    none⟩ (.pointer r10) → ∃ b22 o23, (some (⟨w6.heap.size, 0, none⟩ : Addr)) = some ⟨b22, o23, none⟩ ∧ Wr w21 ⟨b22, o23 + 3, none⟩ ∧ ∀ w24, 
    w24 = w21.setCell ⟨b22, o23 + 3, none⟩ (.pointer r14) → Calls Try.prog 14 #[(.pointer r10), (.int .i64 a2), 
    (.int .i64 a2)] w24 (fun e25 w26 => ∃ r27 : Option Addr, ∃ r28 : Int, e25 = .returned (.tuple #[(.pointer r27), (.int .i64 r28)]) ∧ 
    Calls Try.prog 28 #[(.pointer r14), (.int .i64 a2), (.int .i64 a2)] w26 (fun e29 w30 => ∃ r31 : Option Addr, ∃ r32 : Int, 
    e29 = .returned (.tuple #[(.pointer r31), (.int .i64 r32)]) ∧ ∀ J33 : Bool → World → Prop, (∀ (x34 : Bool) (w35 : World), ((x34 = true → 
    ((r28 == r32) = true → R (.returned (.tuple #[(.pointer (some ⟨w6.heap.size, 0, none⟩)), (.bool false), (.bool (r32 != (0 : Int)))])) w35) ∧ 
    ((r28 == r32) = false → R (.returned (.tuple #[(.pointer (some ⟨w6.heap.size, 0, none⟩)), (.bool false), (.bool false)])) w35)) ∧ (x34 = false → 
    ∃ b36 o37, (some (⟨w6.heap.size, 0, none⟩ : Addr)) = some ⟨b36, o37, none⟩ ∧ Wr w35 ⟨b36, o37 + 1, none⟩ ∧ ∀ w38, w38 = w35.setCell ⟨b36, o37 + 1, 
    none⟩ (.pointer r27) → ∃ b39 o40, (some (⟨w6.heap.size, 0, none⟩ : Addr)) = some ⟨b39, o40, none⟩ ∧ Wr w38 ⟨b39, o40 + 4, none⟩ ∧ ∀ w41, 
    w41 = w38.setCell ⟨b39, o40 + 4, none⟩ (.pointer r31) → ∃ n44 : Int, w41.cell? ⟨w.heap.size, 0, none⟩ = some (.int .i64 n44) ∧ ∃ n45 : Int, 
    w41.cell? ⟨w.heap.size, 0 + 1, none⟩ = some (.int .i64 n45) ∧ Calls Try.prog 16 #[(.pointer r10), (.pointer r27), (.agg #[(.int .i64 n44), 
    (.int .i64 n45)]), (.int .i64 a5)] w41 (fun e46 w47 => ∃ r48 : Option Addr, ∃ r49 : Int, e46 = .returned (.tuple #[(.pointer r48), 
    (.int .i64 r49)]) ∧ ∃ n52 : Int, w47.cell? ⟨w.heap.size, 0, none⟩ = some (.int .i64 n52) ∧ ∃ n53 : Int, w47.cell? ⟨w.heap.size, 0 + 1, 
    none⟩ = some (.int .i64 n53) ∧ Calls Try.prog 29 #[(.pointer r31), (.agg #[(.int .i64 n52), (.int .i64 n53)]), 
    (.int .i64 a5)] w47 (fun e54 w55 => ∃ r56 : Option Addr, ∃ r57 : Int, e54 = .returned (.tuple #[(.pointer r56), (.int .i64 r57)]) ∧ ∃ b58 o59, 
    (some (⟨w6.heap.size, 0, none⟩ : Addr)) = some ⟨b58, o59, none⟩ ∧ Wr w55 ⟨b58, o59 + 2, none⟩ ∧ ∀ w60, w60 = w55.setCell ⟨b58, o59 + 2, 
    none⟩ (.pointer r48) → ∃ b61 o62, (some (⟨w6.heap.size, 0, none⟩ : Addr)) = some ⟨b61, o62, none⟩ ∧ Wr w60 ⟨b61, o62 + 5, none⟩ ∧ ∀ w63, 
    w63 = w60.setCell ⟨b61, o62 + 5, none⟩ (.pointer r56) → ∀ J64 : Bool → World → Prop, (∀ (x65 : Bool) (w66 : World), ((x65 = true → 
    R (.returned (.tuple #[(.pointer (some ⟨w6.heap.size, 0, none⟩)), (.bool false), (.bool false)])) w66) ∧ (x65 = false → 
    R (.returned (.tuple #[(.pointer (some ⟨w6.heap.size, 0, none⟩)), (.bool (r57 == (0 : Int))), (.bool true)])) w66)) → J64 x65 w66) → 
    ((r49 != r57) = true → J64 true w63) ∧ ((r49 != r57) = false → ∃ b67 : Bool, 
    BinRuns Try.prog .neq 4 (.tmp 132) (.tmp 134) (.bool (Option.isNone r48)) (.bool (r57 != (0 : Int))) (.bool b67) ∧ J64 b67 w63))))) → J33 x34 w35) → 
    ((r28 != r32) = true → J33 true w30) ∧ ((r28 != r32) = false → ((Option.isNone r27) = true → J33 true w30) ∧ ((Option.isNone r27) = false → 
    J33 (Option.isNone r31) w30)))))) → J16 x17 w18) → ((r11 != r15) = true → J16 true w13) ∧ ((r11 != r15) = false → ((Option.isNone r10) = true → 
    J16 true w13) ∧ ((Option.isNone r10) = false → J16 (Option.isNone r14) w13))))
theorem E_pollardlaw08_begun (a1 : Int) (a2 : Int) (a3 : Int) (a4 : Int) (a5 : Int) (w : World) (R : Ending → World → Prop) : F_pollardlaw08_begun a1 a2 a3 a4 a5 w R = fnVC Try.prog Try.f6 A_pollardlaw08_begun [(.int .i64 a1), (.int .i64 a2), (.agg #[(.int .i64 a3), (.int .i64 a4)]), (.int .i64 a5)] w R := by kernel_rfl
theorem C_pollardlaw08_begun {a1 : Int} {a2 : Int} {a3 : Int} {a4 : Int} {a5 : Int} {w : World} {R : Ending → World → Prop} (h : F_pollardlaw08_begun a1 a2 a3 a4 a5 w R) : Calls Try.prog 6 #[(.int .i64 a1), (.int .i64 a2), (.agg #[(.int .i64 a3), (.int .i64 a4)]), (.int .i64 a5)] w R := fnVC_calls Try.func6 (Eq.mp (E_pollardlaw08_begun a1 a2 a3 a4 a5 w R) h)

/-! 7 (*pollard/log.Log).Head -/
def A_log_Log_Head : Ann := .keep [0, 2] (.sh (.agg [(.int .i64), (.int .i64)]) (.keep [2] (.sh (.agg [(.int .i64), (.int .i64)]) (.done))))
def F_log_Log_Head (l1 : Option Addr) (w : World) (R : Ending → World → Prop) : Prop :=
    ∀ w2, w2 = w.alloc (.cells #[(.int .i64 (0 : Int)), (.int .i64 (0 : Int))] 29) → ∃ b3 o4, l1 = some ⟨b3, o4, none⟩ ∧ ∃ head7 : Int, w2.cell? ⟨b3, 
    o4 + 5, none⟩ = some (.int .i64 head7) ∧ ∃ head8 : Int, w2.cell? ⟨b3, o4 + 5 + 1, none⟩ = some (.int .i64 head8) ∧ Wr w2 ⟨w.heap.size, 0, none⟩ ∧ 
    ∀ w9, w9 = w2.setCell ⟨w.heap.size, 0, none⟩ (.int .i64 head7) → Wr w9 ⟨w.heap.size, 0 + 1, none⟩ ∧ ∀ w10, w10 = w9.setCell ⟨w.heap.size, 0 + 1, 
    none⟩ (.int .i64 head8) → ∃ r11 : Int, w10.cell? ⟨w.heap.size, 0, none⟩ = some (.int .i64 r11) ∧ ∃ r12 : Int, w10.cell? ⟨w.heap.size, 0 + 1, 
    none⟩ = some (.int .i64 r12) ∧ R (.returned (.agg #[(.int .i64 r11), (.int .i64 r12)])) w10
theorem E_log_Log_Head (l1 : Option Addr) (w : World) (R : Ending → World → Prop) : F_log_Log_Head l1 w R = fnVC Try.prog Try.f7 A_log_Log_Head [(.pointer l1)] w R := by kernel_rfl
theorem C_log_Log_Head {l1 : Option Addr} {w : World} {R : Ending → World → Prop} (h : F_log_Log_Head l1 w R) : Calls Try.prog 7 #[(.pointer l1)] w R := fnVC_calls Try.func7 (Eq.mp (E_log_Log_Head l1 w R) h)

/-! 8 (*pollard/log.Log).Append -/
def A_log_Log_Append : Ann := .keep [0, 2, 3, 5, 8] (.inl (.cut [(14, .bool)] [0, 2, 3, 5, 8] (.gsplit (.done) (.done)) (.split (.keep [8, 9] (.sh (.agg [(.int .i64), 
    (.int .i64)]) (.done))) (.keep [0, 2, 3, 5, 8, 22] (.split (.keep [8, 9] (.sh (.agg [(.int .i64), 
    (.int .i64)]) (.done))) (.q 0 (.sh (.agg [(.int .i64), (.int .i64)]) (.q 1 (.q 2 (.q 3 (.q 4 (.sh (.agg [(.int .i64), 
    (.int .i64)]) (.q 5 (.fb 33 false .bool (.q 6 (.fin (.keep [0, 2, 3, 5, 8, 27] (.split (.keep [8, 9] (.sh (.agg [(.int .i64), 
    (.int .i64)]) (.done))) (.sh (.int .i64) (.keep [0, 2, 3, 5, 8, 35] (.split (.keep [8, 9] (.sh (.agg [(.int .i64), (.int .i64)]) (.done))) (.keep [0, 
    2, 3, 5, 8] (.q 0 (.q 1 (.sh (.int .i64) (.q 2 (.q 3 (.q 4 (.q 5 (.sh (.int .i64) (.q 6 (.alt 7 (.sh .slc (.q 8 (.alt 9 (.q 10 (.fin (.keep [0, 2, 3, 
    8, 10] (.keep [0, 2, 3, 8, 
    10] (.q 0 (.q 1 (.q 2 (.q 3 (.q 4 (.sh (.int .i64) (.q 5 (.q 6 (.q 7 (.q 8 (.sh (.int .i64) (.q 9 (.q 10 (.q 11 (.q 12 (.sh (.int .i64) (.q 13 (.q 14 (.q 16 (.alt 15 (.alt 17 (.sh .slc (.alt 18 (.sh (.tup [.slc, 
    (.int .i64)]) (.q 19 (.q 20 (.q 21 (.q 22 (.q 23 (.alt 24 (.q 25 (.fin (.keep [0, 2, 8, 10, 11] (.inl (.cut [(84, .bool)] [0, 8, 
    10] (.gsplit (.done) (.sh (.agg [(.int .i64), (.int .i64)]) (.sh (.int .i64) (.done)))) (.split (.keep [8, 9] (.sh (.agg [(.int .i64), 
    (.int .i64)]) (.done))) (.keep [0, 8, 10] (.q 0 (.q 1 (.q 2 (.q 3 (.sh .map (.q 4 (.q 5 (.q 6 (.q 7 (.sh (.int .i64) (.q 8 (.alt 9 (.fin (.keep [0, 
    8, 10] (.sh .slc (.keep [0, 8, 10, 98, 99, 100] (.loop [(100, (.int .i64))] [0, 8, 10, 98, 99] (.keep [0, 8, 10, 98, 99, 100, 101] (.split (.keep [0, 
    8, 10, 98, 99, 100] (.sh (.agg [(.int .i64), (.int .i64), (.int .i64), (.int .i64), (.int .i64), .slc]) (.keep [0, 8, 10, 13, 98, 99, 
    100] (.q 0 (.q 1 (.q 2 (.q 3 (.sh .map (.q 4 (.q 5 (.sh (.int .i64) (.q 6 (.alt 7 (.fin (.keep [0, 8, 10, 98, 99, 
    100] (.done))) .stop))))))))))))) (.keep [0, 8, 10] (.sh (.agg [(.int .i64), (.int .i64)]) (.keep [0, 8] (.sh (.agg [(.int .i64), 
    (.int .i64)]) (.keep [8, 9] (.sh (.agg [(.int .i64), 
    (.int .i64)]) (.done)))))))))))))) .stop))))))))))))))))))) .stop))))))) .stop)) .stop) .stop)))))))))))))))))))))))) .stop))) .stop))))))))))))))))))))))))))))))))
def F_log_Log_Append (a1 : Option Addr) (a2 : Int) (a3 : Int) (a4 : Int) (a5a : Option Addr) (a5l a5c : Nat) (w : World) (R : Ending → World → Prop) : Prop :=
    ∀ w6, w6 = w.alloc (.cells #[(.int .i64 a2), (.int .i64 a3)] 29) → ∀ w7, w7 = w6.alloc (.cells #[(.int .i64 (0 : Int)), (.int .i64 (0 : Int))] 29) → 
    ∀ J8 : Bool → World → Prop, (∀ (x9 : Bool) (w10 : World), ((x9 = true → Wr w10 ⟨w6.heap.size, 0, none⟩ ∧ ∀ w11, w11 = w10.setCell ⟨w6.heap.size, 0, 
    none⟩ (.int .i64 (0 : Int)) → Wr w11 ⟨w6.heap.size, 0 + 1, none⟩ ∧ ∀ w12, w12 = w11.setCell ⟨w6.heap.size, 0 + 1, none⟩ (.int .i64 (0 : Int)) → 
    ∃ r13 : Int, w12.cell? ⟨w6.heap.size, 0, none⟩ = some (.int .i64 r13) ∧ ∃ r14 : Int, w12.cell? ⟨w6.heap.size, 0 + 1, none⟩ = some (.int .i64 r14) ∧ 
    R (.returned (.tuple #[(.agg #[(.int .i64 r13), (.int .i64 r14)]), (.int .i64 (1 : Int))])) w12) ∧ (x9 = false → 
    ((decide (((a5l : Nat) : Int) ≥ (12672 : Int))) = true → Wr w10 ⟨w6.heap.size, 0, none⟩ ∧ ∀ w15, w15 = w10.setCell ⟨w6.heap.size, 0, 
    none⟩ (.int .i64 (0 : Int)) → Wr w15 ⟨w6.heap.size, 0 + 1, none⟩ ∧ ∀ w16, w16 = w15.setCell ⟨w6.heap.size, 0 + 1, none⟩ (.int .i64 (0 : Int)) → 
    ∃ r17 : Int, w16.cell? ⟨w6.heap.size, 0, none⟩ = some (.int .i64 r17) ∧ ∃ r18 : Int, w16.cell? ⟨w6.heap.size, 0 + 1, none⟩ = some (.int .i64 r18) ∧ 
    R (.returned (.tuple #[(.agg #[(.int .i64 r17), (.int .i64 r18)]), (.int .i64 (2 : Int))])) w16) ∧ 
    ((decide (((a5l : Nat) : Int) ≥ (12672 : Int))) = false → ∃ n21 : Int, w10.drew.cell? ⟨w.heap.size, 0, none⟩ = some (.int .i64 n21) ∧ ∃ n22 : Int, 
    w10.drew.cell? ⟨w.heap.size, 0 + 1, none⟩ = some (.int .i64 n22) ∧ ∃ b23 o24, a1 = some ⟨b23, o24, none⟩ ∧ ∃ head27 : Int, w10.drew.cell? ⟨b23, 
    o24 + 5, none⟩ = some (.int .i64 head27) ∧ ∃ head28 : Int, w10.drew.cell? ⟨b23, o24 + 5 + 1, none⟩ = some (.int .i64 head28) ∧ ∃ b29 : Bool, 
    BinRuns Try.prog .neq 29 (.tmp 28) (.tmp 32) (.agg #[(.int .i64 n21), (.int .i64 n22)]) (.agg #[(.int .i64 head27), 
    (.int .i64 head28)]) (.bool b29) ∧ (b29 = true → Wr w10.drew ⟨w6.heap.size, 0, none⟩ ∧ ∀ w30, w30 = w10.drew.setCell ⟨w6.heap.size, 0, 
    none⟩ (.int .i64 (0 : Int)) → Wr w30 ⟨w6.heap.size, 0 + 1, none⟩ ∧ ∀ w31, w31 = w30.setCell ⟨w6.heap.size, 0 + 1, none⟩ (.int .i64 (0 : Int)) → 
    ∃ r32 : Int, w31.cell? ⟨w6.heap.size, 0, none⟩ = some (.int .i64 r32) ∧ ∃ r33 : Int, w31.cell? ⟨w6.heap.size, 0 + 1, none⟩ = some (.int .i64 r33) ∧ 
    R (.returned (.tuple #[(.agg #[(.int .i64 r32), (.int .i64 r33)]), (.int .i64 (5 : Int))])) w31) ∧ (b29 = false → ∃ No34 : Int, 
    w10.drew.cell? ⟨w.heap.size, 0, none⟩ = some (.int .i64 No34) ∧ ((No34 == (1099511627776 : Int)) = true → Wr w10.drew ⟨w6.heap.size, 0, none⟩ ∧ 
    ∀ w35, w35 = w10.drew.setCell ⟨w6.heap.size, 0, none⟩ (.int .i64 (0 : Int)) → Wr w35 ⟨w6.heap.size, 0 + 1, none⟩ ∧ ∀ w36, 
    w36 = w35.setCell ⟨w6.heap.size, 0 + 1, none⟩ (.int .i64 (0 : Int)) → ∃ r37 : Int, w36.cell? ⟨w6.heap.size, 0, none⟩ = some (.int .i64 r37) ∧ 
    ∃ r38 : Int, w36.cell? ⟨w6.heap.size, 0 + 1, none⟩ = some (.int .i64 r38) ∧ R (.returned (.tuple #[(.agg #[(.int .i64 r37), (.int .i64 r38)]), 
    (.int .i64 (3 : Int))])) w36) ∧ ((No34 == (1099511627776 : Int)) = false → ∃ No39 : Int, w10.drew.drew.cell? ⟨w.heap.size, 0, 
    none⟩ = some (.int .i64 No39) ∧ ∀ n40 : Int, n40 = (IntKind.wrap .i64 (No39 + (1 : Int))) → ∃ Place41 : Int, w10.drew.drew.cell? ⟨w.heap.size, 0 + 1, 
    none⟩ = some (.int .i64 Place41) ∧ Calls Try.prog 30 #[(.slice a5a a5l a5c)] w10.drew.drew (fun e42 w43 => ∃ (r44a : Option Addr) (r44l r44c : Nat), 
    e42 = .returned (.slice r44a r44l r44c) ∧ w43.cell? ⟨w.heap.size, 0 + 1, none⟩ = some (.int .i64 Place41) ∧ w43.cell? ⟨w.heap.size, 0, 
    none⟩ = some (.int .i64 No39) ∧ ∀ w45, w45 = w43.alloc (.cells #[(.int .i64 n40), (.int .i64 a4), (.int .i64 Place41), (.slice r44a r44l r44c), 
    (.slice none 0 0)] 82) → ∃ b46 o47, (some (⟨w43.heap.size, 0, none⟩ : Addr)) = some ⟨b46, o47, none⟩ ∧ ∃ no48 : Int, w45.drew.cell? ⟨b46, o47, 
    none⟩ = some (.int .i64 no48) ∧ ∃ b49 o50, (some (⟨w43.heap.size, 0, none⟩ : Addr)) = some ⟨b49, o50, none⟩ ∧ ∃ place51 : Int, w45.drew.cell? ⟨b49, 
    o50 + 2, none⟩ = some (.int .i64 place51) ∧ ∃ b52 o53, a1 = some ⟨b52, o53, none⟩ ∧ ∃ era54 : Int, w45.drew.cell? ⟨b52, o53 + 2, 
    none⟩ = some (.int .i64 era54) ∧ ∀ n55 : Int, n55 = (IntKind.wrap .u8 a4) → ∀ w56, w56 = w45.drew.alloc (.cells #[(.int .u8 n55)] 5) → 
    w56.cell? ⟨b52, o53 + 2, none⟩ = some (.int .i64 era54) ∧ w56.cell? ⟨b49, o50 + 2, none⟩ = some (.int .i64 place51) ∧ w56.cell? ⟨b46, o47, 
    none⟩ = some (.int .i64 no48) ∧ ∃ (s57a : Option Addr) (s57l s57c : Nat), ∃ w58, Sem.run Try.prog (Builtin.append_ #[47, 
    47] 47 #[(.slice (some ⟨w45.drew.heap.size, 0, none⟩) 1 1), (.slice a5a a5l a5c)]) w56 = .ok (.slice s57a s57l s57c) w58 ∧ w58.cell? ⟨b52, o53 + 2, 
    none⟩ = some (.int .i64 era54) ∧ w58.cell? ⟨b49, o50 + 2, none⟩ = some (.int .i64 place51) ∧ w58.cell? ⟨b46, o47, none⟩ = some (.int .i64 no48) ∧ 
    Calls Try.prog 31 #[(.int .i64 no48), (.int .i64 place51), (.int .i64 era54), 
    (.slice s57a s57l s57c)] w58 (fun e59 w60 => ∃ (r61a : Option Addr) (r61l r61c : Nat), ∃ r62 : Int, 
    e59 = .returned (.tuple #[(.slice r61a r61l r61c), (.int .i64 r62)]) ∧ ∃ b63 o64, (some (⟨w43.heap.size, 0, none⟩ : Addr)) = some ⟨b63, o64, none⟩ ∧ 
    Wr w60 ⟨b63, o64 + 4, none⟩ ∧ ∀ w65, w65 = w60.setCell ⟨b63, o64 + 4, none⟩ (.slice r61a r61l r61c) → ∀ J66 : Bool → World → Prop, 
    (∀ (x67 : Bool) (w68 : World), ((x67 = true → Wr w68 ⟨w6.heap.size, 0, none⟩ ∧ ∀ w69, w69 = w68.setCell ⟨w6.heap.size, 0, 
    none⟩ (.int .i64 (0 : Int)) → Wr w69 ⟨w6.heap.size, 0 + 1, none⟩ ∧ ∀ w70, w70 = w69.setCell ⟨w6.heap.size, 0 + 1, none⟩ (.int .i64 (0 : Int)) → 
    ∃ r71 : Int, w70.cell? ⟨w6.heap.size, 0, none⟩ = some (.int .i64 r71) ∧ ∃ r72 : Int, w70.cell? ⟨w6.heap.size, 0 + 1, none⟩ = some (.int .i64 r72) ∧ 
    R (.returned (.tuple #[(.agg #[(.int .i64 r71), (.int .i64 r72)]), (.int .i64 (3 : Int))])) w70) ∧ (x67 = false → ∃ b73 o74, a1 = some ⟨b73, o74, 
    none⟩ ∧ ∃ vin75 : Option Nat, w68.drew.cell? ⟨b73, o74 + 3, none⟩ = some (.map vin75) ∧ ∃ b76 o77, (some (⟨w43.heap.size, 0, 
    none⟩ : Addr)) = some ⟨b76, o77, none⟩ ∧ ∃ no78 : Int, w68.drew.cell? ⟨b76, o77, none⟩ = some (.int .i64 no78) ∧ ∃ w79, 
    (Instr.mapUpdate 75 (.map vin75) (.int .i64 no78) (.pointer (some ⟨w43.heap.size, 0, none⟩))).run Try.prog w68.drew = .ok () w79 ∧ ∃ b80 o81, 
    (some (⟨w43.heap.size, 0, none⟩ : Addr)) = some ⟨b80, o81, none⟩ ∧ ∃ (parts82a : Option Addr) (parts82l parts82c : Nat), w79.cell? ⟨b80, o81 + 4, 
    none⟩ = some (.slice parts82a parts82l parts82c) ∧ ∃ (I83 : Int → World → Prop) (mu84 : Int → World → Nat), I83 (0 : Int) w79 ∧ 
    ∀ (x85 : Int) (w86 : World), I83 x85 w86 → ((decide (x85 < ((parts82l : Nat) : Int))) = true → ∃ b87 o88, parts82a = some ⟨b87, o88, none⟩ ∧ 
    0 ≤ x85 ∧ x85 < ((parts82l : Nat) : Int) ∧ ∃ n95 : Int, w86.cell? ⟨b87, o88 + Int.toNat x85 * 6, none⟩ = some (.int .i64 n95) ∧ ∃ n96 : Int, 
    w86.cell? ⟨b87, o88 + Int.toNat x85 * 6 + 1, none⟩ = some (.int .i64 n96) ∧ ∃ n97 : Int, w86.cell? ⟨b87, o88 + Int.toNat x85 * 6 + 2, 
    none⟩ = some (.int .i64 n97) ∧ ∃ n98 : Int, w86.cell? ⟨b87, o88 + Int.toNat x85 * 6 + 3, none⟩ = some (.int .i64 n98) ∧ ∃ n99 : Int, w86.cell? ⟨b87, 
    o88 + Int.toNat x85 * 6 + 4, none⟩ = some (.int .i64 n99) ∧ ∃ (s100a : Option Addr) (s100l s100c : Nat), w86.cell? ⟨b87, o88 + Int.toNat x85 * 6 + 5, 
    none⟩ = some (.slice s100a s100l s100c) ∧ ∀ w101, w101 = w86.alloc (.cells #[(.int .i64 (0 : Int)), (.int .i64 (0 : Int)), (.int .i64 (0 : Int)), 
    (.int .i64 (0 : Int)), (.int .i64 (0 : Int)), (.slice none 0 0)] 87) → Wr w101 ⟨w86.heap.size, 0, none⟩ ∧ ∀ w102, w102 = w101.setCell ⟨w86.heap.size, 
    0, none⟩ (.int .i64 n95) → Wr w102 ⟨w86.heap.size, 0 + 1, none⟩ ∧ ∀ w103, w103 = w102.setCell ⟨w86.heap.size, 0 + 1, none⟩ (.int .i64 n96) → 
    Wr w103 ⟨w86.heap.size, 0 + 2, none⟩ ∧ ∀ w104, w104 = w103.setCell ⟨w86.heap.size, 0 + 2, none⟩ (.int .i64 n97) → Wr w104 ⟨w86.heap.size, 0 + 3, 
    none⟩ ∧ ∀ w105, w105 = w104.setCell ⟨w86.heap.size, 0 + 3, none⟩ (.int .i64 n98) → Wr w105 ⟨w86.heap.size, 0 + 4, none⟩ ∧ ∀ w106, 
    w106 = w105.setCell ⟨w86.heap.size, 0 + 4, none⟩ (.int .i64 n99) → Wr w106 ⟨w86.heap.size, 0 + 5, none⟩ ∧ ∀ w107, w107 = w106.setCell ⟨w86.heap.size, 
    0 + 5, none⟩ (.slice s100a s100l s100c) → ∃ b108 o109, a1 = some ⟨b108, o109, none⟩ ∧ ∃ vat110 : Option Nat, w107.drew.cell? ⟨b108, o109 + 4, 
    none⟩ = some (.map vat110) ∧ ∃ Place111 : Int, w107.drew.cell? ⟨w86.heap.size, 0, none⟩ = some (.int .i64 Place111) ∧ ∃ w112, 
    (Instr.mapUpdate 75 (.map vat110) (.int .i64 Place111) (.pointer (some ⟨w43.heap.size, 0, none⟩))).run Try.prog w107.drew = .ok () w112 ∧ 
    ∀ n113 : Int, n113 = (IntKind.wrap .i64 (x85 + (1 : Int))) → I83 n113 w112 ∧ mu84 n113 w112 < mu84 x85 w86) ∧ 
    ((decide (x85 < ((parts82l : Nat) : Int))) = false → Calls Try.prog 32 #[(.pointer (some ⟨w43.heap.size, 0, 
    none⟩))] w86 (fun e114 w115 => ∃ r116 : Int, ∃ r117 : Int, e114 = .returned (.agg #[(.int .i64 r116), (.int .i64 r117)]) ∧ ∃ b118 o119, 
    a1 = some ⟨b118, o119, none⟩ ∧ Wr w115 ⟨b118, o119 + 5, none⟩ ∧ ∀ w120, w120 = w115.setCell ⟨b118, o119 + 5, none⟩ (.int .i64 r116) → Wr w120 ⟨b118, 
    o119 + 5 + 1, none⟩ ∧ ∀ w121, w121 = w120.setCell ⟨b118, o119 + 5 + 1, none⟩ (.int .i64 r117) → ∃ b122 o123, a1 = some ⟨b122, o123, none⟩ ∧ 
    ∃ head126 : Int, w121.cell? ⟨b122, o123 + 5, none⟩ = some (.int .i64 head126) ∧ ∃ head127 : Int, w121.cell? ⟨b122, o123 + 5 + 1, 
    none⟩ = some (.int .i64 head127) ∧ Wr w121 ⟨w6.heap.size, 0, none⟩ ∧ ∀ w128, w128 = w121.setCell ⟨w6.heap.size, 0, none⟩ (.int .i64 head126) → 
    Wr w128 ⟨w6.heap.size, 0 + 1, none⟩ ∧ ∀ w129, w129 = w128.setCell ⟨w6.heap.size, 0 + 1, none⟩ (.int .i64 head127) → ∃ r130 : Int, 
    w129.cell? ⟨w6.heap.size, 0, none⟩ = some (.int .i64 r130) ∧ ∃ r131 : Int, w129.cell? ⟨w6.heap.size, 0 + 1, none⟩ = some (.int .i64 r131) ∧ 
    R (.returned (.tuple #[(.agg #[(.int .i64 r130), (.int .i64 r131)]), (.int .i64 (0 : Int))])) w129)))) → J66 x67 w68) → ((r62 != (0 : Int)) = true → 
    J66 true w65) ∧ ((r62 != (0 : Int)) = false → Calls Try.prog 32 #[(.pointer (some ⟨w43.heap.size, 0, none⟩))] w65 (fun e132 w133 => ∃ r134 : Int, 
    ∃ r135 : Int, e132 = .returned (.agg #[(.int .i64 r134), (.int .i64 r135)]) ∧ Calls Try.prog 33 #[(.pointer a1), 
    (.int .i64 a4)] w133 (fun e136 w137 => ∃ r138 : Int, e136 = .returned (.int .i64 r138) ∧ J66 (decide (r135 > r138)) w137)))))))))) → J8 x9 w10) → 
    ((decide (a4 < (1 : Int))) = true → J8 true w7) ∧ ((decide (a4 < (1 : Int))) = false → J8 (decide (a4 > (5 : Int))) w7)
theorem E_log_Log_Append (a1 : Option Addr) (a2 : Int) (a3 : Int) (a4 : Int) (a5a : Option Addr) (a5l a5c : Nat) (w : World) (R : Ending → World → Prop) : F_log_Log_Append a1 a2 a3 a4 a5a a5l a5c w R = fnVC Try.prog Try.f8 A_log_Log_Append [(.pointer a1), (.agg #[(.int .i64 a2), (.int .i64 a3)]), (.int .i64 a4), (.slice a5a a5l a5c)] w R := by kernel_rfl
theorem C_log_Log_Append {a1 : Option Addr} {a2 : Int} {a3 : Int} {a4 : Int} {a5a : Option Addr} {a5l a5c : Nat} {w : World} {R : Ending → World → Prop} (h : F_log_Log_Append a1 a2 a3 a4 a5a a5l a5c w R) : Calls Try.prog 8 #[(.pointer a1), (.agg #[(.int .i64 a2), (.int .i64 a3)]), (.int .i64 a4), (.slice a5a a5l a5c)] w R := fnVC_calls Try.func8 (Eq.mp (E_log_Log_Append a1 a2 a3 a4 a5a a5l a5c w R) h)

/-! 9 (*pollard/log.Log).NewFlush -/
def A_log_Log_NewFlush : Ann := .keep [0] (.keep [3] (.keep [3] (.keep [2] (.done))))
def F_log_Log_NewFlush (l1 : Option Addr) (w : World) (R : Ending → World → Prop) : Prop :=
    ∀ w2, w2 = w.alloc (.cells #[(.pointer l1), .nilFunc, (.int .i64 (0 : Int)), (.int .i64 (0 : Int)), (.int .i64 (0 : Int)), 
    (.int .i64 (1 : Int))] 89) → ∃ b3 o4, (some (⟨w.heap.size, 0, none⟩ : Addr)) = some ⟨b3, o4, none⟩ ∧ Wr w2 ⟨b3, o4 + 1, none⟩ ∧ ∀ w5, 
    w5 = w2.setCell ⟨b3, o4 + 1, none⟩ (.func (.func 34) #[(.pointer (some ⟨w.heap.size, 0, none⟩))] #[]) → R (.returned (.pointer (some ⟨w.heap.size, 0, 
    none⟩))) w5
theorem E_log_Log_NewFlush (l1 : Option Addr) (w : World) (R : Ending → World → Prop) : F_log_Log_NewFlush l1 w R = fnVC Try.prog Try.f9 A_log_Log_NewFlush [(.pointer l1)] w R := by kernel_rfl
theorem C_log_Log_NewFlush {l1 : Option Addr} {w : World} {R : Ending → World → Prop} (h : F_log_Log_NewFlush l1 w R) : Calls Try.prog 9 #[(.pointer l1)] w R := fnVC_calls Try.func9 (Eq.mp (E_log_Log_NewFlush l1 w R) h)

/-! 10 pollard/pollardlaw08.runFlush -/
def A_pollardlaw08_runFlush : Ann := .keep [0, 2] (.loop [(2, (.int .i64))] [0] (.keep [0, 2, 5] (.split (.keep [0, 2] (.sh .bool (.keep [0, 2, 3] (.keep [0, 2, 
    10] (.split (.done) (.keep [0, 2] (.done))))))) (.done))))
def F_pollardlaw08_runFlush (f1 : Option Addr) (w : World) (R : Ending → World → Prop) : Prop :=
    ∃ (I2 : Int → World → Prop) (mu3 : Int → World → Nat), I2 (0 : Int) w ∧ ∀ (i4 : Int) (w5 : World), I2 i4 w5 → ((decide (i4 < (1000 : Int))) = true → 
    Calls Try.prog 12 #[(.pointer f1)] w5 (fun e6 w7 => ∃ r8 : Bool, e6 = .returned (.bool r8) ∧ (r8 = true → R (.returned (.tuple #[])) w7) ∧ 
    (r8 = false → ∀ n9 : Int, n9 = (IntKind.wrap .i64 (i4 + (1 : Int))) → I2 n9 w7 ∧ mu3 n9 w7 < mu3 i4 w5))) ∧ ((decide (i4 < (1000 : Int))) = false → 
    R (.returned (.tuple #[])) w5)
theorem E_pollardlaw08_runFlush (f1 : Option Addr) (w : World) (R : Ending → World → Prop) : F_pollardlaw08_runFlush f1 w R = fnVC Try.prog Try.f10 A_pollardlaw08_runFlush [(.pointer f1)] w R := by kernel_rfl
theorem C_pollardlaw08_runFlush {f1 : Option Addr} {w : World} {R : Ending → World → Prop} (h : F_pollardlaw08_runFlush f1 w R) : Calls Try.prog 10 #[(.pointer f1)] w R := fnVC_calls Try.func10 (Eq.mp (E_pollardlaw08_runFlush f1 w R) h)

/-! 11 (*pollard/log.Flush).Upto -/
def A_log_Flush_Upto : Ann := .keep [0] (.q 0 (.q 1 (.q 2 (.q 3 (.sh (.int .i64) (.q 4 (.q 5 (.q 6 (.q 7 (.sh (.int .i64) (.q 8 (.q 9 (.fin (.keep [2, 3] (.done)))))))))))))))
def F_log_Flush_Upto (f1 : Option Addr) (w : World) (R : Ending → World → Prop) : Prop :=
    ∃ b2 o3, f1 = some ⟨b2, o3, none⟩ ∧ ∃ n4 : Int, w.drew.cell? ⟨b2, o3 + 4, none⟩ = some (.int .i64 n4) ∧ ∃ b5 o6, f1 = some ⟨b5, o6, none⟩ ∧ 
    ∃ e7 : Int, w.drew.cell? ⟨b5, o6 + 5, none⟩ = some (.int .i64 e7) ∧ R (.returned (.tuple #[(.int .i64 n4), (.int .i64 e7)])) w.drew
theorem E_log_Flush_Upto (f1 : Option Addr) (w : World) (R : Ending → World → Prop) : F_log_Flush_Upto f1 w R = fnVC Try.prog Try.f11 A_log_Flush_Upto [(.pointer f1)] w R := by kernel_rfl
theorem C_log_Flush_Upto {f1 : Option Addr} {w : World} {R : Ending → World → Prop} (h : F_log_Flush_Upto f1 w R) : Calls Try.prog 11 #[(.pointer f1)] w R := fnVC_calls Try.func11 (Eq.mp (E_log_Flush_Upto f1 w R) h)

/-! 12 (*pollard/log.Flush).Step -/
def A_log_Flush_Step : Ann := .keep [0] (.sh .any (.fb 7 false .bool (.gsplit (.keep [2] (.done)) (.sh .any (.raw .bool (.keep [2] (.done)))))))
def F_log_Flush_Step (f1 : Option Addr) (w : World) (R : Ending → World → Prop) : Prop :=
    ∃ b2 o3, f1 = some ⟨b2, o3, none⟩ ∧ ∃ next4 : Value, w.cell? ⟨b2, o3 + 1, none⟩ = some next4 ∧ ∃ b5 : Bool, 
    BinRuns Try.prog .eql 24 (.tmp 6) (.const .nilFunc) next4 .nilFunc (.bool b5) ∧ (b5 = true → R (.returned (.bool true)) w) ∧ (b5 = false → ∃ b6 o7, 
    f1 = some ⟨b6, o7, none⟩ ∧ ∃ next8 : Value, w.cell? ⟨b6, o7 + 1, none⟩ = some next8 ∧ ∃ (g12 : FuncId) (fst13 cap14 : Array Value), 
    next8 = .func (.func g12) fst13 cap14 ∧ callableB Try.prog g12 = true ∧ Calls Try.prog g12 (fst13 ++ #[] ++ cap14) w (fun e9 w10 => ∃ r11 : Bool, 
    e9 = .returned (.bool r11) ∧ R (.returned (.bool r11)) w10))
theorem E_log_Flush_Step (f1 : Option Addr) (w : World) (R : Ending → World → Prop) : F_log_Flush_Step f1 w R = fnVC Try.prog Try.f12 A_log_Flush_Step [(.pointer f1)] w R := by kernel_rfl
theorem C_log_Flush_Step {f1 : Option Addr} {w : World} {R : Ending → World → Prop} (h : F_log_Flush_Step f1 w R) : Calls Try.prog 12 #[(.pointer f1)] w R := fnVC_calls Try.func12 (Eq.mp (E_log_Flush_Step f1 w R) h)

/-! 13 (*pollard/disk.Disk).Up -/
def A_disk_Disk_Up : Ann := .sh .slc (.sh .slc (.keep [0, 1, 4] (.sh (.int .i64) (.keep [0, 4] (.sh .slc (.keep [0, 4, 20, 21, 22] (.loop [(22, (.int .i64))] [0, 4, 20, 
    21] (.keep [0, 4, 20, 21, 22, 23] (.split (.keep [0, 4, 20, 21, 22] (.sh (.arr 65) (.sh (.arr 65) (.keep [0, 4, 5, 6, 20, 21, 
    22] (.sh (.int .i64) (.keep [0, 4, 6, 7, 20, 21, 
    22] (.q 0 (.q 1 (.q 2 (.q 3 (.sh .slc (.q 4 (.q 5 (.sh (.int .i64) (.q 6 (.q 7 (.q 8 (.q 9 (.q 10 (.alt 11 (.sh (.int .i64) (.fin (.keep [0, 4, 20, 
    21, 
    22] (.done)))) .stop)))))))))))))))))))) (.keep [0] (.sh .slc (.sh .nil (.keep [0] (.keep [0] (.q 0 (.q 1 (.q 2 (.q 3 (.sh .slc (.q 4 (.q 5 (.q 6 (.q 7 (.sh .slc (.alt 8 (.sh (.int .i64) (.fin (.done))) .stop)))))))))))))))))))))))))
def F_disk_Disk_Up (a1 : Option Addr) (a2a : Option Addr) (a2l a2c : Nat) (w : World) (R : Ending → World → Prop) : Prop :=
    ∃ b3 o4, a1 = some ⟨b3, o4, none⟩ ∧ ∃ (waits5a : Option Addr) (waits5l waits5c : Nat), w.cell? ⟨b3, o4 + 2, 
    none⟩ = some (.slice waits5a waits5l waits5c) ∧ ∃ (s6a : Option Addr) (s6l s6c : Nat), ∃ w7, 
    Sem.run Try.prog (Instr.makeSlice 23 (.int .i64 ((waits5l : Nat) : Int)) (.int .i64 ((waits5l : Nat) : Int))) w = .ok (.slice s6a s6l s6c) w7 ∧ 
    ∃ n8 : Int, ∃ w9, Sem.run Try.prog (Builtin.copy_ #[23, 23] 3 #[(.slice s6a s6l s6c), (.slice a2a a2l a2c)]) w7 = .ok (.int .i64 n8) w9 ∧ ∃ b10 o11, 
    a1 = some ⟨b10, o11, none⟩ ∧ ∃ (waits12a : Option Addr) (waits12l waits12c : Nat), w9.cell? ⟨b10, o11 + 2, 
    none⟩ = some (.slice waits12a waits12l waits12c) ∧ ∃ (I13 : Int → World → Prop) (mu14 : Int → World → Nat), I13 (0 : Int) w9 ∧ 
    ∀ (x15 : Int) (w16 : World), I13 x15 w16 → ((decide (x15 < ((waits12l : Nat) : Int))) = true → ∃ b17 o18, waits12a = some ⟨b17, o18, none⟩ ∧ 
    0 ≤ x15 ∧ x15 < ((waits12l : Nat) : Int) ∧ ∃ l19 : List Value, l19.length = 65 ∧ Rd w16 ⟨b17, o18 + Int.toNat x15 * 65, none⟩ l19 ∧ ∀ w20, 
    w20 = w16.alloc (.cells (zeroCellsOf Try.prog 95) 95) → (Value.cells (.agg (List.toArray l19))).size = 65 ∧ 
    (∀ u ∈ (Value.cells (.agg (List.toArray l19))).toList, WhenOne u True) ∧ (∀ i, i < 65 → Wr w20 (Addr.add ⟨w16.heap.size, 0, none⟩ i)) ∧ 
    (none : Option Nat) = none ∧ ∀ w21, w21 = w20.setCells (w16.heap.size) (0) (Value.cells (.agg (List.toArray l19))).toList → ∃ b22 o23, 
    s6a = some ⟨b22, o23, none⟩ ∧ 0 ≤ x15 ∧ x15 < ((s6l : Nat) : Int) ∧ ∃ n24 : Int, w21.cell? ⟨b22, o23 + Int.toNat x15 * 1, 
    none⟩ = some (.int .i64 n24) ∧ ∃ b25 o26, a1 = some ⟨b25, o26, none⟩ ∧ ∃ (platter27a : Option Addr) (platter27l platter27c : Nat), 
    w21.drew.cell? ⟨b25, o26, none⟩ = some (.slice platter27a platter27l platter27c) ∧ ∃ vat28 : Int, w21.drew.cell? ⟨w16.heap.size, 0, 
    none⟩ = some (.int .i64 vat28) ∧ ∀ n29 : Int, n29 = (IntKind.wrap .i64 (vat28 * (64 : Int))) → 0 ≤ n29 ∧ n29 ≤ ((platter27l : Nat) : Int) ∧ 
    0 ≤ (if (64 : Int) < (if n24 > (0 : Int) then n24 else (0 : Int)) then (64 : Int) else (if n24 > (0 : Int) then n24 else (0 : Int))) ∧ 
    (if (64 : Int) < (if n24 > (0 : Int) then n24 else (0 : Int)) then (64 : Int) else (if n24 > (0 : Int) then n24 else (0 : Int))) ≤ ((64 : Nat) : Int) ∧ 
    ∃ n30 : Int, ∃ w31, Sem.run Try.prog (Builtin.copy_ #[47, 
    47] 3 #[(.slice (cutBase platter27a (Int.toNat n29) platter27c 1) (platter27l - (Int.toNat n29)) (platter27c - (Int.toNat n29))), 
    (.slice (cutBase (some ⟨w16.heap.size, 0 + 1, 
    none⟩) 0 64 1) ((Int.toNat (if (64 : Int) < (if n24 > (0 : Int) then n24 else (0 : Int)) then (64 : Int) else (if n24 > (0 : Int) then n24 else (0 : Int)))) - 0) (64 - 0))]) w21.drew = .ok (.int .i64 n30) w31 ∧ 
    ∀ n32 : Int, n32 = (IntKind.wrap .i64 (x15 + (1 : Int))) → I13 n32 w31 ∧ mu14 n32 w31 < mu14 x15 w16) ∧ 
    ((decide (x15 < ((waits12l : Nat) : Int))) = false → ∃ b33 o34, a1 = some ⟨b33, o34, none⟩ ∧ ∃ (waits35a : Option Addr) (waits35l waits35c : Nat), 
    w16.cell? ⟨b33, o34 + 2, none⟩ = some (.slice waits35a waits35l waits35c) ∧ ∃ w36, 
    Sem.run Try.prog (Builtin.clear_ #[90] 0 #[(.slice waits35a waits35l waits35c)]) w16 = .ok (.tuple #[]) w36 ∧ ∃ b37 o38, a1 = some ⟨b37, o38, none⟩ ∧ 
    Wr w36 ⟨b37, o38 + 2, none⟩ ∧ ∀ w39, w39 = w36.setCell ⟨b37, o38 + 2, none⟩ (.slice none 0 0) → ∃ b40 o41, a1 = some ⟨b40, o41, none⟩ ∧ Wr w39 ⟨b40, 
    o41 + 3, none⟩ ∧ ∀ w42, w42 = w39.setCell ⟨b40, o41 + 3, none⟩ (.int .i64 (-1 : Int)) → ∃ b43 o44, a1 = some ⟨b43, o44, none⟩ ∧ Wr w42 ⟨b43, o44 + 4, 
    none⟩ ∧ ∀ w45, w45 = w42.setCell ⟨b43, o44 + 4, none⟩ (.bool false) → ∃ b46 o47, a1 = some ⟨b46, o47, none⟩ ∧ 
    ∃ (now48a : Option Addr) (now48l now48c : Nat), w45.drew.cell? ⟨b46, o47 + 1, none⟩ = some (.slice now48a now48l now48c) ∧ ∃ b49 o50, a1 = some ⟨b49, 
    o50, none⟩ ∧ ∃ (platter51a : Option Addr) (platter51l platter51c : Nat), w45.drew.cell? ⟨b49, o50, 
    none⟩ = some (.slice platter51a platter51l platter51c) ∧ ∃ n52 : Int, ∃ w53, Sem.run Try.prog (Builtin.copy_ #[47, 
    47] 3 #[(.slice now48a now48l now48c), (.slice platter51a platter51l platter51c)]) w45.drew = .ok (.int .i64 n52) w53 ∧ 
    R (.returned (.tuple #[])) w53)
theorem E_disk_Disk_Up (a1 : Option Addr) (a2a : Option Addr) (a2l a2c : Nat) (w : World) (R : Ending → World → Prop) : F_disk_Disk_Up a1 a2a a2l a2c w R = fnVC Try.prog Try.f13 A_disk_Disk_Up [(.pointer a1), (.slice a2a a2l a2c)] w R := by kernel_rfl
theorem C_disk_Disk_Up {a1 : Option Addr} {a2a : Option Addr} {a2l a2c : Nat} {w : World} {R : Ending → World → Prop} (h : F_disk_Disk_Up a1 a2a a2l a2c w R) : Calls Try.prog 13 #[(.pointer a1), (.slice a2a a2l a2c)] w R := fnVC_calls Try.func13 (Eq.mp (E_disk_Disk_Up a1 a2a a2l a2c w R) h)

/-! 14 pollard/seg.New -/
def A_seg_New : Ann := .keep [0, 1, 2] (.sh (.int .i64) (.keep [0, 1, 2, 8] (.gsplit (.known true (.known true (.known true (.keep [0, 1, 2, 8, 35] (.known true (.keep [6, 
    7] (.done))))))) (.gsplit (.known true (.known true (.keep [0, 1, 2, 8, 35] (.known true (.keep [6, 7] (.done)))))) (.gsplit (.known true (.keep [0, 
    1, 2, 8, 35] (.known true (.keep [6, 7] (.done))))) (.gsplit (.keep [0, 1, 2, 8, 35] (.known true (.keep [6, 7] (.done)))) (.keep [0, 1, 2, 8, 
    35] (.split (.keep [6, 7] (.done)) (.keep [0, 1, 2, 8] (.keep [6, 7] (.done)))))))))))
def F_seg_New (d1 : Option Addr) (first2 : Int) (vend3 : Int) (w : World) (R : Ending → World → Prop) : Prop :=
    Calls Try.prog 35 #[(.pointer d1)] w (fun e4 w5 => ∃ r6 : Int, e4 = .returned (.int .i64 r6) ∧ ∀ n7 : Int, 
    n7 = (IntKind.wrap .i64 (r6 - (8 : Int))) → (32 : Int) ≠ 0 ∧ ∀ n8 : Int, 
    n8 = (IntKind.wrap .i64 (Int.tdiv (if n7 > (0 : Int) then n7 else (0 : Int)) (32 : Int))) → ((decide (n8 < (4 : Int))) = true → 
    R (.returned (.tuple #[(.pointer none), (.int .i64 (1 : Int))])) w5) ∧ ((decide (n8 < (4 : Int))) = false → ((decide (first2 < (0 : Int))) = true → 
    R (.returned (.tuple #[(.pointer none), (.int .i64 (1 : Int))])) w5) ∧ ((decide (first2 < (0 : Int))) = false → ((decide (vend3 < first2)) = true → 
    R (.returned (.tuple #[(.pointer none), (.int .i64 (1 : Int))])) w5) ∧ ((decide (vend3 < first2)) = false → 
    ((decide (vend3 > (68719476736 : Int))) = true → R (.returned (.tuple #[(.pointer none), (.int .i64 (1 : Int))])) w5) ∧ 
    ((decide (vend3 > (68719476736 : Int))) = false → ∀ n9 : Int, n9 = (IntKind.wrap .i64 (vend3 - first2)) → ((decide (n9 > n8)) = true → 
    R (.returned (.tuple #[(.pointer none), (.int .i64 (1 : Int))])) w5) ∧ ((decide (n9 > n8)) = false → ∀ w10, w10 = w5.alloc (.cells #[(.pointer d1), 
    (.int .i64 n8), (.int .i64 first2), (.int .i64 vend3)] 98) → R (.returned (.tuple #[(.pointer (some ⟨w5.heap.size, 0, none⟩)), 
    (.int .i64 (0 : Int))])) w10))))))
theorem E_seg_New (d1 : Option Addr) (first2 : Int) (vend3 : Int) (w : World) (R : Ending → World → Prop) : F_seg_New d1 first2 vend3 w R = fnVC Try.prog Try.f14 A_seg_New [(.pointer d1), (.int .i64 first2), (.int .i64 vend3)] w R := by kernel_rfl
theorem C_seg_New {d1 : Option Addr} {first2 : Int} {vend3 : Int} {w : World} {R : Ending → World → Prop} (h : F_seg_New d1 first2 vend3 w R) : Calls Try.prog 14 #[(.pointer d1), (.int .i64 first2), (.int .i64 vend3)] w R := fnVC_calls Try.func14 (Eq.mp (E_seg_New d1 first2 vend3 w R) h)

/-! 15 (*pollard/seg.Segs).End -/
def A_seg_Segs_End : Ann := .keep [0] (.sh (.int .i64) (.keep [2] (.done)))
def F_seg_Segs_End (s1 : Option Addr) (w : World) (R : Ending → World → Prop) : Prop :=
    ∃ b2 o3, s1 = some ⟨b2, o3, none⟩ ∧ ∃ vend4 : Int, w.cell? ⟨b2, o3 + 3, none⟩ = some (.int .i64 vend4) ∧ R (.returned (.int .i64 vend4)) w
theorem E_seg_Segs_End (s1 : Option Addr) (w : World) (R : Ending → World → Prop) : F_seg_Segs_End s1 w R = fnVC Try.prog Try.f15 A_seg_Segs_End [(.pointer s1)] w R := by kernel_rfl
theorem C_seg_Segs_End {s1 : Option Addr} {w : World} {R : Ending → World → Prop} (h : F_seg_Segs_End s1 w R) : Calls Try.prog 15 #[(.pointer s1)] w R := fnVC_calls Try.func15 (Eq.mp (E_seg_Segs_End s1 w R) h)

/-! 16 pollard/log.Open -/
def A_log_Open : Ann := .keep [0, 1, 3, 6] (.sh (.int .i64) (.sh (.int .i64) (.sh (.int .i64) (.keep [0, 1, 3, 6, 10, 
    11] (.sh (.int .i64) (.gsplit (.known true (.known true (.known true (.known true (.keep [0, 1, 3, 6, 48] (.known true (.keep [8, 
    9] (.done)))))))) (.sh (.int .i64) (.gsplit (.known true (.known true (.known true (.keep [0, 1, 3, 6, 48] (.known true (.keep [8, 
    9] (.done))))))) (.sh (.int .i64) (.gsplit (.known true (.known true (.keep [0, 1, 3, 6, 48] (.known true (.keep [8, 
    9] (.done)))))) (.sh (.int .i64) (.gsplit (.known true (.keep [0, 1, 3, 6, 48] (.known true (.keep [8, 9] (.done))))) (.gsplit (.keep [0, 1, 3, 6, 
    48] (.known true (.keep [8, 9] (.done)))) (.keep [0, 1, 3, 6, 48] (.split (.keep [8, 9] (.done)) (.keep [0, 1, 3, 6] (.sh (.agg [(.int .i64), 
    (.int .i64)]) (.sh (.agg [(.int .i64), (.int .i64)]) (.sh (.int .i64) (.sh (.int .i64) (.keep [8, 9] (.done))))))))))))))))))))))
def F_log_Open (d1 : Option Addr) (s2 : Option Addr) (h3 : Int) (h4 : Int) (era5 : Int) (w : World) (R : Ending → World → Prop) : Prop :=
    ∀ w6, w6 = w.alloc (.cells #[(.int .i64 h3), (.int .i64 h4)] 29) → Calls Try.prog 36 #[(.pointer s2)] w6 (fun e7 w8 => ∃ r9 : Int, 
    e7 = .returned (.int .i64 r9) ∧ ∀ n10 : Int, n10 = (IntKind.wrap .i64 (r9 * (8 : Int))) → 
    Calls Try.prog 36 #[(.pointer s2)] w8 (fun e11 w12 => ∃ r13 : Int, e11 = .returned (.int .i64 r13) ∧ 
    Calls Try.prog 37 #[(.pointer s2)] w12 (fun e14 w15 => ∃ r16 : Int, e14 = .returned (.int .i64 r16) ∧ ∀ n17 : Int, 
    n17 = (IntKind.wrap .i64 (r13 + r16)) → ∀ n18 : Int, n18 = (IntKind.wrap .i64 (n17 * (8 : Int))) → ∃ No19 : Int, w15.cell? ⟨w.heap.size, 0, 
    none⟩ = some (.int .i64 No19) ∧ ((decide (No19 < (0 : Int))) = true → R (.returned (.tuple #[(.pointer none), (.int .i64 (1 : Int))])) w15) ∧ 
    ((decide (No19 < (0 : Int))) = false → ∃ No20 : Int, w15.cell? ⟨w.heap.size, 0, none⟩ = some (.int .i64 No20) ∧ 
    ((decide (No20 > (1099511627776 : Int))) = true → R (.returned (.tuple #[(.pointer none), (.int .i64 (1 : Int))])) w15) ∧ 
    ((decide (No20 > (1099511627776 : Int))) = false → ∃ Place21 : Int, w15.cell? ⟨w.heap.size, 0 + 1, none⟩ = some (.int .i64 Place21) ∧ 
    ((decide (Place21 < n10)) = true → R (.returned (.tuple #[(.pointer none), (.int .i64 (1 : Int))])) w15) ∧ ((decide (Place21 < n10)) = false → 
    ∃ Place22 : Int, w15.cell? ⟨w.heap.size, 0 + 1, none⟩ = some (.int .i64 Place22) ∧ ((decide (Place22 > n18)) = true → 
    R (.returned (.tuple #[(.pointer none), (.int .i64 (1 : Int))])) w15) ∧ ((decide (Place22 > n18)) = false → ((decide (era5 < (1 : Int))) = true → 
    R (.returned (.tuple #[(.pointer none), (.int .i64 (1 : Int))])) w15) ∧ ((decide (era5 < (1 : Int))) = false → 
    ((decide (era5 > (4294967295 : Int))) = true → R (.returned (.tuple #[(.pointer none), (.int .i64 (1 : Int))])) w15) ∧ 
    ((decide (era5 > (4294967295 : Int))) = false → ∀ w23, w23 = w15.alloc (.map #[] 0) → ∀ w24, w24 = w23.alloc (.map #[] 0) → ∃ n27 : Int, 
    w24.cell? ⟨w.heap.size, 0, none⟩ = some (.int .i64 n27) ∧ ∃ n28 : Int, w24.cell? ⟨w.heap.size, 0 + 1, none⟩ = some (.int .i64 n28) ∧ ∃ n31 : Int, 
    w24.cell? ⟨w.heap.size, 0, none⟩ = some (.int .i64 n31) ∧ ∃ n32 : Int, w24.cell? ⟨w.heap.size, 0 + 1, none⟩ = some (.int .i64 n32) ∧ ∃ No33 : Int, 
    w24.cell? ⟨w.heap.size, 0, none⟩ = some (.int .i64 No33) ∧ ∃ Place34 : Int, w24.cell? ⟨w.heap.size, 0 + 1, none⟩ = some (.int .i64 Place34) ∧ ∀ w35, 
    w35 = w24.alloc (.cells #[(.pointer d1), (.pointer s2), (.int .i64 era5), (.map (some w15.heap.size)), (.map (some w23.heap.size)), (.int .i64 n27), 
    (.int .i64 n28), (.int .i64 n31), (.int .i64 n32), (.int .i64 No33), (.int .i64 Place34)] 77) → 
    R (.returned (.tuple #[(.pointer (some ⟨w24.heap.size, 0, none⟩)), (.int .i64 (0 : Int))])) w35)))))))))
theorem E_log_Open (d1 : Option Addr) (s2 : Option Addr) (h3 : Int) (h4 : Int) (era5 : Int) (w : World) (R : Ending → World → Prop) : F_log_Open d1 s2 h3 h4 era5 w R = fnVC Try.prog Try.f16 A_log_Open [(.pointer d1), (.pointer s2), (.agg #[(.int .i64 h3), (.int .i64 h4)]), (.int .i64 era5)] w R := by kernel_rfl
theorem C_log_Open {d1 : Option Addr} {s2 : Option Addr} {h3 : Int} {h4 : Int} {era5 : Int} {w : World} {R : Ending → World → Prop} (h : F_log_Open d1 s2 h3 h4 era5 w R) : Calls Try.prog 16 #[(.pointer d1), (.pointer s2), (.agg #[(.int .i64 h3), (.int .i64 h4)]), (.int .i64 era5)] w R := fnVC_calls Try.func16 (Eq.mp (E_log_Open d1 s2 h3 h4 era5 w R) h)

/-! 17 (*pollard/log.Log).NewRead -/
def A_log_Log_NewRead : Ann := .keep [0, 1] (.keep [4] (.done))
def F_log_Log_NewRead (l1 : Option Addr) (place2 : Int) (w : World) (R : Ending → World → Prop) : Prop :=
    ∀ w3, w3 = w.alloc (.cells #[(.pointer l1), (.int .i64 place2), (.slice none 0 0), (.bool false), (.int .i64 (0 : Int)), (.int .i64 (0 : Int)), 
    (.slice none 0 0), (.int .i64 (1 : Int))] 100) → R (.returned (.pointer (some ⟨w.heap.size, 0, none⟩))) w3
theorem E_log_Log_NewRead (l1 : Option Addr) (place2 : Int) (w : World) (R : Ending → World → Prop) : F_log_Log_NewRead l1 place2 w R = fnVC Try.prog Try.f17 A_log_Log_NewRead [(.pointer l1), (.int .i64 place2)] w R := by kernel_rfl
theorem C_log_Log_NewRead {l1 : Option Addr} {place2 : Int} {w : World} {R : Ending → World → Prop} (h : F_log_Log_NewRead l1 place2 w R) : Calls Try.prog 17 #[(.pointer l1), (.int .i64 place2)] w R := fnVC_calls Try.func17 (Eq.mp (E_log_Log_NewRead l1 place2 w R) h)

/-! 18 pollard/pollardlaw08.runRead -/
def A_pollardlaw08_runRead : Ann := .keep [0, 2] (.loop [(2, (.int .i64))] [0] (.keep [0, 2, 5] (.split (.keep [0, 2] (.sh .bool (.keep [0, 2, 3] (.keep [0, 2, 
    10] (.split (.done) (.keep [0, 2] (.done))))))) (.done))))
def F_pollardlaw08_runRead (r1 : Option Addr) (w : World) (R : Ending → World → Prop) : Prop :=
    ∃ (I2 : Int → World → Prop) (mu3 : Int → World → Nat), I2 (0 : Int) w ∧ ∀ (i4 : Int) (w5 : World), I2 i4 w5 → ((decide (i4 < (100 : Int))) = true → 
    Calls Try.prog 22 #[(.pointer r1)] w5 (fun e6 w7 => ∃ r8 : Bool, e6 = .returned (.bool r8) ∧ (r8 = true → R (.returned (.tuple #[])) w7) ∧ 
    (r8 = false → ∀ n9 : Int, n9 = (IntKind.wrap .i64 (i4 + (1 : Int))) → I2 n9 w7 ∧ mu3 n9 w7 < mu3 i4 w5))) ∧ ((decide (i4 < (100 : Int))) = false → 
    R (.returned (.tuple #[])) w5)
theorem E_pollardlaw08_runRead (r1 : Option Addr) (w : World) (R : Ending → World → Prop) : F_pollardlaw08_runRead r1 w R = fnVC Try.prog Try.f18 A_pollardlaw08_runRead [(.pointer r1)] w R := by kernel_rfl
theorem C_pollardlaw08_runRead {r1 : Option Addr} {w : World} {R : Ending → World → Prop} (h : F_pollardlaw08_runRead r1 w R) : Calls Try.prog 18 #[(.pointer r1)] w R := fnVC_calls Try.func18 (Eq.mp (E_pollardlaw08_runRead r1 w R) h)

/-! 19 (*pollard/log.Read).Got -/
def A_log_Read_Got : Ann := .keep [0] (.q 0 (.q 1 (.q 2 (.q 3 (.sh (.int .i64) (.q 4 (.q 5 (.q 6 (.q 7 (.sh (.int .i64) (.q 8 (.q 9 (.q 10 (.q 11 (.sh .slc (.q 13 (.q 14 (.q 15 (.q 16 (.sh (.int .i64) (.alt 12 (.sh .slc (.q 17 (.q 18 (.q 19 (.q 20 (.fin (.keep [2, 
    3, 4, 5] (.done)))))))) .stop)))))))))))))))))))))
def F_log_Read_Got (r1 : Option Addr) (w : World) (R : Ending → World → Prop) : Prop :=
    ∃ b2 o3, r1 = some ⟨b2, o3, none⟩ ∧ ∃ no4 : Int, w.drew.cell? ⟨b2, o3 + 4, none⟩ = some (.int .i64 no4) ∧ ∃ b5 o6, r1 = some ⟨b5, o6, none⟩ ∧ 
    ∃ kind7 : Int, w.drew.cell? ⟨b5, o6 + 5, none⟩ = some (.int .i64 kind7) ∧ ∃ b8 o9, r1 = some ⟨b8, o9, none⟩ ∧ 
    ∃ (b10a : Option Addr) (b10l b10c : Nat), w.drew.cell? ⟨b8, o9 + 6, none⟩ = some (.slice b10a b10l b10c) ∧ ∃ b11 o12, r1 = some ⟨b11, o12, none⟩ ∧ 
    ∃ e13 : Int, w.drew.cell? ⟨b11, o12 + 7, none⟩ = some (.int .i64 e13) ∧ 
    Calls Try.prog 30 #[(.slice b10a b10l b10c)] w.drew (fun e14 w15 => ∃ (r16a : Option Addr) (r16l r16c : Nat), 
    e14 = .returned (.slice r16a r16l r16c) ∧ w15.cell? ⟨b11, o12 + 7, none⟩ = some (.int .i64 e13) ∧ w15.cell? ⟨b5, o6 + 5, 
    none⟩ = some (.int .i64 kind7) ∧ w15.cell? ⟨b2, o3 + 4, none⟩ = some (.int .i64 no4) ∧ R (.returned (.tuple #[(.int .i64 no4), (.int .i64 kind7), 
    (.slice r16a r16l r16c), (.int .i64 e13)])) w15)
theorem E_log_Read_Got (r1 : Option Addr) (w : World) (R : Ending → World → Prop) : F_log_Read_Got r1 w R = fnVC Try.prog Try.f19 A_log_Read_Got [(.pointer r1)] w R := by kernel_rfl
theorem C_log_Read_Got {r1 : Option Addr} {w : World} {R : Ending → World → Prop} (h : F_log_Read_Got r1 w R) : Calls Try.prog 19 #[(.pointer r1)] w R := fnVC_calls Try.func19 (Eq.mp (E_log_Read_Got r1 w R) h)

/-! 20 (*pollard/pollardlaw08.rig).flushed -/
def A_pollardlaw08_rig_flushed : Ann := .keep [0] (.sh .ptr (.sh .ptr (.keep [3] (.keep [3, 12] (.split (.keep [2] (.done)) (.keep [3] (.sh .nil (.keep [3] (.sh (.tup [(.int .i64), 
    (.int .i64)]) (.keep [5] (.keep [2] (.done))))))))))))
def F_pollardlaw08_rig_flushed (x1 : Option Addr) (w : World) (R : Ending → World → Prop) : Prop :=
    ∃ b2 o3, x1 = some ⟨b2, o3, none⟩ ∧ ∃ L4 : Option Addr, w.cell? ⟨b2, o3 + 2, none⟩ = some (.pointer L4) ∧ 
    Calls Try.prog 9 #[(.pointer L4)] w (fun e5 w6 => ∃ r7 : Option Addr, e5 = .returned (.pointer r7) ∧ ((Option.isNone r7) = true → 
    R (.returned (.bool false)) w6) ∧ ((Option.isNone r7) = false → Calls Try.prog 10 #[(.pointer r7)] w6 (fun e8 w9 => e8 = .returned (.tuple #[]) ∧ 
    Calls Try.prog 11 #[(.pointer r7)] w9 (fun e10 w11 => ∃ r12 : Int, ∃ r13 : Int, e10 = .returned (.tuple #[(.int .i64 r12), (.int .i64 r13)]) ∧ 
    R (.returned (.bool (r13 == (0 : Int)))) w11))))
theorem E_pollardlaw08_rig_flushed (x1 : Option Addr) (w : World) (R : Ending → World → Prop) : F_pollardlaw08_rig_flushed x1 w R = fnVC Try.prog Try.f20 A_pollardlaw08_rig_flushed [(.pointer x1)] w R := by kernel_rfl
theorem C_pollardlaw08_rig_flushed {x1 : Option Addr} {w : World} {R : Ending → World → Prop} (h : F_pollardlaw08_rig_flushed x1 w R) : Calls Try.prog 20 #[(.pointer x1)] w R := fnVC_calls Try.func20 (Eq.mp (E_pollardlaw08_rig_flushed x1 w R) h)

/-! 21 (*pollard/log.Log).Advance -/
def A_log_Log_Advance : Ann := .sh (.int .i64) (.keep [0, 1] (.sh (.int .i64) (.keep [0, 1, 18] (.split (.done) (.keep [0, 
    1] (.q 0 (.q 1 (.q 2 (.q 3 (.q 4 (.sh (.int .i64) (.q 5 (.q 6 (.q 7 (.q 8 (.sh (.int .i64) (.q 9 (.q 10 (.q 11 (.fin (.keep [0, 1, 
    4] (.sh .map (.sh .ptr (.sh (.agg [(.int .i64), (.int .i64)]) (.keep [0, 4] (.sh .nil (.done)))))))))))))))))))))))))))
def F_log_Log_Advance (l1 : Option Addr) (to2 : Int) (w : World) (R : Ending → World → Prop) : Prop :=
    ∃ b3 o4, l1 = some ⟨b3, o4, none⟩ ∧ ∃ No5 : Int, w.cell? ⟨b3, o4 + 5, none⟩ = some (.int .i64 No5) ∧ ∃ b6 o7, l1 = some ⟨b6, o7, none⟩ ∧ ∃ No8 : Int, 
    w.cell? ⟨b6, o7 + 7, none⟩ = some (.int .i64 No8) ∧ ((decide ((if No5 < to2 then No5 else to2) ≤ No8)) = true → R (.returned (.tuple #[])) w) ∧ 
    ((decide ((if No5 < to2 then No5 else to2) ≤ No8)) = false → ∃ b9 o10, l1 = some ⟨b9, o10, none⟩ ∧ ∃ No11 : Int, w.drew.cell? ⟨b9, o10 + 7, 
    none⟩ = some (.int .i64 No11) ∧ ∃ b12 o13, l1 = some ⟨b12, o13, none⟩ ∧ ∃ written14 : Int, w.drew.cell? ⟨b12, o13 + 9, 
    none⟩ = some (.int .i64 written14) ∧ ∀ n15 : Int, n15 = (IntKind.wrap .i64 ((if written14 < No11 then written14 else No11) + (1 : Int))) → ∃ b16 o17, 
    l1 = some ⟨b16, o17, none⟩ ∧ ∃ vin18 : Option Nat, w.drew.cell? ⟨b16, o17 + 3, none⟩ = some (.map vin18) ∧ ∃ p19 : Option Addr, 
    Sem.run Try.prog (Instr.lookup 75 (.map vin18) (.int .i64 (if No5 < to2 then No5 else to2)) false) w.drew = .ok (.pointer p19) w.drew ∧ 
    Calls Try.prog 32 #[(.pointer p19)] w.drew (fun e20 w21 => ∃ r22 : Int, ∃ r23 : Int, e20 = .returned (.agg #[(.int .i64 r22), (.int .i64 r23)]) ∧ 
    ∃ b24 o25, l1 = some ⟨b24, o25, none⟩ ∧ Wr w21 ⟨b24, o25 + 7, none⟩ ∧ ∀ w26, w26 = w21.setCell ⟨b24, o25 + 7, none⟩ (.int .i64 r22) → Wr w26 ⟨b24, 
    o25 + 7 + 1, none⟩ ∧ ∀ w27, w27 = w26.setCell ⟨b24, o25 + 7 + 1, none⟩ (.int .i64 r23) → Calls Try.prog 38 #[(.pointer l1), 
    (.int .i64 n15)] w27 (fun e28 w29 => e28 = .returned (.tuple #[]) ∧ R (.returned (.tuple #[])) w29)))
theorem E_log_Log_Advance (l1 : Option Addr) (to2 : Int) (w : World) (R : Ending → World → Prop) : F_log_Log_Advance l1 to2 w R = fnVC Try.prog Try.f21 A_log_Log_Advance [(.pointer l1), (.int .i64 to2)] w R := by kernel_rfl
theorem C_log_Log_Advance {l1 : Option Addr} {to2 : Int} {w : World} {R : Ending → World → Prop} (h : F_log_Log_Advance l1 to2 w R) : Calls Try.prog 21 #[(.pointer l1), (.int .i64 to2)] w R := fnVC_calls Try.func21 (Eq.mp (E_log_Log_Advance l1 to2 w R) h)

/-! 22 (*pollard/log.Read).Step -/
def A_log_Read_Step : Ann := .keep [0] (.sh .bool (.keep [0, 
    11] (.split (.keep [2] (.done)) (.keep [0] (.q 0 (.q 1 (.q 2 (.q 3 (.sh .ptr (.q 4 (.q 5 (.q 6 (.sh .map (.q 7 (.q 8 (.q 9 (.q 10 (.sh (.int .i64) (.q 11 (.sh (.tup [.ptr, 
    .bool]) (.q 12 (.q 13 (.q 14 (.q 15 (.q 16 (.fin (.keep [0, 3, 4] (.cut [(46, .bool)] [0, 
    3] (.q 0 (.q 1 (.gsplit (.q 2 (.q 3 (.q 4 (.q 5 (.sh .slc (.q 6 (.q 7 (.q 8 (.q 9 (.gsplit (.q 10 (.q 11 (.q 12 (.q 13 (.sh (.int .i64) (.q 14 (.q 15 (.q 16 (.q 17 (.sh (.int .i64) (.q 18 (.q 19 (.fin (.done)))))))))))))) (.q 10 (.q 11 (.q 12 (.q 13 (.q 14 (.q 15 (.q 16 (.q 17 (.q 18 (.q 19 (.fin (.done)))))))))))))))))))))) (.q 2 (.q 3 (.q 4 (.q 5 (.q 6 (.q 7 (.q 8 (.q 9 (.known true (.q 10 (.q 11 (.q 12 (.q 13 (.q 14 (.q 15 (.q 16 (.q 17 (.q 18 (.q 19 (.fin (.done)))))))))))))))))))))))) (.split (.q 0 (.q 1 (.q 2 (.q 3 (.q 4 (.sh (.int .i64) (.q 5 (.q 6 (.q 7 (.q 8 (.sh (.int .i64) (.q 9 (.q 10 (.q 11 (.q 12 (.sh .slc (.alt 13 (.sh .slc (.alt 14 (.sh .bool (.q 15 (.fin (.keep [2] (.done))))) .stop)) .stop))))))))))))))))) (.keep [0] (.cut [(5, 
    .adr), (6, 
    (.int .i64))] [0] (.q 0 (.q 1 (.q 2 (.q 3 (.sh .ptr (.q 4 (.q 5 (.q 6 (.sh .ptr (.q 7 (.q 8 (.q 9 (.q 10 (.sh (.int .i64) (.q 11 (.q 12 (.q 13 (.q 14 (.sh .slc (.q 15 (.q 16 (.alt 17 (.sh (.tup [(.agg [(.int .i64), 
    (.int .i64), (.int .i64), (.int .i64), (.int .i64), .slc]), 
    (.int .i64)]) (.q 18 (.q 19 (.q 20 (.alt 21 (.alt 22 (.q 23 (.fin (.done))) .stop) .stop))))) (.alt 21 (.alt 17 (.sh (.tup [(.agg [(.int .i64), 
    (.int .i64), (.int .i64), (.int .i64), (.int .i64), .slc]), 
    (.int .i64)]) (.q 18 (.q 19 (.q 20 (.alt 22 (.q 23 (.fin (.done))) .stop))))) .stop) .stop))))))))))))))))))))))) (.keep [0, 5, 6, 
    83] (.split (.sh .bool (.keep [2] (.done))) (.cut [(89, .bool)] [0, 
    5] (.gsplit (.done) (.sh .slc (.gsplit (.sh (.int .i64) (.done)) (.done)))) (.split (.sh .bool (.keep [2] (.done))) (.keep [0, 
    5] (.q 0 (.q 1 (.q 2 (.q 3 (.q 4 (.sh .slc (.q 5 (.sh (.agg [(.int .i64), (.int .i64), (.int .i64), (.int .i64), (.int .i64), 
    .slc]) (.alt 6 (.alt 7 (.sh .slc (.q 8 (.q 9 (.alt 10 (.fin (.keep [0, 
    5] (.q 0 (.q 1 (.q 2 (.q 3 (.sh .slc (.q 4 (.q 5 (.q 6 (.q 7 (.q 8 (.sh .slc (.q 9 (.q 10 (.q 11 (.sh (.int .i64) (.q 12 (.fin (.keep [0, 5, 
    129] (.split (.keep [2] (.done)) (.keep [0, 5] (.sh .slc (.sh (.tup [.slc, (.int .i64)]) (.keep [0, 5, 6, 7] (.inl (.cut [(151, .bool)] [0, 5, 
    7] (.gsplit (.known true (.done)) (.sh (.int .u8) (.gsplit (.done) (.sh (.int .u8) (.done))))) (.split (.sh .bool (.keep [2] (.done))) (.keep [0, 5, 
    7] (.q 0 (.q 1 (.q 2 (.sh (.int .i64) (.q 3 (.q 4 (.q 5 (.sh (.int .u8) (.q 6 (.q 7 (.q 8 (.alt 9 (.sh .bool (.q 10 (.fin (.keep [2] (.done))))) .stop))))))))))))))))))))))))))))))))))))))))) .stop)))) .stop) .stop)))))))))))))))))))))))))))))))))))))))))))))
def F_log_Read_Step (a1 : Option Addr) (w : World) (R : Ending → World → Prop) : Prop :=
    ∃ b2 o3, a1 = some ⟨b2, o3, none⟩ ∧ ∃ done4 : Bool, w.cell? ⟨b2, o3 + 3, none⟩ = some (.bool done4) ∧ (done4 = true → R (.returned (.bool true)) w) ∧ 
    (done4 = false → ∃ b5 o6, a1 = some ⟨b5, o6, none⟩ ∧ ∃ l7 : Option Addr, w.drew.cell? ⟨b5, o6, none⟩ = some (.pointer l7) ∧ ∃ b8 o9, l7 = some ⟨b8, 
    o9, none⟩ ∧ ∃ vat10 : Option Nat, w.drew.cell? ⟨b8, o9 + 4, none⟩ = some (.map vat10) ∧ ∃ b11 o12, a1 = some ⟨b11, o12, none⟩ ∧ ∃ place13 : Int, 
    w.drew.cell? ⟨b11, o12 + 1, none⟩ = some (.int .i64 place13) ∧ ∃ p14 : Option Addr, ∃ b15 : Bool, 
    Sem.run Try.prog (Instr.lookup 75 (.map vat10) (.int .i64 place13) true) w.drew = .ok (.tuple #[(.pointer p14), (.bool b15)]) w.drew ∧ ∀ J16 : Bool → 
    World → Prop, (∀ (x17 : Bool) (w18 : World), ((x17 = true → ∃ b19 o20, p14 = some ⟨b19, o20, none⟩ ∧ ∃ no21 : Int, w18.drew.cell? ⟨b19, o20, 
    none⟩ = some (.int .i64 no21) ∧ ∃ b22 o23, p14 = some ⟨b22, o23, none⟩ ∧ ∃ kind24 : Int, w18.drew.cell? ⟨b22, o23 + 1, 
    none⟩ = some (.int .i64 kind24) ∧ ∃ b25 o26, p14 = some ⟨b25, o26, none⟩ ∧ ∃ (b27a : Option Addr) (b27l b27c : Nat), w18.drew.cell? ⟨b25, o26 + 3, 
    none⟩ = some (.slice b27a b27l b27c) ∧ 
    Calls Try.prog 30 #[(.slice b27a b27l b27c)] w18.drew (fun e28 w29 => ∃ (r30a : Option Addr) (r30l r30c : Nat), 
    e28 = .returned (.slice r30a r30l r30c) ∧ w29.cell? ⟨b22, o23 + 1, none⟩ = some (.int .i64 kind24) ∧ w29.cell? ⟨b19, o20, 
    none⟩ = some (.int .i64 no21) ∧ Calls Try.prog 39 #[(.pointer a1), (.int .i64 no21), (.int .i64 kind24), (.slice r30a r30l r30c), 
    (.int .i64 (0 : Int))] w29 (fun e31 w32 => ∃ r33 : Bool, e31 = .returned (.bool r33) ∧ R (.returned (.bool r33)) w32))) ∧ (x17 = false → 
    ∀ J34 : Nat → Int → World → Prop, (∀ (x35 : Nat) (x36 : Int) (w37 : World), (((x36 == (4 : Int)) = true → Calls Try.prog 39 #[(.pointer a1), 
    (.int .i64 (0 : Int)), (.int .i64 (0 : Int)), (.slice none 0 0), (.int .i64 x36)] w37 (fun e38 w39 => ∃ r40 : Bool, e38 = .returned (.bool r40) ∧ 
    R (.returned (.bool r40)) w39)) ∧ ((x36 == (4 : Int)) = false → ∀ J41 : Bool → World → Prop, (∀ (x42 : Bool) (w43 : World), ((x42 = true → 
    Calls Try.prog 39 #[(.pointer a1), (.int .i64 (0 : Int)), (.int .i64 (0 : Int)), (.slice none 0 0), 
    (.int .i64 (81 : Int))] w43 (fun e44 w45 => ∃ r46 : Bool, e44 = .returned (.bool r46) ∧ R (.returned (.bool r46)) w45)) ∧ (x42 = false → ∃ b47 o48, 
    a1 = some ⟨b47, o48, none⟩ ∧ ∃ (parts49a : Option Addr) (parts49l parts49c : Nat), w43.drew.cell? ⟨b47, o48 + 2, 
    none⟩ = some (.slice parts49a parts49l parts49c) ∧ ∃ n56 : Int, w43.drew.cell? ⟨x35, 0, none⟩ = some (.int .i64 n56) ∧ ∃ n57 : Int, 
    w43.drew.cell? ⟨x35, 0 + 1, none⟩ = some (.int .i64 n57) ∧ ∃ n58 : Int, w43.drew.cell? ⟨x35, 0 + 2, none⟩ = some (.int .i64 n58) ∧ ∃ n59 : Int, 
    w43.drew.cell? ⟨x35, 0 + 3, none⟩ = some (.int .i64 n59) ∧ ∃ n60 : Int, w43.drew.cell? ⟨x35, 0 + 4, none⟩ = some (.int .i64 n60) ∧ 
    ∃ (s61a : Option Addr) (s61l s61c : Nat), w43.drew.cell? ⟨x35, 0 + 5, none⟩ = some (.slice s61a s61l s61c) ∧ ∀ w62, 
    w62 = w43.drew.alloc (.cells #[(.int .i64 n56), (.int .i64 n57), (.int .i64 n58), (.int .i64 n59), (.int .i64 n60), (.slice s61a s61l s61c)] 87) → 
    w62.cell? ⟨b47, o48 + 2, none⟩ = some (.slice parts49a parts49l parts49c) ∧ ∃ (s63a : Option Addr) (s63l s63c : Nat), ∃ w64, 
    Sem.run Try.prog (Builtin.append_ #[80, 80] 80 #[(.slice parts49a parts49l parts49c), (.slice (some ⟨w43.drew.heap.size, 0, 
    none⟩) 1 1)]) w62 = .ok (.slice s63a s63l s63c) w64 ∧ ∃ b65 o66, a1 = some ⟨b65, o66, none⟩ ∧ Wr w64 ⟨b65, o66 + 2, none⟩ ∧ ∀ w67, 
    w67 = w64.setCell ⟨b65, o66 + 2, none⟩ (.slice s63a s63l s63c) → ∃ b68 o69, a1 = some ⟨b68, o69, none⟩ ∧ 
    ∃ (parts70a : Option Addr) (parts70l parts70c : Nat), w67.drew.cell? ⟨b68, o69 + 2, none⟩ = some (.slice parts70a parts70l parts70c) ∧ ∃ b71 o72, 
    a1 = some ⟨b71, o72, none⟩ ∧ ∃ (parts73a : Option Addr) (parts73l parts73c : Nat), w67.drew.cell? ⟨b71, o72 + 2, 
    none⟩ = some (.slice parts73a parts73l parts73c) ∧ ∃ b74 o75, parts73a = some ⟨b74, o75, none⟩ ∧ 0 ≤ (0 : Int) ∧ 
    (0 : Int) < ((parts73l : Nat) : Int) ∧ ∃ Parts76 : Int, w67.drew.cell? ⟨b74, o75 + Int.toNat (0 : Int) * 6 + 4, none⟩ = some (.int .i64 Parts76) ∧ 
    ((decide (((parts70l : Nat) : Int) < Parts76)) = true → R (.returned (.bool false)) w67.drew) ∧ 
    ((decide (((parts70l : Nat) : Int) < Parts76)) = false → ∃ b77 o78, a1 = some ⟨b77, o78, none⟩ ∧ 
    ∃ (parts79a : Option Addr) (parts79l parts79c : Nat), w67.drew.cell? ⟨b77, o78 + 2, none⟩ = some (.slice parts79a parts79l parts79c) ∧ 
    Calls Try.prog 41 #[(.slice parts79a parts79l parts79c)] w67.drew (fun e80 w81 => ∃ (r82a : Option Addr) (r82l r82c : Nat), ∃ r83 : Int, 
    e80 = .returned (.tuple #[(.slice r82a r82l r82c), (.int .i64 r83)]) ∧ ∀ J84 : Bool → World → Prop, (∀ (x85 : Bool) (w86 : World), ((x85 = true → 
    Calls Try.prog 39 #[(.pointer a1), (.int .i64 (0 : Int)), (.int .i64 (0 : Int)), (.slice none 0 0), 
    (.int .i64 (81 : Int))] w86 (fun e87 w88 => ∃ r89 : Bool, e87 = .returned (.bool r89) ∧ R (.returned (.bool r89)) w88)) ∧ (x85 = false → 
    ∃ No90 : Int, w86.drew.cell? ⟨x35, 0 + 1, none⟩ = some (.int .i64 No90) ∧ ∃ b91 o92, r82a = some ⟨b91, o92, none⟩ ∧ 0 ≤ (0 : Int) ∧ 
    (0 : Int) < ((r82l : Nat) : Int) ∧ ∃ n93 : Int, w86.drew.cell? ⟨b91, o92 + Int.toNat (0 : Int) * 1, none⟩ = some (.int .u8 n93) ∧ ∀ n94 : Int, 
    n94 = (IntKind.wrap .i64 n93) → 0 ≤ (1 : Int) ∧ (1 : Int) ≤ ((r82l : Nat) : Int) ∧ Calls Try.prog 39 #[(.pointer a1), (.int .i64 No90), 
    (.int .i64 n94), (.slice (cutBase r82a (Int.toNat (1 : Int)) r82c 1) (r82l - (Int.toNat (1 : Int))) (r82c - (Int.toNat (1 : Int)))), 
    (.int .i64 (0 : Int))] w86.drew (fun e95 w96 => ∃ r97 : Bool, e95 = .returned (.bool r97) ∧ R (.returned (.bool r97)) w96))) → J84 x85 w86) → 
    ((r83 != (0 : Int)) = true → J84 true w81) ∧ ((r83 != (0 : Int)) = false → ∃ b98 o99, r82a = some ⟨b98, o99, none⟩ ∧ 0 ≤ (0 : Int) ∧ 
    (0 : Int) < ((r82l : Nat) : Int) ∧ ∃ n100 : Int, w81.cell? ⟨b98, o99 + Int.toNat (0 : Int) * 1, none⟩ = some (.int .u8 n100) ∧ 
    ((decide (n100 < (1 : Int))) = true → J84 true w81) ∧ ((decide (n100 < (1 : Int))) = false → ∃ b101 o102, r82a = some ⟨b101, o102, none⟩ ∧ 
    0 ≤ (0 : Int) ∧ (0 : Int) < ((r82l : Nat) : Int) ∧ ∃ n103 : Int, w81.cell? ⟨b101, o102 + Int.toNat (0 : Int) * 1, none⟩ = some (.int .u8 n103) ∧ 
    J84 (decide (n103 > (5 : Int))) w81)))))) → J41 x42 w43) → ((x36 != (0 : Int)) = true → J41 true w37) ∧ ((x36 != (0 : Int)) = false → ∃ b104 o105, 
    a1 = some ⟨b104, o105, none⟩ ∧ ∃ (parts106a : Option Addr) (parts106l parts106c : Nat), w37.cell? ⟨b104, o105 + 2, 
    none⟩ = some (.slice parts106a parts106l parts106c) ∧ ((((parts106l : Nat) : Int) == (0 : Int)) = true → ∃ Index107 : Int, w37.cell? ⟨x35, 0 + 2, 
    none⟩ = some (.int .i64 Index107) ∧ J41 (Index107 != (0 : Int)) w37) ∧ ((((parts106l : Nat) : Int) == (0 : Int)) = false → J41 false w37)))) → 
    J34 x35 x36 w37) → ∃ b108 o109, a1 = some ⟨b108, o109, none⟩ ∧ ∃ l110 : Option Addr, w18.drew.cell? ⟨b108, o109, none⟩ = some (.pointer l110) ∧ 
    ∃ b111 o112, l110 = some ⟨b111, o112, none⟩ ∧ ∃ s113 : Option Addr, w18.drew.cell? ⟨b111, o112 + 1, none⟩ = some (.pointer s113) ∧ ∃ b114 o115, 
    a1 = some ⟨b114, o115, none⟩ ∧ ∃ place116 : Int, w18.drew.cell? ⟨b114, o115 + 1, none⟩ = some (.int .i64 place116) ∧ ∃ b117 o118, a1 = some ⟨b117, 
    o118, none⟩ ∧ ∃ (parts119a : Option Addr) (parts119l parts119c : Nat), w18.drew.cell? ⟨b117, o118 + 2, 
    none⟩ = some (.slice parts119a parts119l parts119c) ∧ ∀ n120 : Int, n120 = (IntKind.wrap .i64 (place116 + ((parts119l : Nat) : Int))) → 
    (Calls Try.prog 40 #[(.pointer s113), (.int .i64 n120)] w18.drew (fun e121 w122 => ∃ r123 : Int, ∃ r124 : Int, ∃ r125 : Int, ∃ r126 : Int, 
    ∃ r127 : Int, ∃ (r128a : Option Addr) (r128l r128c : Nat), ∃ r129 : Int, e121 = .returned (.tuple #[(.agg #[(.int .i64 r123), (.int .i64 r124), 
    (.int .i64 r125), (.int .i64 r126), (.int .i64 r127), (.slice r128a r128l r128c)]), (.int .i64 r129)]) ∧ ∀ w130, 
    w130 = w122.alloc (.cells #[(.int .i64 (0 : Int)), (.int .i64 (0 : Int)), (.int .i64 (0 : Int)), (.int .i64 (0 : Int)), (.int .i64 (0 : Int)), 
    (.slice none 0 0)] 87) → w130.cell? ⟨b117, o118 + 2, none⟩ = some (.slice parts119a parts119l parts119c) ∧ w130.cell? ⟨b114, o115 + 1, 
    none⟩ = some (.int .i64 place116) ∧ w130.cell? ⟨b111, o112 + 1, none⟩ = some (.pointer s113) ∧ w130.cell? ⟨b108, o109, none⟩ = some (.pointer l110) ∧ 
    Wr w130 ⟨w122.heap.size, 0, none⟩ ∧ ∀ w131, w131 = w130.setCell ⟨w122.heap.size, 0, none⟩ (.int .i64 r123) → Wr w131 ⟨w122.heap.size, 0 + 1, none⟩ ∧ 
    ∀ w132, w132 = w131.setCell ⟨w122.heap.size, 0 + 1, none⟩ (.int .i64 r124) → Wr w132 ⟨w122.heap.size, 0 + 2, none⟩ ∧ ∀ w133, 
    w133 = w132.setCell ⟨w122.heap.size, 0 + 2, none⟩ (.int .i64 r125) → Wr w133 ⟨w122.heap.size, 0 + 3, none⟩ ∧ ∀ w134, 
    w134 = w133.setCell ⟨w122.heap.size, 0 + 3, none⟩ (.int .i64 r126) → Wr w134 ⟨w122.heap.size, 0 + 4, none⟩ ∧ ∀ w135, 
    w135 = w134.setCell ⟨w122.heap.size, 0 + 4, none⟩ (.int .i64 r127) → Wr w135 ⟨w122.heap.size, 0 + 5, none⟩ ∧ ∀ w136, 
    w136 = w135.setCell ⟨w122.heap.size, 0 + 5, none⟩ (.slice r128a r128l r128c) → J34 w122.heap.size r129 w136)) ∧ (∀ w137, 
    w137 = w18.drew.alloc (.cells #[(.int .i64 (0 : Int)), (.int .i64 (0 : Int)), (.int .i64 (0 : Int)), (.int .i64 (0 : Int)), (.int .i64 (0 : Int)), 
    (.slice none 0 0)] 87) → w137.cell? ⟨b117, o118 + 2, none⟩ = some (.slice parts119a parts119l parts119c) ∧ w137.cell? ⟨b114, o115 + 1, 
    none⟩ = some (.int .i64 place116) ∧ w137.cell? ⟨b111, o112 + 1, none⟩ = some (.pointer s113) ∧ w137.cell? ⟨b108, o109, none⟩ = some (.pointer l110) ∧ 
    Calls Try.prog 40 #[(.pointer s113), (.int .i64 n120)] w137 (fun e138 w139 => ∃ r140 : Int, ∃ r141 : Int, ∃ r142 : Int, ∃ r143 : Int, ∃ r144 : Int, 
    ∃ (r145a : Option Addr) (r145l r145c : Nat), ∃ r146 : Int, e138 = .returned (.tuple #[(.agg #[(.int .i64 r140), (.int .i64 r141), (.int .i64 r142), 
    (.int .i64 r143), (.int .i64 r144), (.slice r145a r145l r145c)]), (.int .i64 r146)]) ∧ Wr w139 ⟨w18.drew.heap.size, 0, none⟩ ∧ ∀ w147, 
    w147 = w139.setCell ⟨w18.drew.heap.size, 0, none⟩ (.int .i64 r140) → Wr w147 ⟨w18.drew.heap.size, 0 + 1, none⟩ ∧ ∀ w148, 
    w148 = w147.setCell ⟨w18.drew.heap.size, 0 + 1, none⟩ (.int .i64 r141) → Wr w148 ⟨w18.drew.heap.size, 0 + 2, none⟩ ∧ ∀ w149, 
    w149 = w148.setCell ⟨w18.drew.heap.size, 0 + 2, none⟩ (.int .i64 r142) → Wr w149 ⟨w18.drew.heap.size, 0 + 3, none⟩ ∧ ∀ w150, 
    w150 = w149.setCell ⟨w18.drew.heap.size, 0 + 3, none⟩ (.int .i64 r143) → Wr w150 ⟨w18.drew.heap.size, 0 + 4, none⟩ ∧ ∀ w151, 
    w151 = w150.setCell ⟨w18.drew.heap.size, 0 + 4, none⟩ (.int .i64 r144) → Wr w151 ⟨w18.drew.heap.size, 0 + 5, none⟩ ∧ ∀ w152, 
    w152 = w151.setCell ⟨w18.drew.heap.size, 0 + 5, none⟩ (.slice r145a r145l r145c) → J34 w18.drew.heap.size r146 w152)))) → J16 x17 w18) → 
    (b15 = true → ∃ b153 o154, a1 = some ⟨b153, o154, none⟩ ∧ ∃ (parts155a : Option Addr) (parts155l parts155c : Nat), w.drew.drew.cell? ⟨b153, o154 + 2, 
    none⟩ = some (.slice parts155a parts155l parts155c) ∧ ((((parts155l : Nat) : Int) == (0 : Int)) = true → ∃ b156 o157, p14 = some ⟨b156, o157, none⟩ ∧ 
    ∃ place158 : Int, w.drew.drew.cell? ⟨b156, o157 + 2, none⟩ = some (.int .i64 place158) ∧ ∃ b159 o160, a1 = some ⟨b159, o160, none⟩ ∧ 
    ∃ place161 : Int, w.drew.drew.cell? ⟨b159, o160 + 1, none⟩ = some (.int .i64 place161) ∧ J16 (place158 == place161) w.drew.drew) ∧ 
    ((((parts155l : Nat) : Int) == (0 : Int)) = false → J16 false w.drew.drew)) ∧ (b15 = false → J16 false w.drew.drew))
theorem E_log_Read_Step (a1 : Option Addr) (w : World) (R : Ending → World → Prop) : F_log_Read_Step a1 w R = fnVC Try.prog Try.f22 A_log_Read_Step [(.pointer a1)] w R := by kernel_rfl
theorem C_log_Read_Step {a1 : Option Addr} {w : World} {R : Ending → World → Prop} (h : F_log_Read_Step a1 w R) : Calls Try.prog 22 #[(.pointer a1)] w R := fnVC_calls Try.func22 (Eq.mp (E_log_Read_Step a1 w R) h)

/-! 23 (*pollard/log.Log).Held -/
def A_log_Log_Held : Ann := .keep [0] (.sh .map (.fb 7 false (.int .i64) (.keep [2] (.done))))
def F_log_Log_Held (l1 : Option Addr) (w : World) (R : Ending → World → Prop) : Prop :=
    ∃ b2 o3, l1 = some ⟨b2, o3, none⟩ ∧ ∃ vin4 : Option Nat, w.cell? ⟨b2, o3 + 3, none⟩ = some (.map vin4) ∧ ∃ n5 : Int, 
    Sem.run Try.prog (Builtin.len_ #[75] 3 #[(.map vin4)]) w = .ok (.int .i64 n5) w ∧ R (.returned (.int .i64 n5)) w
theorem E_log_Log_Held (l1 : Option Addr) (w : World) (R : Ending → World → Prop) : F_log_Log_Held l1 w R = fnVC Try.prog Try.f23 A_log_Log_Held [(.pointer l1)] w R := by kernel_rfl
theorem C_log_Log_Held {l1 : Option Addr} {w : World} {R : Ending → World → Prop} (h : F_log_Log_Held l1 w R) : Calls Try.prog 23 #[(.pointer l1)] w R := fnVC_calls Try.func23 (Eq.mp (E_log_Log_Held l1 w R) h)

/-! 24 (*pollard/log.Log).Written -/
def A_log_Log_Written : Ann := .keep [0] (.sh (.int .i64) (.keep [2] (.done)))
def F_log_Log_Written (l1 : Option Addr) (w : World) (R : Ending → World → Prop) : Prop :=
    ∃ b2 o3, l1 = some ⟨b2, o3, none⟩ ∧ ∃ written4 : Int, w.cell? ⟨b2, o3 + 9, none⟩ = some (.int .i64 written4) ∧ R (.returned (.int .i64 written4)) w
theorem E_log_Log_Written (l1 : Option Addr) (w : World) (R : Ending → World → Prop) : F_log_Log_Written l1 w R = fnVC Try.prog Try.f24 A_log_Log_Written [(.pointer l1)] w R := by kernel_rfl
theorem C_log_Log_Written {l1 : Option Addr} {w : World} {R : Ending → World → Prop} (h : F_log_Log_Written l1 w R) : Calls Try.prog 24 #[(.pointer l1)] w R := fnVC_calls Try.func24 (Eq.mp (E_log_Log_Written l1 w R) h)

/-! 25 (*pollard/log.Log).Mark -/
def A_log_Log_Mark : Ann := .keep [0, 2] (.sh (.agg [(.int .i64), (.int .i64)]) (.keep [2] (.sh (.agg [(.int .i64), (.int .i64)]) (.done))))
def F_log_Log_Mark (l1 : Option Addr) (w : World) (R : Ending → World → Prop) : Prop :=
    ∀ w2, w2 = w.alloc (.cells #[(.int .i64 (0 : Int)), (.int .i64 (0 : Int))] 29) → ∃ b3 o4, l1 = some ⟨b3, o4, none⟩ ∧ ∃ mark7 : Int, w2.cell? ⟨b3, 
    o4 + 7, none⟩ = some (.int .i64 mark7) ∧ ∃ mark8 : Int, w2.cell? ⟨b3, o4 + 7 + 1, none⟩ = some (.int .i64 mark8) ∧ Wr w2 ⟨w.heap.size, 0, none⟩ ∧ 
    ∀ w9, w9 = w2.setCell ⟨w.heap.size, 0, none⟩ (.int .i64 mark7) → Wr w9 ⟨w.heap.size, 0 + 1, none⟩ ∧ ∀ w10, w10 = w9.setCell ⟨w.heap.size, 0 + 1, 
    none⟩ (.int .i64 mark8) → ∃ r11 : Int, w10.cell? ⟨w.heap.size, 0, none⟩ = some (.int .i64 r11) ∧ ∃ r12 : Int, w10.cell? ⟨w.heap.size, 0 + 1, 
    none⟩ = some (.int .i64 r12) ∧ R (.returned (.agg #[(.int .i64 r11), (.int .i64 r12)])) w10
theorem E_log_Log_Mark (l1 : Option Addr) (w : World) (R : Ending → World → Prop) : F_log_Log_Mark l1 w R = fnVC Try.prog Try.f25 A_log_Log_Mark [(.pointer l1)] w R := by kernel_rfl
theorem C_log_Log_Mark {l1 : Option Addr} {w : World} {R : Ending → World → Prop} (h : F_log_Log_Mark l1 w R) : Calls Try.prog 25 #[(.pointer l1)] w R := fnVC_calls Try.func25 (Eq.mp (E_log_Log_Mark l1 w R) h)

/-! 26 pollard/disk.New -/
def A_disk_New : Ann := .keep [0] (.gsplit (.keep [0, 10] (.known true (.keep [2, 3] (.done)))) (.keep [0, 10] (.split (.keep [2, 
    3] (.done)) (.keep [0] (.keep [4] (.q 0 (.q 2 (.alt 1 (.sh .slc (.alt 3 (.sh .slc (.q 4 (.alt 5 (.q 6 (.q 7 (.fin (.keep [2, 
    3] (.done))))) .stop))) .stop)) (.alt 3 (.sh .slc (.alt 1 (.sh .slc (.q 4 (.alt 5 (.q 6 (.q 7 (.fin (.keep [2, 
    3] (.done))))) .stop))) .stop)) .stop)))))))))
def F_disk_New (sectors1 : Int) (w : World) (R : Ending → World → Prop) : Prop :=
    ((decide (sectors1 < (1 : Int))) = true → R (.returned (.tuple #[(.pointer none), (.int .i64 (1 : Int))])) w) ∧ 
    ((decide (sectors1 < (1 : Int))) = false → ((decide (sectors1 > (8192 : Int))) = true → R (.returned (.tuple #[(.pointer none), 
    (.int .i64 (1 : Int))])) w) ∧ ((decide (sectors1 > (8192 : Int))) = false → ∀ n2 : Int, n2 = (IntKind.wrap .i64 (sectors1 * (64 : Int))) → 
    (∃ (s3a : Option Addr) (s3l s3c : Nat), ∃ w4, 
    Sem.run Try.prog (Instr.makeSlice 47 (.int .i64 n2) (.int .i64 n2)) w.drew = .ok (.slice s3a s3l s3c) w4 ∧ ∃ (s5a : Option Addr) (s5l s5c : Nat), 
    ∃ w6, Sem.run Try.prog (Instr.makeSlice 47 (.int .i64 n2) (.int .i64 n2)) w4 = .ok (.slice s5a s5l s5c) w6 ∧ ∀ w7, 
    w7 = w6.alloc (.cells #[(.slice s3a s3l s3c), (.slice s5a s5l s5c), (.slice none 0 0), (.int .i64 (-1 : Int)), (.bool false), (.int .i64 (0 : Int)), 
    (.int .i64 (0 : Int))] 92) → R (.returned (.tuple #[(.pointer (some ⟨w6.heap.size, 0, none⟩)), (.int .i64 (0 : Int))])) w7) ∧ 
    (∃ (s8a : Option Addr) (s8l s8c : Nat), ∃ w9, 
    Sem.run Try.prog (Instr.makeSlice 47 (.int .i64 n2) (.int .i64 n2)) w.drew = .ok (.slice s8a s8l s8c) w9 ∧ ∃ (s10a : Option Addr) (s10l s10c : Nat), 
    ∃ w11, Sem.run Try.prog (Instr.makeSlice 47 (.int .i64 n2) (.int .i64 n2)) w9 = .ok (.slice s10a s10l s10c) w11 ∧ ∀ w12, 
    w12 = w11.alloc (.cells #[(.slice s10a s10l s10c), (.slice s8a s8l s8c), (.slice none 0 0), (.int .i64 (-1 : Int)), (.bool false), 
    (.int .i64 (0 : Int)), (.int .i64 (0 : Int))] 92) → R (.returned (.tuple #[(.pointer (some ⟨w11.heap.size, 0, none⟩)), (.int .i64 (0 : Int))])) w12)))
theorem E_disk_New (sectors1 : Int) (w : World) (R : Ending → World → Prop) : F_disk_New sectors1 w R = fnVC Try.prog Try.f26 A_disk_New [(.int .i64 sectors1)] w R := by kernel_rfl
theorem C_disk_New {sectors1 : Int} {w : World} {R : Ending → World → Prop} (h : F_disk_New sectors1 w R) : Calls Try.prog 26 #[(.int .i64 sectors1)] w R := fnVC_calls Try.func26 (Eq.mp (E_disk_New sectors1 w R) h)

/-! 27 pollard/pollardref03.New -/
def A_pollardref03_New : Ann := .keep [0] (.gsplit (.keep [0, 12] (.known true (.keep [2, 3] (.done)))) (.keep [0, 12] (.split (.keep [2, 3] (.done)) (.keep [0] (.keep [0, 
    4] (.keep [0, 4, 5] (.loop [(5, (.int .i64))] [0, 4] (.keep [0, 4, 5, 17] (.split (.keep [0, 4, 5] (.sh .slc (.keep [0, 4, 5, 
    6] (.sh .slc (.sh .slc (.keep [0, 4, 5] (.done))))))) (.keep [4] (.keep [2, 3] (.done))))))))))))
def F_pollardref03_New (sectors1 : Int) (w : World) (R : Ending → World → Prop) : Prop :=
    ((decide (sectors1 < (1 : Int))) = true → R (.returned (.tuple #[(.pointer none), (.int .i64 (1 : Int))])) w) ∧ 
    ((decide (sectors1 < (1 : Int))) = false → ((decide (sectors1 > (8192 : Int))) = true → R (.returned (.tuple #[(.pointer none), 
    (.int .i64 (1 : Int))])) w) ∧ ((decide (sectors1 > (8192 : Int))) = false → ∀ w2, w2 = w.alloc (.cells #[(.slice none 0 0), (.slice none 0 0), 
    (.int .i64 (-1 : Int)), (.bool false), (.int .i64 (0 : Int)), (.int .i64 (0 : Int))] 109) → ∃ (I3 : Int → World → Prop) (mu4 : Int → World → Nat), 
    I3 (0 : Int) w2 ∧ ∀ (i5 : Int) (w6 : World), I3 i5 w6 → ((decide (i5 < sectors1)) = true → ∃ (s7a : Option Addr) (s7l s7c : Nat), ∃ w8, 
    Sem.run Try.prog (Instr.makeSlice 47 (.int .i64 (64 : Int)) (.int .i64 (64 : Int))) w6 = .ok (.slice s7a s7l s7c) w8 ∧ ∃ b9 o10, (some (⟨w.heap.size, 
    0, none⟩ : Addr)) = some ⟨b9, o10, none⟩ ∧ ∃ (Platter11a : Option Addr) (Platter11l Platter11c : Nat), w8.cell? ⟨b9, o10, 
    none⟩ = some (.slice Platter11a Platter11l Platter11c) ∧ ∀ w12, w12 = w8.alloc (.cells #[(.slice s7a s7l s7c)] 47) → 
    ∃ (s13a : Option Addr) (s13l s13c : Nat), ∃ w14, Sem.run Try.prog (Builtin.append_ #[22, 22] 22 #[(.slice Platter11a Platter11l Platter11c), 
    (.slice (some ⟨w8.heap.size, 0, none⟩) 1 1)]) w12 = .ok (.slice s13a s13l s13c) w14 ∧ ∃ b15 o16, (some (⟨w.heap.size, 0, none⟩ : Addr)) = some ⟨b15, 
    o16, none⟩ ∧ Wr w14 ⟨b15, o16, none⟩ ∧ ∀ w17, w17 = w14.setCell ⟨b15, o16, none⟩ (.slice s13a s13l s13c) → ∀ n18 : Int, 
    n18 = (IntKind.wrap .i64 (i5 + (1 : Int))) → I3 n18 w17 ∧ mu4 n18 w17 < mu4 i5 w6) ∧ ((decide (i5 < sectors1)) = false → 
    R (.returned (.tuple #[(.pointer (some ⟨w.heap.size, 0, none⟩)), (.int .i64 (0 : Int))])) w6)))
theorem E_pollardref03_New (sectors1 : Int) (w : World) (R : Ending → World → Prop) : F_pollardref03_New sectors1 w R = fnVC Try.prog Try.f27 A_pollardref03_New [(.int .i64 sectors1)] w R := by kernel_rfl
theorem C_pollardref03_New {sectors1 : Int} {w : World} {R : Ending → World → Prop} (h : F_pollardref03_New sectors1 w R) : Calls Try.prog 27 #[(.int .i64 sectors1)] w R := fnVC_calls Try.func27 (Eq.mp (E_pollardref03_New sectors1 w R) h)

/-! 28 pollard/pollardref07.New -/
def A_pollardref07_New : Ann := .keep [0, 1, 2] (.sh (.int .i64) (.gsplit (.known true (.known true (.known true (.keep [0, 1, 2, 31] (.known true (.keep [6, 
    7] (.done))))))) (.gsplit (.known true (.known true (.keep [0, 1, 2, 31] (.known true (.keep [6, 7] (.done)))))) (.gsplit (.known true (.keep [0, 1, 
    2, 31] (.known true (.keep [6, 7] (.done))))) (.gsplit (.keep [0, 1, 2, 31] (.known true (.keep [6, 7] (.done)))) (.sh (.int .i64) (.keep [0, 1, 2, 
    31] (.split (.keep [6, 7] (.done)) (.keep [0, 1, 2] (.keep [6, 7] (.done)))))))))))
def F_pollardref07_New (d1 : Option Addr) (first2 : Int) (vend3 : Int) (w : World) (R : Ending → World → Prop) : Prop :=
    Calls Try.prog 42 #[(.pointer d1)] w (fun e4 w5 => ∃ r6 : Int, e4 = .returned (.int .i64 r6) ∧ ((decide (r6 < (4 : Int))) = true → 
    R (.returned (.tuple #[(.pointer none), (.int .i64 (1 : Int))])) w5) ∧ ((decide (r6 < (4 : Int))) = false → ((decide (first2 < (0 : Int))) = true → 
    R (.returned (.tuple #[(.pointer none), (.int .i64 (1 : Int))])) w5) ∧ ((decide (first2 < (0 : Int))) = false → ((decide (vend3 < first2)) = true → 
    R (.returned (.tuple #[(.pointer none), (.int .i64 (1 : Int))])) w5) ∧ ((decide (vend3 < first2)) = false → 
    ((decide (vend3 > (68719476736 : Int))) = true → R (.returned (.tuple #[(.pointer none), (.int .i64 (1 : Int))])) w5) ∧ 
    ((decide (vend3 > (68719476736 : Int))) = false → ∀ n7 : Int, n7 = (IntKind.wrap .i64 (vend3 - first2)) → 
    Calls Try.prog 42 #[(.pointer d1)] w5 (fun e8 w9 => ∃ r10 : Int, e8 = .returned (.int .i64 r10) ∧ ((decide (n7 > r10)) = true → 
    R (.returned (.tuple #[(.pointer none), (.int .i64 (1 : Int))])) w9) ∧ ((decide (n7 > r10)) = false → ∀ w11, w11 = w9.alloc (.cells #[(.pointer d1), 
    (.int .i64 first2), (.int .i64 vend3)] 112) → R (.returned (.tuple #[(.pointer (some ⟨w9.heap.size, 0, none⟩)), (.int .i64 (0 : Int))])) w11)))))))
theorem E_pollardref07_New (d1 : Option Addr) (first2 : Int) (vend3 : Int) (w : World) (R : Ending → World → Prop) : F_pollardref07_New d1 first2 vend3 w R = fnVC Try.prog Try.f28 A_pollardref07_New [(.pointer d1), (.int .i64 first2), (.int .i64 vend3)] w R := by kernel_rfl
theorem C_pollardref07_New {d1 : Option Addr} {first2 : Int} {vend3 : Int} {w : World} {R : Ending → World → Prop} (h : F_pollardref07_New d1 first2 vend3 w R) : Calls Try.prog 28 #[(.pointer d1), (.int .i64 first2), (.int .i64 vend3)] w R := fnVC_calls Try.func28 (Eq.mp (E_pollardref07_New d1 first2 vend3 w R) h)

/-! 29 pollard/pollardref08.Open -/
def A_pollardref08_Open : Ann := .keep [0, 2, 
    4] (.q 0 (.q 1 (.sh (.int .i64) (.q 2 (.q 3 (.gsplit (.q 4 (.q 5 (.q 6 (.q 7 (.q 8 (.known true (.q 9 (.q 10 (.q 11 (.q 12 (.q 13 (.q 14 (.q 15 (.q 16 (.q 17 (.q 18 (.known true (.q 19 (.q 20 (.q 21 (.q 22 (.q 23 (.q 24 (.q 25 (.q 26 (.q 27 (.q 28 (.q 29 (.q 30 (.q 31 (.q 32 (.q 33 (.q 34 (.known true (.q 35 (.q 36 (.q 37 (.q 38 (.known true (.q 39 (.q 40 (.q 41 (.fin (.keep [0, 
    2, 4, 49] (.known true (.keep [6, 
    7] (.done))))))))))))))))))))))))))))))))))))))))))))))) (.q 4 (.q 5 (.sh (.int .i64) (.q 6 (.q 7 (.q 8 (.gsplit (.q 9 (.q 10 (.q 11 (.q 12 (.q 13 (.q 14 (.q 15 (.q 16 (.q 17 (.q 18 (.known true (.q 19 (.q 20 (.q 21 (.q 22 (.q 23 (.q 24 (.q 25 (.q 26 (.q 27 (.q 28 (.q 29 (.q 30 (.q 31 (.q 32 (.q 33 (.q 34 (.known true (.q 35 (.q 36 (.q 37 (.q 38 (.known true (.q 39 (.q 40 (.q 41 (.fin (.keep [0, 
    2, 4, 49] (.known true (.keep [6, 
    7] (.done))))))))))))))))))))))))))))))))))))))))) (.q 9 (.q 10 (.sh (.int .i64) (.q 11 (.q 12 (.q 13 (.q 14 (.sh (.int .i64) (.q 15 (.q 16 (.q 17 (.q 18 (.gsplit (.q 19 (.q 20 (.q 21 (.q 22 (.q 23 (.q 24 (.q 25 (.q 26 (.q 27 (.q 28 (.q 29 (.q 30 (.q 31 (.q 32 (.q 33 (.q 34 (.known true (.q 35 (.q 36 (.q 37 (.q 38 (.known true (.q 39 (.q 40 (.q 41 (.fin (.keep [0, 
    2, 4, 49] (.known true (.keep [6, 
    7] (.done)))))))))))))))))))))))))))))) (.q 19 (.q 20 (.sh (.int .i64) (.q 21 (.q 22 (.q 23 (.q 24 (.sh (.int .i64) (.q 25 (.q 26 (.q 27 (.q 28 (.sh .ptr (.alt 29 (.sh (.int .i64) (.q 30 (.q 31 (.q 32 (.q 33 (.q 34 (.gsplit (.q 35 (.q 36 (.q 37 (.q 38 (.known true (.q 39 (.q 40 (.q 41 (.fin (.keep [0, 
    2, 4, 49] (.known true (.keep [6, 7] (.done))))))))))))) (.q 35 (.q 36 (.q 37 (.q 38 (.gsplit (.q 39 (.q 40 (.q 41 (.fin (.keep [0, 2, 4, 
    49] (.known true (.keep [6, 7] (.done)))))))) (.q 39 (.q 40 (.q 41 (.fin (.keep [0, 2, 4, 49] (.split (.keep [6, 7] (.done)) (.keep [0, 2, 
    4] (.sh (.int .i64) (.sh (.agg [(.int .i64), (.int .i64)]) (.sh (.agg [(.int .i64), (.int .i64)]) (.sh (.int .i64) (.sh (.int .i64) (.keep [6, 
    7] (.done)))))))))))))))))))))))))) .stop))))))))))))))))))))))))))))))))))))))))
def F_pollardref08_Open (s1 : Option Addr) (h2 : Int) (h3 : Int) (era4 : Int) (w : World) (R : Ending → World → Prop) : Prop :=
    ∀ w5, w5 = w.alloc (.cells #[(.int .i64 h2), (.int .i64 h3)] 29) → ∃ No6 : Int, w5.drew.cell? ⟨w.heap.size, 0, none⟩ = some (.int .i64 No6) ∧ 
    ((decide (No6 < (0 : Int))) = true → R (.returned (.tuple #[(.pointer none), (.int .i64 (1 : Int))])) w5.drew) ∧ 
    ((decide (No6 < (0 : Int))) = false → ∃ No7 : Int, w5.drew.cell? ⟨w.heap.size, 0, none⟩ = some (.int .i64 No7) ∧ 
    ((decide (No7 > (1099511627776 : Int))) = true → R (.returned (.tuple #[(.pointer none), (.int .i64 (1 : Int))])) w5.drew) ∧ 
    ((decide (No7 > (1099511627776 : Int))) = false → ∃ Place8 : Int, w5.drew.cell? ⟨w.heap.size, 0 + 1, none⟩ = some (.int .i64 Place8) ∧ ∃ b9 o10, 
    s1 = some ⟨b9, o10, none⟩ ∧ ∃ First11 : Int, w5.drew.cell? ⟨b9, o10 + 1, none⟩ = some (.int .i64 First11) ∧ ∀ n12 : Int, 
    n12 = (IntKind.wrap .i64 ((8 : Int) * First11)) → ((decide (Place8 < n12)) = true → R (.returned (.tuple #[(.pointer none), 
    (.int .i64 (1 : Int))])) w5.drew) ∧ ((decide (Place8 < n12)) = false → ∃ Place13 : Int, w5.drew.cell? ⟨w.heap.size, 0 + 1, 
    none⟩ = some (.int .i64 Place13) ∧ ∃ b14 o15, s1 = some ⟨b14, o15, none⟩ ∧ ∃ First16 : Int, w5.drew.cell? ⟨b14, o15 + 1, 
    none⟩ = some (.int .i64 First16) ∧ ∃ b17 o18, s1 = some ⟨b17, o18, none⟩ ∧ ∃ D19 : Option Addr, w5.drew.cell? ⟨b17, o18, 
    none⟩ = some (.pointer D19) ∧ Calls Try.prog 42 #[(.pointer D19)] w5.drew (fun e20 w21 => ∃ r22 : Int, e20 = .returned (.int .i64 r22) ∧ 
    w21.cell? ⟨b14, o15 + 1, none⟩ = some (.int .i64 First16) ∧ w21.cell? ⟨w.heap.size, 0 + 1, none⟩ = some (.int .i64 Place13) ∧ ∀ n23 : Int, 
    n23 = (IntKind.wrap .i64 (First16 + r22)) → ∀ n24 : Int, n24 = (IntKind.wrap .i64 ((8 : Int) * n23)) → ((decide (Place13 > n24)) = true → 
    R (.returned (.tuple #[(.pointer none), (.int .i64 (1 : Int))])) w21) ∧ ((decide (Place13 > n24)) = false → ((decide (era4 < (1 : Int))) = true → 
    R (.returned (.tuple #[(.pointer none), (.int .i64 (1 : Int))])) w21) ∧ ((decide (era4 < (1 : Int))) = false → 
    ((decide (era4 > (4294967295 : Int))) = true → R (.returned (.tuple #[(.pointer none), (.int .i64 (1 : Int))])) w21) ∧ 
    ((decide (era4 > (4294967295 : Int))) = false → ∃ No25 : Int, w21.cell? ⟨w.heap.size, 0, none⟩ = some (.int .i64 No25) ∧ ∃ n28 : Int, 
    w21.cell? ⟨w.heap.size, 0, none⟩ = some (.int .i64 n28) ∧ ∃ n29 : Int, w21.cell? ⟨w.heap.size, 0 + 1, none⟩ = some (.int .i64 n29) ∧ ∃ n32 : Int, 
    w21.cell? ⟨w.heap.size, 0, none⟩ = some (.int .i64 n32) ∧ ∃ n33 : Int, w21.cell? ⟨w.heap.size, 0 + 1, none⟩ = some (.int .i64 n33) ∧ ∃ No34 : Int, 
    w21.cell? ⟨w.heap.size, 0, none⟩ = some (.int .i64 No34) ∧ ∃ Place35 : Int, w21.cell? ⟨w.heap.size, 0 + 1, none⟩ = some (.int .i64 Place35) ∧ ∀ w36, 
    w36 = w21.alloc (.cells #[(.pointer s1), (.int .i64 era4), (.int .i64 No25), (.slice none 0 0), (.int .i64 n28), (.int .i64 n29), (.int .i64 n32), 
    (.int .i64 n33), (.int .i64 No34), (.int .i64 Place35)] 115) → R (.returned (.tuple #[(.pointer (some ⟨w21.heap.size, 0, none⟩)), 
    (.int .i64 (0 : Int))])) w36)))))))
theorem E_pollardref08_Open (s1 : Option Addr) (h2 : Int) (h3 : Int) (era4 : Int) (w : World) (R : Ending → World → Prop) : F_pollardref08_Open s1 h2 h3 era4 w R = fnVC Try.prog Try.f29 A_pollardref08_Open [(.pointer s1), (.agg #[(.int .i64 h2), (.int .i64 h3)]), (.int .i64 era4)] w R := by kernel_rfl
theorem C_pollardref08_Open {s1 : Option Addr} {h2 : Int} {h3 : Int} {era4 : Int} {w : World} {R : Ending → World → Prop} (h : F_pollardref08_Open s1 h2 h3 era4 w R) : Calls Try.prog 29 #[(.pointer s1), (.agg #[(.int .i64 h2), (.int .i64 h3)]), (.int .i64 era4)] w R := fnVC_calls Try.func29 (Eq.mp (E_pollardref08_Open s1 h2 h3 era4 w R) h)

/-! 30 slices.Clone[[]byte,byte] -/
def A_slices_Clone_byte : Ann := .keep [0] (.keep [0, 4] (.split (.keep [2] (.done)) (.keep [0] (.sh .slc (.keep [2] (.done))))))
def F_slices_Clone_byte (s1a : Option Addr) (s1l s1c : Nat) (w : World) (R : Ending → World → Prop) : Prop :=
    ((Option.isNone s1a) = true → R (.returned (.slice none 0 0)) w) ∧ ((Option.isNone s1a) = false → ∀ w2, w2 = w.alloc (.cells #[] 5) → 
    ∃ (s3a : Option Addr) (s3l s3c : Nat), ∃ w4, Sem.run Try.prog (Builtin.append_ #[47, 47] 47 #[(.slice (some ⟨w.heap.size, 0, none⟩) 0 0), 
    (.slice s1a s1l s1c)]) w2 = .ok (.slice s3a s3l s3c) w4 ∧ R (.returned (.slice s3a s3l s3c)) w4)
theorem E_slices_Clone_byte (s1a : Option Addr) (s1l s1c : Nat) (w : World) (R : Ending → World → Prop) : F_slices_Clone_byte s1a s1l s1c w R = fnVC Try.prog Try.f30 A_slices_Clone_byte [(.slice s1a s1l s1c)] w R := by kernel_rfl
theorem C_slices_Clone_byte {s1a : Option Addr} {s1l s1c : Nat} {w : World} {R : Ending → World → Prop} (h : F_slices_Clone_byte s1a s1l s1c w R) : Calls Try.prog 30 #[(.slice s1a s1l s1c)] w R := fnVC_calls Try.func30 (Eq.mp (E_slices_Clone_byte s1a s1l s1c w R) h)

/-! 31 pollard/seg.Parts -/
def A_seg_Parts : Ann := .keep [0, 1, 2, 3] (.keep [0, 1, 2, 3, 16] (.split (.keep [8, 9] (.done)) (.keep [0, 1, 2, 3] (.keep [0, 1, 2, 3, 
    10] (.gsplit (.known true (.known true (.keep [0, 1, 2, 3, 10, 42] (.known true (.keep [8, 9] (.done)))))) (.gsplit (.known true (.keep [0, 1, 2, 3, 
    10, 42] (.known true (.keep [8, 9] (.done))))) (.gsplit (.keep [0, 1, 2, 3, 10, 42] (.known true (.keep [8, 9] (.done)))) (.sh .bool (.keep [0, 1, 2, 
    3, 10, 42] (.split (.keep [8, 9] (.done)) (.keep [0, 1, 2, 3, 10] (.keep [0, 1, 2, 3, 10, 11] (.keep [0, 1, 2, 3, 10, 11, 43, 44] (.loop [(3, .slc), 
    (11, .slc), (44, (.int .i64))] [0, 1, 2, 10, 43] (.keep [0, 1, 2, 3, 10, 11, 43, 44, 45] (.split (.keep [0, 1, 2, 3, 10, 11, 43, 44] (.keep [0, 1, 2, 
    3, 10, 11, 12, 43, 44] (.keep [0, 1, 2, 3, 10, 11, 12, 13, 43, 44] (.sh .slc (.sh .slc (.keep [0, 1, 2, 3, 10, 11, 13, 43, 44] (.keep [0, 1, 2, 3, 
    10, 11, 43, 44] (.done)))))))) (.keep [11] (.keep [8, 9] (.done)))))))))))))))))))
def F_seg_Parts (a1 : Int) (a2 : Int) (a3 : Int) (a4a : Option Addr) (a4l a4c : Nat) (w : World) (R : Ending → World → Prop) : Prop :=
    ((decide (((a4l : Nat) : Int) > (12672 : Int))) = true → R (.returned (.tuple #[(.slice none 0 0), (.int .i64 (2 : Int))])) w) ∧ 
    ((decide (((a4l : Nat) : Int) > (12672 : Int))) = false → ∀ n5 : Int, n5 = (IntKind.wrap .i64 (((a4l : Nat) : Int) + (198 : Int))) → ∀ n6 : Int, 
    n6 = (IntKind.wrap .i64 (n5 - (1 : Int))) → (198 : Int) ≠ 0 ∧ ∀ n7 : Int, n7 = (IntKind.wrap .i64 (Int.tdiv n6 (198 : Int))) → 
    ((n7 == (0 : Int)) = true → R (.returned (.tuple #[(.slice none 0 0), (.int .i64 (1 : Int))])) w) ∧ ((n7 == (0 : Int)) = false → 
    ((decide (a2 < (0 : Int))) = true → R (.returned (.tuple #[(.slice none 0 0), (.int .i64 (1 : Int))])) w) ∧ ((decide (a2 < (0 : Int))) = false → 
    ∀ n8 : Int, n8 = (IntKind.wrap .i64 ((1099511627776 : Int) - n7)) → ∀ n9 : Int, n9 = (IntKind.wrap .i64 (n8 + (1 : Int))) → 
    ((decide (a2 > n9)) = true → R (.returned (.tuple #[(.slice none 0 0), (.int .i64 (1 : Int))])) w) ∧ ((decide (a2 > n9)) = false → ∀ w10, 
    w10 = w.alloc (.cells #[(.int .u8 (0 : Int))] 5) → Calls Try.prog 43 #[(.agg #[(.int .i64 (0 : Int)), (.int .i64 a1), (.int .i64 (0 : Int)), 
    (.int .i64 a3), (.int .i64 (1 : Int)), (.slice (some ⟨w.heap.size, 0, none⟩) 1 1)])] w10 (fun e11 w12 => ∃ r13 : Bool, e11 = .returned (.bool r13) ∧ 
    ((!r13) = true → R (.returned (.tuple #[(.slice none 0 0), (.int .i64 (1 : Int))])) w12) ∧ ((!r13) = false → ∃ (I14 : Slc → Slc → Int → World → 
    Prop) (mu15 : Slc → Slc → Int → World → Nat), I14 ⟨a4a, a4l, a4c⟩ ⟨none, 0, 0⟩ (0 : Int) w12 ∧ ∀ (x16 : Slc) (x17 : Slc) (x18 : Int) (w19 : World), 
    I14 x16 x17 x18 w19 → ((decide (x18 < n7)) = true → ∀ n20 : Int, n20 = (IntKind.wrap .i64 (a2 + x18)) → 
    0 ≤ (if ((x16.len : Nat) : Int) < (198 : Int) then ((x16.len : Nat) : Int) else (198 : Int)) ∧ 
    (if ((x16.len : Nat) : Int) < (198 : Int) then ((x16.len : Nat) : Int) else (198 : Int)) ≤ (if ((x16.len : Nat) : Int) < (198 : Int) then ((x16.len : Nat) : Int) else (198 : Int)) ∧ 
    (if ((x16.len : Nat) : Int) < (198 : Int) then ((x16.len : Nat) : Int) else (198 : Int)) ≤ ((x16.cap : Nat) : Int) ∧ 
    Calls Try.prog 30 #[(.slice (cutBase x16.a 0 (Int.toNat (if ((x16.len : Nat) : Int) < (198 : Int) then ((x16.len : Nat) : Int) else (198 : Int))) 1) ((Int.toNat (if ((x16.len : Nat) : Int) < (198 : Int) then ((x16.len : Nat) : Int) else (198 : Int))) - 0) ((Int.toNat (if ((x16.len : Nat) : Int) < (198 : Int) then ((x16.len : Nat) : Int) else (198 : Int))) - 0))] w19 (fun e21 w22 => ∃ (r23a : Option Addr) (r23l r23c : Nat), 
    e21 = .returned (.slice r23a r23l r23c) ∧ ∀ w24, w24 = w22.alloc (.cells #[(.int .i64 n20), (.int .i64 a1), (.int .i64 x18), (.int .i64 a3), 
    (.int .i64 n7), (.slice r23a r23l r23c)] 87) → ∃ (s25a : Option Addr) (s25l s25c : Nat), ∃ w26, Sem.run Try.prog (Builtin.append_ #[80, 
    80] 80 #[(.slice x17.a x17.len x17.cap), (.slice (some ⟨w22.heap.size, 0, none⟩) 1 1)]) w24 = .ok (.slice s25a s25l s25c) w26 ∧ 
    0 ≤ (if ((x16.len : Nat) : Int) < (198 : Int) then ((x16.len : Nat) : Int) else (198 : Int)) ∧ 
    (if ((x16.len : Nat) : Int) < (198 : Int) then ((x16.len : Nat) : Int) else (198 : Int)) ≤ ((x16.len : Nat) : Int) ∧ ∀ n27 : Int, 
    n27 = (IntKind.wrap .i64 (x18 + (1 : Int))) → 
    I14 ⟨(cutBase x16.a (Int.toNat (if ((x16.len : Nat) : Int) < (198 : Int) then ((x16.len : Nat) : Int) else (198 : Int))) x16.cap 1), 
    (x16.len - (Int.toNat (if ((x16.len : Nat) : Int) < (198 : Int) then ((x16.len : Nat) : Int) else (198 : Int)))), 
    (x16.cap - (Int.toNat (if ((x16.len : Nat) : Int) < (198 : Int) then ((x16.len : Nat) : Int) else (198 : Int))))⟩ ⟨s25a, s25l, s25c⟩ n27 w26 ∧ 
    mu15 ⟨(cutBase x16.a (Int.toNat (if ((x16.len : Nat) : Int) < (198 : Int) then ((x16.len : Nat) : Int) else (198 : Int))) x16.cap 1), 
    (x16.len - (Int.toNat (if ((x16.len : Nat) : Int) < (198 : Int) then ((x16.len : Nat) : Int) else (198 : Int)))), 
    (x16.cap - (Int.toNat (if ((x16.len : Nat) : Int) < (198 : Int) then ((x16.len : Nat) : Int) else (198 : Int))))⟩ ⟨s25a, s25l, 
    s25c⟩ n27 w26 < mu15 x16 x17 x18 w19)) ∧ ((decide (x18 < n7)) = false → R (.returned (.tuple #[(.slice x17.a x17.len x17.cap), 
    (.int .i64 (0 : Int))])) w19)))))))
theorem E_seg_Parts (a1 : Int) (a2 : Int) (a3 : Int) (a4a : Option Addr) (a4l a4c : Nat) (w : World) (R : Ending → World → Prop) : F_seg_Parts a1 a2 a3 a4a a4l a4c w R = fnVC Try.prog Try.f31 A_seg_Parts [(.int .i64 a1), (.int .i64 a2), (.int .i64 a3), (.slice a4a a4l a4c)] w R := by kernel_rfl
theorem C_seg_Parts {a1 : Int} {a2 : Int} {a3 : Int} {a4a : Option Addr} {a4l a4c : Nat} {w : World} {R : Ending → World → Prop} (h : F_seg_Parts a1 a2 a3 a4a a4l a4c w R) : Calls Try.prog 31 #[(.int .i64 a1), (.int .i64 a2), (.int .i64 a3), (.slice a4a a4l a4c)] w R := fnVC_calls Try.func31 (Eq.mp (E_seg_Parts a1 a2 a3 a4a a4l a4c w R) h)

/-! 32 (*pollard/log.record).end -/
def A_log_record_end : Ann := .keep [0, 
    2] (.q 0 (.q 1 (.q 2 (.q 3 (.sh (.int .i64) (.q 4 (.q 5 (.q 6 (.q 7 (.sh (.int .i64) (.q 8 (.q 9 (.q 10 (.q 11 (.sh .slc (.q 12 (.q 13 (.q 14 (.alt 15 (.fin (.keep [2] (.sh (.agg [(.int .i64), 
    (.int .i64)]) (.done)))) .stop)))))))))))))))))))
def F_log_record_end (r1 : Option Addr) (w : World) (R : Ending → World → Prop) : Prop :=
    ∀ w2, w2 = w.alloc (.cells #[(.int .i64 (0 : Int)), (.int .i64 (0 : Int))] 29) → ∃ b3 o4, r1 = some ⟨b3, o4, none⟩ ∧ ∃ no5 : Int, w2.drew.cell? ⟨b3, 
    o4, none⟩ = some (.int .i64 no5) ∧ ∃ b6 o7, r1 = some ⟨b6, o7, none⟩ ∧ ∃ place8 : Int, w2.drew.cell? ⟨b6, o7 + 2, none⟩ = some (.int .i64 place8) ∧ 
    ∃ b9 o10, r1 = some ⟨b9, o10, none⟩ ∧ ∃ (parts11a : Option Addr) (parts11l parts11c : Nat), w2.drew.cell? ⟨b9, o10 + 4, 
    none⟩ = some (.slice parts11a parts11l parts11c) ∧ ∀ n12 : Int, n12 = (IntKind.wrap .i64 (place8 + ((parts11l : Nat) : Int))) → 
    Wr w2.drew ⟨w.heap.size, 0, none⟩ ∧ ∀ w13, w13 = w2.drew.setCell ⟨w.heap.size, 0, none⟩ (.int .i64 no5) → Wr w13 ⟨w.heap.size, 0 + 1, none⟩ ∧ ∀ w14, 
    w14 = w13.setCell ⟨w.heap.size, 0 + 1, none⟩ (.int .i64 n12) → ∃ r15 : Int, w14.cell? ⟨w.heap.size, 0, none⟩ = some (.int .i64 r15) ∧ ∃ r16 : Int, 
    w14.cell? ⟨w.heap.size, 0 + 1, none⟩ = some (.int .i64 r16) ∧ R (.returned (.agg #[(.int .i64 r15), (.int .i64 r16)])) w14
theorem E_log_record_end (r1 : Option Addr) (w : World) (R : Ending → World → Prop) : F_log_record_end r1 w R = fnVC Try.prog Try.f32 A_log_record_end [(.pointer r1)] w R := by kernel_rfl
theorem C_log_record_end {r1 : Option Addr} {w : World} {R : Ending → World → Prop} (h : F_log_record_end r1 w R) : Calls Try.prog 32 #[(.pointer r1)] w R := fnVC_calls Try.func32 (Eq.mp (E_log_record_end r1 w R) h)

/-! 33 (*pollard/log.Log).room -/
def A_log_Log_room : Ann := .keep [0, 
    1] (.q 0 (.q 1 (.q 2 (.q 3 (.sh .ptr (.q 5 (.q 6 (.q 7 (.q 8 (.sh .ptr (.alt 4 (.sh (.int .i64) (.alt 9 (.sh (.int .i64) (.q 10 (.q 11 (.q 12 (.fin (.keep [1, 
    5] (.keep [5, 18] (.cut [(19, .bool)] [5, 18] (.keep [5, 18, 19] (.split (.done) (.done))) (.split (.keep [4] (.done)) (.keep [5, 
    23] (.split (.keep [4] (.done)) (.keep [5] (.keep [4] (.done)))))))))))))) .stop)) .stop)))))))))))
def F_log_Log_room (l1 : Option Addr) (kind2 : Int) (w : World) (R : Ending → World → Prop) : Prop :=
    ∃ b3 o4, l1 = some ⟨b3, o4, none⟩ ∧ ∃ s5 : Option Addr, w.drew.cell? ⟨b3, o4 + 1, none⟩ = some (.pointer s5) ∧ ∃ b6 o7, l1 = some ⟨b6, o7, none⟩ ∧ 
    ∃ s8 : Option Addr, w.drew.cell? ⟨b6, o7 + 1, none⟩ = some (.pointer s8) ∧ Calls Try.prog 36 #[(.pointer s5)] w.drew (fun e9 w10 => ∃ r11 : Int, 
    e9 = .returned (.int .i64 r11) ∧ w10.cell? ⟨b6, o7 + 1, none⟩ = some (.pointer s8) ∧ 
    Calls Try.prog 37 #[(.pointer s8)] w10 (fun e12 w13 => ∃ r14 : Int, e12 = .returned (.int .i64 r14) ∧ ∀ n15 : Int, 
    n15 = (IntKind.wrap .i64 (r11 + r14)) → ∀ n16 : Int, n16 = (IntKind.wrap .i64 (n15 * (8 : Int))) → ∀ J17 : Bool → World → Prop, 
    (∀ (x18 : Bool) (w19 : World), ((x18 = true → R (.returned (.int .i64 n16)) w19) ∧ (x18 = false → ((kind2 == (1 : Int)) = true → ∀ n20 : Int, 
    n20 = (IntKind.wrap .i64 (n16 - (16 : Int))) → ∀ n21 : Int, n21 = (IntKind.wrap .i64 (n20 - (24 : Int))) → R (.returned (.int .i64 n21)) w19) ∧ 
    ((kind2 == (1 : Int)) = false → ∀ n22 : Int, n22 = (IntKind.wrap .i64 (n16 - (16 : Int))) → R (.returned (.int .i64 n22)) w19))) → J17 x18 w19) → 
    ((kind2 == (4 : Int)) = true → J17 (kind2 == (4 : Int)) w13) ∧ ((kind2 == (4 : Int)) = false → J17 (kind2 == (5 : Int)) w13)))
theorem E_log_Log_room (l1 : Option Addr) (kind2 : Int) (w : World) (R : Ending → World → Prop) : F_log_Log_room l1 kind2 w R = fnVC Try.prog Try.f33 A_log_Log_room [(.pointer l1), (.int .i64 kind2)] w R := by kernel_rfl
theorem C_log_Log_room {l1 : Option Addr} {kind2 : Int} {w : World} {R : Ending → World → Prop} (h : F_log_Log_room l1 kind2 w R) : Calls Try.prog 33 #[(.pointer l1), (.int .i64 kind2)] w R := fnVC_calls Try.func33 (Eq.mp (E_log_Log_room l1 kind2 w R) h)

/-! 34 (*pollard/log.Flush).begin -/
def A_log_Flush_begin : Ann := .keep [0] (.sh .ptr (.sh (.agg [(.int .i64), 
    (.int .i64)]) (.keep [0] (.q 0 (.q 1 (.q 2 (.q 3 (.q 4 (.sh (.int .i64) (.q 5 (.q 6 (.q 7 (.q 8 (.sh .ptr (.q 9 (.q 10 (.q 11 (.sh (.int .i64) (.q 12 (.fin (.keep [0, 
    30] (.split (.sh .ptr (.sh (.int .i64) (.sh .bool (.keep [2] (.done))))) (.keep [] (.keep [2] (.done)))))))))))))))))))))))))
def F_log_Flush_begin (f1 : Option Addr) (w : World) (R : Ending → World → Prop) : Prop :=
    ∃ b2 o3, f1 = some ⟨b2, o3, none⟩ ∧ ∃ l4 : Option Addr, w.cell? ⟨b2, o3, none⟩ = some (.pointer l4) ∧ ∃ b5 o6, l4 = some ⟨b5, o6, none⟩ ∧ 
    ∃ head9 : Int, w.cell? ⟨b5, o6 + 5, none⟩ = some (.int .i64 head9) ∧ ∃ head10 : Int, w.cell? ⟨b5, o6 + 5 + 1, none⟩ = some (.int .i64 head10) ∧ 
    ∃ b11 o12, f1 = some ⟨b11, o12, none⟩ ∧ Wr w ⟨b11, o12 + 2, none⟩ ∧ ∀ w13, w13 = w.setCell ⟨b11, o12 + 2, none⟩ (.int .i64 head9) → Wr w13 ⟨b11, 
    o12 + 2 + 1, none⟩ ∧ ∀ w14, w14 = w13.setCell ⟨b11, o12 + 2 + 1, none⟩ (.int .i64 head10) → ∃ b15 o16, f1 = some ⟨b15, o16, none⟩ ∧ Wr w14 ⟨b15, 
    o16 + 1, none⟩ ∧ ∀ w17, w17 = w14.setCell ⟨b15, o16 + 1, none⟩ (.func (.func 44) #[(.pointer f1)] #[]) → ∃ b18 o19, f1 = some ⟨b18, o19, none⟩ ∧ 
    ∃ No20 : Int, w17.drew.cell? ⟨b18, o19 + 2, none⟩ = some (.int .i64 No20) ∧ ∃ b21 o22, f1 = some ⟨b21, o22, none⟩ ∧ ∃ l23 : Option Addr, 
    w17.drew.cell? ⟨b21, o22, none⟩ = some (.pointer l23) ∧ ∃ b24 o25, l23 = some ⟨b24, o25, none⟩ ∧ ∃ written26 : Int, w17.drew.cell? ⟨b24, o25 + 9, 
    none⟩ = some (.int .i64 written26) ∧ ((decide (No20 ≤ written26)) = true → ∃ b27 o28, f1 = some ⟨b27, o28, none⟩ ∧ ∃ l29 : Option Addr, 
    w17.drew.cell? ⟨b27, o28, none⟩ = some (.pointer l29) ∧ ∃ b30 o31, l29 = some ⟨b30, o31, none⟩ ∧ ∃ written32 : Int, w17.drew.cell? ⟨b30, o31 + 9, 
    none⟩ = some (.int .i64 written32) ∧ Calls Try.prog 45 #[(.pointer f1), (.int .i64 written32), 
    (.int .i64 (0 : Int))] w17.drew (fun e33 w34 => ∃ r35 : Bool, e33 = .returned (.bool r35) ∧ R (.returned (.bool r35)) w34)) ∧ 
    ((decide (No20 ≤ written26)) = false → R (.returned (.bool false)) w17.drew)
theorem E_log_Flush_begin (f1 : Option Addr) (w : World) (R : Ending → World → Prop) : F_log_Flush_begin f1 w R = fnVC Try.prog Try.f34 A_log_Flush_begin [(.pointer f1)] w R := by kernel_rfl
theorem C_log_Flush_begin {f1 : Option Addr} {w : World} {R : Ending → World → Prop} (h : F_log_Flush_begin f1 w R) : Calls Try.prog 34 #[(.pointer f1)] w R := fnVC_calls Try.func34 (Eq.mp (E_log_Flush_begin f1 w R) h)

/-! 35 (*pollard/disk.Disk).Sectors -/
def A_disk_Disk_Sectors : Ann := .keep [0] (.sh .slc (.keep [2] (.done)))
def F_disk_Disk_Sectors (d1 : Option Addr) (w : World) (R : Ending → World → Prop) : Prop :=
    ∃ b2 o3, d1 = some ⟨b2, o3, none⟩ ∧ ∃ (platter4a : Option Addr) (platter4l platter4c : Nat), w.cell? ⟨b2, o3, 
    none⟩ = some (.slice platter4a platter4l platter4c) ∧ (64 : Int) ≠ 0 ∧ ∀ n5 : Int, 
    n5 = (IntKind.wrap .i64 (Int.tdiv ((platter4l : Nat) : Int) (64 : Int))) → R (.returned (.int .i64 n5)) w
theorem E_disk_Disk_Sectors (d1 : Option Addr) (w : World) (R : Ending → World → Prop) : F_disk_Disk_Sectors d1 w R = fnVC Try.prog Try.f35 A_disk_Disk_Sectors [(.pointer d1)] w R := by kernel_rfl
theorem C_disk_Disk_Sectors {d1 : Option Addr} {w : World} {R : Ending → World → Prop} (h : F_disk_Disk_Sectors d1 w R) : Calls Try.prog 35 #[(.pointer d1)] w R := fnVC_calls Try.func35 (Eq.mp (E_disk_Disk_Sectors d1 w R) h)

/-! 36 (*pollard/seg.Segs).First -/
def A_seg_Segs_First : Ann := .keep [0] (.sh (.int .i64) (.keep [2] (.done)))
def F_seg_Segs_First (s1 : Option Addr) (w : World) (R : Ending → World → Prop) : Prop :=
    ∃ b2 o3, s1 = some ⟨b2, o3, none⟩ ∧ ∃ first4 : Int, w.cell? ⟨b2, o3 + 2, none⟩ = some (.int .i64 first4) ∧ R (.returned (.int .i64 first4)) w
theorem E_seg_Segs_First (s1 : Option Addr) (w : World) (R : Ending → World → Prop) : F_seg_Segs_First s1 w R = fnVC Try.prog Try.f36 A_seg_Segs_First [(.pointer s1)] w R := by kernel_rfl
theorem C_seg_Segs_First {s1 : Option Addr} {w : World} {R : Ending → World → Prop} (h : F_seg_Segs_First s1 w R) : Calls Try.prog 36 #[(.pointer s1)] w R := fnVC_calls Try.func36 (Eq.mp (E_seg_Segs_First s1 w R) h)

/-! 37 (*pollard/seg.Segs).Slots -/
def A_seg_Segs_Slots : Ann := .keep [0] (.sh (.int .i64) (.keep [2] (.done)))
def F_seg_Segs_Slots (s1 : Option Addr) (w : World) (R : Ending → World → Prop) : Prop :=
    ∃ b2 o3, s1 = some ⟨b2, o3, none⟩ ∧ ∃ slots4 : Int, w.cell? ⟨b2, o3 + 1, none⟩ = some (.int .i64 slots4) ∧ R (.returned (.int .i64 slots4)) w
theorem E_seg_Segs_Slots (s1 : Option Addr) (w : World) (R : Ending → World → Prop) : F_seg_Segs_Slots s1 w R = fnVC Try.prog Try.f37 A_seg_Segs_Slots [(.pointer s1)] w R := by kernel_rfl
theorem C_seg_Segs_Slots {s1 : Option Addr} {w : World} {R : Ending → World → Prop} (h : F_seg_Segs_Slots s1 w R) : Calls Try.prog 37 #[(.pointer s1)] w R := fnVC_calls Try.func37 (Eq.mp (E_seg_Segs_Slots s1 w R) h)

/-! 38 (*pollard/log.Log).trim -/
def A_log_Log_trim : Ann := .keep [0, 4] (.loop [(4, 
    (.int .i64))] [0] (.q 0 (.q 1 (.q 2 (.q 3 (.q 4 (.q 5 (.sh (.int .i64) (.q 6 (.q 7 (.q 8 (.q 9 (.sh (.int .i64) (.q 10 (.q 11 (.fin (.keep [0, 4, 
    21] (.split (.keep [0, 4] (.cut [] [0, 4] (.sh .map (.sh (.tup [.ptr, .bool]) (.keep [0, 4, 5, 6] (.keep [0, 4, 5, 34] (.split (.done) (.keep [0, 4, 
    5] (.sh .map (.sh .nil (.keep [0, 4, 5] (.sh .slc (.keep [0, 4, 43, 44, 45] (.loop [(45, (.int .i64))] [0, 4, 43, 44] (.keep [0, 4, 43, 44, 45, 
    46] (.split (.keep [0, 4, 43, 44, 45] (.sh (.agg [(.int .i64), (.int .i64), (.int .i64), (.int .i64), (.int .i64), .slc]) (.keep [0, 4, 8, 43, 44, 
    45] (.q 0 (.q 1 (.q 2 (.q 3 (.sh .map (.q 4 (.q 5 (.sh (.int .i64) (.alt 6 (.sh .nil (.fin (.keep [0, 4, 43, 44, 
    45] (.done)))) .stop)))))))))))) (.done))))))))))))))) (.done))) (.done)))))))))))))))))))
def F_log_Log_trim (l1 : Option Addr) (vfrom2 : Int) (w : World) (R : Ending → World → Prop) : Prop :=
    ∃ (I3 : Int → World → Prop) (mu4 : Int → World → Nat), I3 vfrom2 w ∧ ∀ (no5 : Int) (w6 : World), I3 no5 w6 → ∃ b7 o8, l1 = some ⟨b7, o8, none⟩ ∧ 
    ∃ No9 : Int, w6.drew.cell? ⟨b7, o8 + 7, none⟩ = some (.int .i64 No9) ∧ ∃ b10 o11, l1 = some ⟨b10, o11, none⟩ ∧ ∃ written12 : Int, w6.drew.cell? ⟨b10, 
    o11 + 9, none⟩ = some (.int .i64 written12) ∧ ((decide (no5 ≤ (if written12 < No9 then written12 else No9))) = true → ∀ J13 : World → Prop, 
    (∀ (w14 : World), (∀ n15 : Int, n15 = (IntKind.wrap .i64 (no5 + (1 : Int))) → I3 n15 w14 ∧ mu4 n15 w14 < mu4 no5 w6) → J13  w14) → ∃ b16 o17, 
    l1 = some ⟨b16, o17, none⟩ ∧ ∃ vin18 : Option Nat, w6.drew.cell? ⟨b16, o17 + 3, none⟩ = some (.map vin18) ∧ ∃ p19 : Option Addr, ∃ b20 : Bool, 
    Sem.run Try.prog (Instr.lookup 75 (.map vin18) (.int .i64 no5) true) w6.drew = .ok (.tuple #[(.pointer p19), (.bool b20)]) w6.drew ∧ ((!b20) = true → 
    J13  w6.drew) ∧ ((!b20) = false → ∃ b21 o22, l1 = some ⟨b21, o22, none⟩ ∧ ∃ vin23 : Option Nat, w6.drew.cell? ⟨b21, o22 + 3, 
    none⟩ = some (.map vin23) ∧ ∃ w24, Sem.run Try.prog (Builtin.delete_ #[75, 3] 0 #[(.map vin23), (.int .i64 no5)]) w6.drew = .ok (.tuple #[]) w24 ∧ 
    ∃ b25 o26, p19 = some ⟨b25, o26, none⟩ ∧ ∃ (parts27a : Option Addr) (parts27l parts27c : Nat), w24.cell? ⟨b25, o26 + 4, 
    none⟩ = some (.slice parts27a parts27l parts27c) ∧ ∃ (I28 : Int → World → Prop) (mu29 : Int → World → Nat), I28 (0 : Int) w24 ∧ 
    ∀ (x30 : Int) (w31 : World), I28 x30 w31 → ((decide (x30 < ((parts27l : Nat) : Int))) = true → ∃ b32 o33, parts27a = some ⟨b32, o33, none⟩ ∧ 
    0 ≤ x30 ∧ x30 < ((parts27l : Nat) : Int) ∧ ∃ n40 : Int, w31.cell? ⟨b32, o33 + Int.toNat x30 * 6, none⟩ = some (.int .i64 n40) ∧ ∃ n41 : Int, 
    w31.cell? ⟨b32, o33 + Int.toNat x30 * 6 + 1, none⟩ = some (.int .i64 n41) ∧ ∃ n42 : Int, w31.cell? ⟨b32, o33 + Int.toNat x30 * 6 + 2, 
    none⟩ = some (.int .i64 n42) ∧ ∃ n43 : Int, w31.cell? ⟨b32, o33 + Int.toNat x30 * 6 + 3, none⟩ = some (.int .i64 n43) ∧ ∃ n44 : Int, w31.cell? ⟨b32, 
    o33 + Int.toNat x30 * 6 + 4, none⟩ = some (.int .i64 n44) ∧ ∃ (s45a : Option Addr) (s45l s45c : Nat), w31.cell? ⟨b32, o33 + Int.toNat x30 * 6 + 5, 
    none⟩ = some (.slice s45a s45l s45c) ∧ ∀ w46, w46 = w31.alloc (.cells #[(.int .i64 (0 : Int)), (.int .i64 (0 : Int)), (.int .i64 (0 : Int)), 
    (.int .i64 (0 : Int)), (.int .i64 (0 : Int)), (.slice none 0 0)] 87) → Wr w46 ⟨w31.heap.size, 0, none⟩ ∧ ∀ w47, w47 = w46.setCell ⟨w31.heap.size, 0, 
    none⟩ (.int .i64 n40) → Wr w47 ⟨w31.heap.size, 0 + 1, none⟩ ∧ ∀ w48, w48 = w47.setCell ⟨w31.heap.size, 0 + 1, none⟩ (.int .i64 n41) → 
    Wr w48 ⟨w31.heap.size, 0 + 2, none⟩ ∧ ∀ w49, w49 = w48.setCell ⟨w31.heap.size, 0 + 2, none⟩ (.int .i64 n42) → Wr w49 ⟨w31.heap.size, 0 + 3, none⟩ ∧ 
    ∀ w50, w50 = w49.setCell ⟨w31.heap.size, 0 + 3, none⟩ (.int .i64 n43) → Wr w50 ⟨w31.heap.size, 0 + 4, none⟩ ∧ ∀ w51, 
    w51 = w50.setCell ⟨w31.heap.size, 0 + 4, none⟩ (.int .i64 n44) → Wr w51 ⟨w31.heap.size, 0 + 5, none⟩ ∧ ∀ w52, w52 = w51.setCell ⟨w31.heap.size, 
    0 + 5, none⟩ (.slice s45a s45l s45c) → ∃ b53 o54, l1 = some ⟨b53, o54, none⟩ ∧ ∃ vat55 : Option Nat, w52.drew.cell? ⟨b53, o54 + 4, 
    none⟩ = some (.map vat55) ∧ ∃ Place56 : Int, w52.drew.cell? ⟨w31.heap.size, 0, none⟩ = some (.int .i64 Place56) ∧ ∃ w57, 
    Sem.run Try.prog (Builtin.delete_ #[75, 3] 0 #[(.map vat55), (.int .i64 Place56)]) w52.drew = .ok (.tuple #[]) w57 ∧ ∀ n58 : Int, 
    n58 = (IntKind.wrap .i64 (x30 + (1 : Int))) → I28 n58 w57 ∧ mu29 n58 w57 < mu29 x30 w31) ∧ ((decide (x30 < ((parts27l : Nat) : Int))) = false → 
    J13  w31))) ∧ ((decide (no5 ≤ (if written12 < No9 then written12 else No9))) = false → R (.returned (.tuple #[])) w6.drew)
theorem E_log_Log_trim (l1 : Option Addr) (vfrom2 : Int) (w : World) (R : Ending → World → Prop) : F_log_Log_trim l1 vfrom2 w R = fnVC Try.prog Try.f38 A_log_Log_trim [(.pointer l1), (.int .i64 vfrom2)] w R := by kernel_rfl
theorem C_log_Log_trim {l1 : Option Addr} {vfrom2 : Int} {w : World} {R : Ending → World → Prop} (h : F_log_Log_trim l1 vfrom2 w R) : Calls Try.prog 38 #[(.pointer l1), (.int .i64 vfrom2)] w R := fnVC_calls Try.func38 (Eq.mp (E_log_Log_trim l1 vfrom2 w R) h)

/-! 39 (*pollard/log.Read).end -/
def A_log_Read_end : Ann := .keep [0, 1, 2, 3, 4] (.keep [] (.keep [10] (.done)))
def F_log_Read_end (r1 : Option Addr) (no2 : Int) (kind3 : Int) (b4a : Option Addr) (b4l b4c : Nat) (e5 : Int) (w : World) (R : Ending → World → Prop) : Prop :=
    ∃ b6 o7, r1 = some ⟨b6, o7, none⟩ ∧ Wr w ⟨b6, o7 + 4, none⟩ ∧ ∀ w8, w8 = w.setCell ⟨b6, o7 + 4, none⟩ (.int .i64 no2) → ∃ b9 o10, r1 = some ⟨b9, o10, 
    none⟩ ∧ Wr w8 ⟨b9, o10 + 5, none⟩ ∧ ∀ w11, w11 = w8.setCell ⟨b9, o10 + 5, none⟩ (.int .i64 kind3) → ∃ b12 o13, r1 = some ⟨b12, o13, none⟩ ∧ 
    Wr w11 ⟨b12, o13 + 6, none⟩ ∧ ∀ w14, w14 = w11.setCell ⟨b12, o13 + 6, none⟩ (.slice b4a b4l b4c) → ∃ b15 o16, r1 = some ⟨b15, o16, none⟩ ∧ 
    Wr w14 ⟨b15, o16 + 7, none⟩ ∧ ∀ w17, w17 = w14.setCell ⟨b15, o16 + 7, none⟩ (.int .i64 e5) → ∃ b18 o19, r1 = some ⟨b18, o19, none⟩ ∧ Wr w17 ⟨b18, 
    o19 + 3, none⟩ ∧ ∀ w20, w20 = w17.setCell ⟨b18, o19 + 3, none⟩ (.bool true) → R (.returned (.bool true)) w20
theorem E_log_Read_end (r1 : Option Addr) (no2 : Int) (kind3 : Int) (b4a : Option Addr) (b4l b4c : Nat) (e5 : Int) (w : World) (R : Ending → World → Prop) : F_log_Read_end r1 no2 kind3 b4a b4l b4c e5 w R = fnVC Try.prog Try.f39 A_log_Read_end [(.pointer r1), (.int .i64 no2), (.int .i64 kind3), (.slice b4a b4l b4c), (.int .i64 e5)] w R := by kernel_rfl
theorem C_log_Read_end {r1 : Option Addr} {no2 : Int} {kind3 : Int} {b4a : Option Addr} {b4l b4c : Nat} {e5 : Int} {w : World} {R : Ending → World → Prop} (h : F_log_Read_end r1 no2 kind3 b4a b4l b4c e5 w R) : Calls Try.prog 39 #[(.pointer r1), (.int .i64 no2), (.int .i64 kind3), (.slice b4a b4l b4c), (.int .i64 e5)] w R := fnVC_calls Try.func39 (Eq.mp (E_log_Read_end r1 no2 kind3 b4a b4l b4c e5 w R) h)

/-! 40 (*pollard/seg.Segs).Read -/
def A_seg_Segs_Read : Ann := .keep [0, 1, 4] (.sh .bool (.keep [0, 1, 4, 9] (.split (.keep [4, 5] (.sh (.agg [(.int .i64), (.int .i64), (.int .i64), (.int .i64), (.int .i64), 
    .slc]) (.done))) (.keep [0, 1, 4] (.sh (.tup [(.agg [(.int .i64), (.int .i64), (.int .i64), (.int .i64), (.int .i64), .slc]), 
    (.int .i64)]) (.keep [4, 5] (.sh (.agg [(.int .i64), (.int .i64), (.int .i64), (.int .i64), (.int .i64), .slc]) (.done))))))))
def F_seg_Segs_Read (s1 : Option Addr) (place2 : Int) (w : World) (R : Ending → World → Prop) : Prop :=
    ∀ w3, w3 = w.alloc (.cells #[(.int .i64 (0 : Int)), (.int .i64 (0 : Int)), (.int .i64 (0 : Int)), (.int .i64 (0 : Int)), (.int .i64 (0 : Int)), 
    (.slice none 0 0)] 87) → Calls Try.prog 46 #[(.pointer s1), (.int .i64 place2)] w3 (fun e4 w5 => ∃ r6 : Bool, e4 = .returned (.bool r6) ∧ 
    ((!r6) = true → Wr w5 ⟨w.heap.size, 0, none⟩ ∧ ∀ w7, w7 = w5.setCell ⟨w.heap.size, 0, none⟩ (.int .i64 (0 : Int)) → Wr w7 ⟨w.heap.size, 0 + 1, 
    none⟩ ∧ ∀ w8, w8 = w7.setCell ⟨w.heap.size, 0 + 1, none⟩ (.int .i64 (0 : Int)) → Wr w8 ⟨w.heap.size, 0 + 2, none⟩ ∧ ∀ w9, 
    w9 = w8.setCell ⟨w.heap.size, 0 + 2, none⟩ (.int .i64 (0 : Int)) → Wr w9 ⟨w.heap.size, 0 + 3, none⟩ ∧ ∀ w10, w10 = w9.setCell ⟨w.heap.size, 0 + 3, 
    none⟩ (.int .i64 (0 : Int)) → Wr w10 ⟨w.heap.size, 0 + 4, none⟩ ∧ ∀ w11, w11 = w10.setCell ⟨w.heap.size, 0 + 4, none⟩ (.int .i64 (0 : Int)) → 
    Wr w11 ⟨w.heap.size, 0 + 5, none⟩ ∧ ∀ w12, w12 = w11.setCell ⟨w.heap.size, 0 + 5, none⟩ (.slice none 0 0) → ∃ r13 : Int, w12.cell? ⟨w.heap.size, 0, 
    none⟩ = some (.int .i64 r13) ∧ ∃ r14 : Int, w12.cell? ⟨w.heap.size, 0 + 1, none⟩ = some (.int .i64 r14) ∧ ∃ r15 : Int, w12.cell? ⟨w.heap.size, 0 + 2, 
    none⟩ = some (.int .i64 r15) ∧ ∃ r16 : Int, w12.cell? ⟨w.heap.size, 0 + 3, none⟩ = some (.int .i64 r16) ∧ ∃ r17 : Int, w12.cell? ⟨w.heap.size, 0 + 4, 
    none⟩ = some (.int .i64 r17) ∧ ∃ (r18a : Option Addr) (r18l r18c : Nat), w12.cell? ⟨w.heap.size, 0 + 5, none⟩ = some (.slice r18a r18l r18c) ∧ 
    R (.returned (.tuple #[(.agg #[(.int .i64 r13), (.int .i64 r14), (.int .i64 r15), (.int .i64 r16), (.int .i64 r17), (.slice r18a r18l r18c)]), 
    (.int .i64 (1 : Int))])) w12) ∧ ((!r6) = false → Calls Try.prog 47 #[(.pointer s1), (.int .i64 place2)] w5 (fun e19 w20 => ∃ r21 : Int, ∃ r22 : Int, 
    ∃ r23 : Int, ∃ r24 : Int, ∃ r25 : Int, ∃ (r26a : Option Addr) (r26l r26c : Nat), ∃ r27 : Int, e19 = .returned (.tuple #[(.agg #[(.int .i64 r21), 
    (.int .i64 r22), (.int .i64 r23), (.int .i64 r24), (.int .i64 r25), (.slice r26a r26l r26c)]), (.int .i64 r27)]) ∧ Wr w20 ⟨w.heap.size, 0, none⟩ ∧ 
    ∀ w28, w28 = w20.setCell ⟨w.heap.size, 0, none⟩ (.int .i64 r21) → Wr w28 ⟨w.heap.size, 0 + 1, none⟩ ∧ ∀ w29, w29 = w28.setCell ⟨w.heap.size, 0 + 1, 
    none⟩ (.int .i64 r22) → Wr w29 ⟨w.heap.size, 0 + 2, none⟩ ∧ ∀ w30, w30 = w29.setCell ⟨w.heap.size, 0 + 2, none⟩ (.int .i64 r23) → 
    Wr w30 ⟨w.heap.size, 0 + 3, none⟩ ∧ ∀ w31, w31 = w30.setCell ⟨w.heap.size, 0 + 3, none⟩ (.int .i64 r24) → Wr w31 ⟨w.heap.size, 0 + 4, none⟩ ∧ ∀ w32, 
    w32 = w31.setCell ⟨w.heap.size, 0 + 4, none⟩ (.int .i64 r25) → Wr w32 ⟨w.heap.size, 0 + 5, none⟩ ∧ ∀ w33, w33 = w32.setCell ⟨w.heap.size, 0 + 5, 
    none⟩ (.slice r26a r26l r26c) → ∃ r34 : Int, w33.cell? ⟨w.heap.size, 0, none⟩ = some (.int .i64 r34) ∧ ∃ r35 : Int, w33.cell? ⟨w.heap.size, 0 + 1, 
    none⟩ = some (.int .i64 r35) ∧ ∃ r36 : Int, w33.cell? ⟨w.heap.size, 0 + 2, none⟩ = some (.int .i64 r36) ∧ ∃ r37 : Int, w33.cell? ⟨w.heap.size, 0 + 3, 
    none⟩ = some (.int .i64 r37) ∧ ∃ r38 : Int, w33.cell? ⟨w.heap.size, 0 + 4, none⟩ = some (.int .i64 r38) ∧ ∃ (r39a : Option Addr) (r39l r39c : Nat), 
    w33.cell? ⟨w.heap.size, 0 + 5, none⟩ = some (.slice r39a r39l r39c) ∧ R (.returned (.tuple #[(.agg #[(.int .i64 r34), (.int .i64 r35), 
    (.int .i64 r36), (.int .i64 r37), (.int .i64 r38), (.slice r39a r39l r39c)]), (.int .i64 r27)])) w33)))
theorem E_seg_Segs_Read (s1 : Option Addr) (place2 : Int) (w : World) (R : Ending → World → Prop) : F_seg_Segs_Read s1 place2 w R = fnVC Try.prog Try.f40 A_seg_Segs_Read [(.pointer s1), (.int .i64 place2)] w R := by kernel_rfl
theorem C_seg_Segs_Read {s1 : Option Addr} {place2 : Int} {w : World} {R : Ending → World → Prop} (h : F_seg_Segs_Read s1 place2 w R) : Calls Try.prog 40 #[(.pointer s1), (.int .i64 place2)] w R := fnVC_calls Try.func40 (Eq.mp (E_seg_Segs_Read s1 place2 w R) h)

end Go.Proofs
