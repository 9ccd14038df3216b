/- The plain formulas of the program's functions, printed by gen.py (a program of this work). -/
import Derived.Test.YtbkcpddedpmenaaVcG
import Derived.Test.YtbkcpddedpmenaaProg
import Derived.Test.YtbkcpddedpmenaaT2a
set_option maxRecDepth 100000
set_option linter.unusedVariables false
namespace Go.Proofs
open Go Go.Vc

/-! 41 pollard/seg.Join -/
def A_seg_Join : Ann := .keep [0] (.keep [0, 4] (.keep [0, 4, 7, 8, 9] (.loop [(4, .slc), (9, (.int .i64))] [0, 7, 8] (.keep [0, 4, 7, 8, 9, 10] (.split (.keep [0, 4, 7, 8, 
    9] (.sh (.agg [(.int .i64), (.int .i64), (.int .i64), (.int .i64), (.int .i64), .slc]) (.keep [0, 4, 5, 6, 7, 8, 9] (.q 0 (.sh (.agg [(.int .i64), 
    (.int .i64), (.int .i64), (.int .i64), (.int .i64), 
    .slc]) (.alt 1 (.sh .bool (.q 2 (.q 3 (.gsplit (.q 4 (.q 5 (.q 6 (.q 7 (.q 8 (.q 9 (.known true (.q 10 (.q 11 (.q 12 (.q 13 (.q 14 (.q 15 (.q 16 (.known true (.q 17 (.q 18 (.q 19 (.q 20 (.q 21 (.q 22 (.q 23 (.q 24 (.q 25 (.known true (.q 26 (.q 27 (.q 28 (.q 29 (.q 30 (.q 31 (.q 32 (.q 33 (.q 34 (.known true (.q 35 (.q 36 (.q 37 (.q 38 (.q 39 (.q 40 (.q 41 (.q 42 (.q 43 (.q 44 (.fin (.keep [0, 
    4, 6, 7, 8, 9, 18, 19, 20, 21, 24, 25, 26, 27, 28, 31, 32, 33, 34, 35, 36, 37, 40, 41, 42, 43, 44, 45, 46, 49, 50, 51, 52, 53, 54, 55, 56, 57, 
    58] (.known true (.keep [2, 
    3] (.done)))))))))))))))))))))))))))))))))))))))))))))))))) (.q 4 (.q 5 (.sh (.int .i64) (.q 6 (.q 7 (.q 8 (.q 9 (.gsplit (.q 10 (.q 11 (.q 12 (.q 13 (.q 14 (.q 15 (.q 16 (.known true (.q 17 (.q 18 (.q 19 (.q 20 (.q 21 (.q 22 (.q 23 (.q 24 (.q 25 (.known true (.q 26 (.q 27 (.q 28 (.q 29 (.q 30 (.q 31 (.q 32 (.q 33 (.q 34 (.known true (.q 35 (.q 36 (.q 37 (.q 38 (.q 39 (.q 40 (.q 41 (.q 42 (.q 43 (.q 44 (.fin (.keep [0, 
    4, 6, 7, 8, 9, 18, 19, 20, 21, 24, 25, 26, 27, 28, 31, 32, 33, 34, 35, 36, 37, 40, 41, 42, 43, 44, 45, 46, 49, 50, 51, 52, 53, 54, 55, 56, 57, 
    58] (.known true (.keep [2, 
    3] (.done))))))))))))))))))))))))))))))))))))))))))) (.q 10 (.q 11 (.sh (.int .i64) (.q 12 (.q 13 (.q 14 (.q 15 (.q 16 (.gsplit (.q 17 (.q 18 (.q 19 (.q 20 (.q 21 (.q 22 (.q 23 (.q 24 (.q 25 (.known true (.q 26 (.q 27 (.q 28 (.q 29 (.q 30 (.q 31 (.q 32 (.q 33 (.q 34 (.known true (.q 35 (.q 36 (.q 37 (.q 38 (.q 39 (.q 40 (.q 41 (.q 42 (.q 43 (.q 44 (.fin (.keep [0, 
    4, 6, 7, 8, 9, 18, 19, 20, 21, 24, 25, 26, 27, 28, 31, 32, 33, 34, 35, 36, 37, 40, 41, 42, 43, 44, 45, 46, 49, 50, 51, 52, 53, 54, 55, 56, 57, 
    58] (.known true (.keep [2, 
    3] (.done))))))))))))))))))))))))))))))))))) (.q 17 (.q 18 (.sh (.int .i64) (.q 19 (.q 20 (.q 21 (.q 22 (.sh (.int .i64) (.q 23 (.q 24 (.q 25 (.gsplit (.q 26 (.q 27 (.q 28 (.q 29 (.q 30 (.q 31 (.q 32 (.q 33 (.q 34 (.known true (.q 35 (.q 36 (.q 37 (.q 38 (.q 39 (.q 40 (.q 41 (.q 42 (.q 43 (.q 44 (.fin (.keep [0, 
    4, 6, 7, 8, 9, 18, 19, 20, 21, 24, 25, 26, 27, 28, 31, 32, 33, 34, 35, 36, 37, 40, 41, 42, 43, 44, 45, 46, 49, 50, 51, 52, 53, 54, 55, 56, 57, 
    58] (.known true (.keep [2, 
    3] (.done))))))))))))))))))))))))) (.q 26 (.q 27 (.sh (.int .i64) (.q 28 (.q 29 (.q 30 (.q 31 (.sh (.int .i64) (.q 32 (.q 33 (.q 34 (.gsplit (.q 35 (.q 36 (.q 37 (.q 38 (.q 39 (.q 40 (.q 41 (.q 42 (.q 43 (.q 44 (.fin (.keep [0, 
    4, 6, 7, 8, 9, 18, 19, 20, 21, 24, 25, 26, 27, 28, 31, 32, 33, 34, 35, 36, 37, 40, 41, 42, 43, 44, 45, 46, 49, 50, 51, 52, 53, 54, 55, 56, 57, 
    58] (.known true (.keep [2, 
    3] (.done))))))))))))))) (.q 35 (.q 36 (.sh (.int .i64) (.q 37 (.q 38 (.q 39 (.q 40 (.sh (.int .i64) (.q 41 (.q 42 (.q 43 (.q 44 (.fin (.keep [0, 4, 
    6, 7, 8, 9, 18, 19, 20, 21, 24, 25, 26, 27, 28, 31, 32, 33, 34, 35, 36, 37, 40, 41, 42, 43, 44, 45, 46, 49, 50, 51, 52, 53, 54, 55, 56, 57, 
    58] (.split (.keep [2, 3] (.done)) (.keep [0, 4, 6, 7, 8, 9, 18, 19, 20, 21, 24, 25, 26, 27, 28, 31, 32, 33, 34, 35, 36, 37, 40, 41, 42, 43, 44, 45, 
    46, 49, 50, 51, 52, 53, 54, 55, 56, 57] (.sh .slc (.sh .slc (.keep [0, 4, 7, 8, 9, 18, 19, 20, 21, 24, 25, 26, 27, 28, 31, 32, 33, 34, 35, 36, 37, 
    40, 41, 42, 43, 44, 45, 46, 49, 50, 51, 52, 53, 54, 55, 56, 
    57] (.done))))))))))))))))))))))))))))))))))))))))))))))))))))))))))))))))) .stop)))))) (.keep [0, 4] (.keep [4, 66] (.split (.keep [2, 
    3] (.done)) (.keep [4] (.keep [2, 3] (.done)))))))))))
def F_seg_Join (a1a : Option Addr) (a1l a1c : Nat) (w : World) (R : Ending → World → Prop) : Prop :=
    ∃ (I2 : Slc → Int → World → Prop) (mu3 : Slc → Int → World → Nat), I2 ⟨none, 0, 0⟩ (0 : Int) w ∧ ∀ (x4 : Slc) (x5 : Int) (w6 : World), I2 x4 x5 w6 → 
    ((decide (x5 < ((a1l : Nat) : Int))) = true → ∃ b7 o8, a1a = some ⟨b7, o8, none⟩ ∧ 0 ≤ x5 ∧ x5 < ((a1l : Nat) : Int) ∧ ∃ n15 : Int, w6.cell? ⟨b7, 
    o8 + Int.toNat x5 * 6, none⟩ = some (.int .i64 n15) ∧ ∃ n16 : Int, w6.cell? ⟨b7, o8 + Int.toNat x5 * 6 + 1, none⟩ = some (.int .i64 n16) ∧ 
    ∃ n17 : Int, w6.cell? ⟨b7, o8 + Int.toNat x5 * 6 + 2, none⟩ = some (.int .i64 n17) ∧ ∃ n18 : Int, w6.cell? ⟨b7, o8 + Int.toNat x5 * 6 + 3, 
    none⟩ = some (.int .i64 n18) ∧ ∃ n19 : Int, w6.cell? ⟨b7, o8 + Int.toNat x5 * 6 + 4, none⟩ = some (.int .i64 n19) ∧ 
    ∃ (s20a : Option Addr) (s20l s20c : Nat), w6.cell? ⟨b7, o8 + Int.toNat x5 * 6 + 5, none⟩ = some (.slice s20a s20l s20c) ∧ ∀ w21, 
    w21 = w6.alloc (.cells #[(.int .i64 (0 : Int)), (.int .i64 (0 : Int)), (.int .i64 (0 : Int)), (.int .i64 (0 : Int)), (.int .i64 (0 : Int)), 
    (.slice none 0 0)] 87) → Wr w21 ⟨w6.heap.size, 0, none⟩ ∧ ∀ w22, w22 = w21.setCell ⟨w6.heap.size, 0, none⟩ (.int .i64 n15) → Wr w22 ⟨w6.heap.size, 
    0 + 1, none⟩ ∧ ∀ w23, w23 = w22.setCell ⟨w6.heap.size, 0 + 1, none⟩ (.int .i64 n16) → Wr w23 ⟨w6.heap.size, 0 + 2, none⟩ ∧ ∀ w24, 
    w24 = w23.setCell ⟨w6.heap.size, 0 + 2, none⟩ (.int .i64 n17) → Wr w24 ⟨w6.heap.size, 0 + 3, none⟩ ∧ ∀ w25, w25 = w24.setCell ⟨w6.heap.size, 0 + 3, 
    none⟩ (.int .i64 n18) → Wr w25 ⟨w6.heap.size, 0 + 4, none⟩ ∧ ∀ w26, w26 = w25.setCell ⟨w6.heap.size, 0 + 4, none⟩ (.int .i64 n19) → 
    Wr w26 ⟨w6.heap.size, 0 + 5, none⟩ ∧ ∀ w27, w27 = w26.setCell ⟨w6.heap.size, 0 + 5, none⟩ (.slice s20a s20l s20c) → ∃ n34 : Int, 
    w27.drew.cell? ⟨w6.heap.size, 0, none⟩ = some (.int .i64 n34) ∧ ∃ n35 : Int, w27.drew.cell? ⟨w6.heap.size, 0 + 1, none⟩ = some (.int .i64 n35) ∧ 
    ∃ n36 : Int, w27.drew.cell? ⟨w6.heap.size, 0 + 2, none⟩ = some (.int .i64 n36) ∧ ∃ n37 : Int, w27.drew.cell? ⟨w6.heap.size, 0 + 3, 
    none⟩ = some (.int .i64 n37) ∧ ∃ n38 : Int, w27.drew.cell? ⟨w6.heap.size, 0 + 4, none⟩ = some (.int .i64 n38) ∧ 
    ∃ (s39a : Option Addr) (s39l s39c : Nat), w27.drew.cell? ⟨w6.heap.size, 0 + 5, none⟩ = some (.slice s39a s39l s39c) ∧ 
    Calls Try.prog 43 #[(.agg #[(.int .i64 n34), (.int .i64 n35), (.int .i64 n36), (.int .i64 n37), (.int .i64 n38), 
    (.slice s39a s39l s39c)])] w27.drew (fun e40 w41 => ∃ r42 : Bool, e40 = .returned (.bool r42) ∧ ((!r42) = true → 
    R (.returned (.tuple #[(.slice none 0 0), (.int .i64 (71 : Int))])) w41) ∧ ((!r42) = false → ∃ Index43 : Int, w41.cell? ⟨w6.heap.size, 0 + 2, 
    none⟩ = some (.int .i64 Index43) ∧ ((Index43 != x5) = true → R (.returned (.tuple #[(.slice none 0 0), (.int .i64 (71 : Int))])) w41) ∧ 
    ((Index43 != x5) = false → ∃ Parts44 : Int, w41.cell? ⟨w6.heap.size, 0 + 4, none⟩ = some (.int .i64 Parts44) ∧ 
    ((Parts44 != ((a1l : Nat) : Int)) = true → R (.returned (.tuple #[(.slice none 0 0), (.int .i64 (71 : Int))])) w41) ∧ 
    ((Parts44 != ((a1l : Nat) : Int)) = false → ∃ No45 : Int, w41.cell? ⟨w6.heap.size, 0 + 1, none⟩ = some (.int .i64 No45) ∧ ∃ b46 o47, a1a = some ⟨b46, 
    o47, none⟩ ∧ 0 ≤ (0 : Int) ∧ (0 : Int) < ((a1l : Nat) : Int) ∧ ∃ No48 : Int, w41.cell? ⟨b46, o47 + Int.toNat (0 : Int) * 6 + 1, 
    none⟩ = some (.int .i64 No48) ∧ ((No45 != No48) = true → R (.returned (.tuple #[(.slice none 0 0), (.int .i64 (71 : Int))])) w41) ∧ 
    ((No45 != No48) = false → ∃ Era49 : Int, w41.cell? ⟨w6.heap.size, 0 + 3, none⟩ = some (.int .i64 Era49) ∧ ∃ b50 o51, a1a = some ⟨b50, o51, none⟩ ∧ 
    0 ≤ (0 : Int) ∧ (0 : Int) < ((a1l : Nat) : Int) ∧ ∃ Era52 : Int, w41.cell? ⟨b50, o51 + Int.toNat (0 : Int) * 6 + 3, none⟩ = some (.int .i64 Era52) ∧ 
    ((Era49 != Era52) = true → R (.returned (.tuple #[(.slice none 0 0), (.int .i64 (71 : Int))])) w41) ∧ ((Era49 != Era52) = false → ∃ Place53 : Int, 
    w41.cell? ⟨w6.heap.size, 0, none⟩ = some (.int .i64 Place53) ∧ ∃ b54 o55, a1a = some ⟨b54, o55, none⟩ ∧ 0 ≤ (0 : Int) ∧ 
    (0 : Int) < ((a1l : Nat) : Int) ∧ ∃ Place56 : Int, w41.cell? ⟨b54, o55 + Int.toNat (0 : Int) * 6, none⟩ = some (.int .i64 Place56) ∧ ∀ n57 : Int, 
    n57 = (IntKind.wrap .i64 (Place56 + x5)) → ((Place53 != n57) = true → R (.returned (.tuple #[(.slice none 0 0), (.int .i64 (71 : Int))])) w41) ∧ 
    ((Place53 != n57) = false → ∃ (Data58a : Option Addr) (Data58l Data58c : Nat), w41.cell? ⟨w6.heap.size, 0 + 5, 
    none⟩ = some (.slice Data58a Data58l Data58c) ∧ ∃ (s59a : Option Addr) (s59l s59c : Nat), ∃ w60, Sem.run Try.prog (Builtin.append_ #[47, 
    47] 47 #[(.slice x4.a x4.len x4.cap), (.slice Data58a Data58l Data58c)]) w41 = .ok (.slice s59a s59l s59c) w60 ∧ ∀ n61 : Int, 
    n61 = (IntKind.wrap .i64 (x5 + (1 : Int))) → I2 ⟨s59a, s59l, s59c⟩ n61 w60 ∧ mu3 ⟨s59a, s59l, s59c⟩ n61 w60 < mu3 x4 x5 w6)))))))) ∧ 
    ((decide (x5 < ((a1l : Nat) : Int))) = false → ((((a1l : Nat) : Int) == (0 : Int)) = true → R (.returned (.tuple #[(.slice none 0 0), 
    (.int .i64 (71 : Int))])) w6) ∧ ((((a1l : Nat) : Int) == (0 : Int)) = false → R (.returned (.tuple #[(.slice x4.a x4.len x4.cap), 
    (.int .i64 (0 : Int))])) w6))
theorem E_seg_Join (a1a : Option Addr) (a1l a1c : Nat) (w : World) (R : Ending → World → Prop) : F_seg_Join a1a a1l a1c w R = fnVC Try.prog Try.f41 A_seg_Join [(.slice a1a a1l a1c)] w R := by kernel_rfl
theorem C_seg_Join {a1a : Option Addr} {a1l a1c : Nat} {w : World} {R : Ending → World → Prop} (h : F_seg_Join a1a a1l a1c w R) : Calls Try.prog 41 #[(.slice a1a a1l a1c)] w R := fnVC_calls Try.func41 (Eq.mp (E_seg_Join a1a a1l a1c w R) h)

/-! 42 pollard/pollardref07.Slots -/
def A_pollardref07_Slots : Ann := .keep [0] (.sh .slc (.keep [3] (.keep [3, 11] (.split (.keep [2] (.done)) (.keep [3] (.keep [2] (.done)))))))
def F_pollardref07_Slots (d1 : Option Addr) (w : World) (R : Ending → World → Prop) : Prop :=
    ∃ b2 o3, d1 = some ⟨b2, o3, none⟩ ∧ ∃ (Platter4a : Option Addr) (Platter4l Platter4c : Nat), w.cell? ⟨b2, o3, 
    none⟩ = some (.slice Platter4a Platter4l Platter4c) ∧ ∀ n5 : Int, n5 = (IntKind.wrap .i64 (((Platter4l : Nat) : Int) - (8 : Int))) → 
    ((decide (n5 < (0 : Int))) = true → R (.returned (.int .i64 (0 : Int))) w) ∧ ((decide (n5 < (0 : Int))) = false → (32 : Int) ≠ 0 ∧ ∀ n6 : Int, 
    n6 = (IntKind.wrap .i64 (Int.tdiv n5 (32 : Int))) → R (.returned (.int .i64 n6)) w)
theorem E_pollardref07_Slots (d1 : Option Addr) (w : World) (R : Ending → World → Prop) : F_pollardref07_Slots d1 w R = fnVC Try.prog Try.f42 A_pollardref07_Slots [(.pointer d1)] w R := by kernel_rfl
theorem C_pollardref07_Slots {d1 : Option Addr} {w : World} {R : Ending → World → Prop} (h : F_pollardref07_Slots d1 w R) : Calls Try.prog 42 #[(.pointer d1)] w R := fnVC_calls Try.func42 (Eq.mp (E_pollardref07_Slots d1 w R) h)

/-! 43 pollard/seg.may -/
def A_seg_may : Ann := .keep [1] (.keep [1, 3] (.sh (.int .i64) (.sh .bool (.gsplit (.known true (.known true (.known true (.keep [1, 3, 
    39] (.known true (.keep [2] (.done))))))) (.sh (.int .i64) (.sh .bool (.gsplit (.known true (.known true (.keep [1, 3, 
    39] (.known true (.keep [2] (.done)))))) (.sh (.int .i64) (.sh .bool (.gsplit (.known true (.keep [1, 3, 
    39] (.known true (.keep [2] (.done))))) (.sh (.int .i64) (.sh .bool (.gsplit (.keep [1, 3, 
    39] (.known true (.keep [2] (.done)))) (.sh (.int .i64) (.sh (.int .i64) (.sh .bool (.keep [1, 3, 39] (.split (.keep [2] (.done)) (.keep [1, 
    3] (.sh .slc (.gsplit (.keep [2] (.done)) (.sh (.int .i64) (.sh (.int .i64) (.gsplit (.sh .slc (.sh .bool (.keep [2] (.done)))) (.keep [2] (.done))))))))))))))))))))))))))
def F_seg_may (p1 : Int) (p2 : Int) (p3 : Int) (p4 : Int) (p5 : Int) (p6a : Option Addr) (p6l p6c : Nat) (w : World) (R : Ending → World → Prop) : Prop :=
    ∀ w7, w7 = w.alloc (.cells #[(.int .i64 p1), (.int .i64 p2), (.int .i64 p3), (.int .i64 p4), (.int .i64 p5), (.slice p6a p6l p6c)] 87) → 
    ∃ Place8 : Int, w7.cell? ⟨w.heap.size, 0, none⟩ = some (.int .i64 Place8) ∧ Calls Try.prog 48 #[(.int .i64 Place8), (.int .i64 (0 : Int)), 
    (.int .i64 (1099511627776 : Int))] w7 (fun e9 w10 => ∃ r11 : Bool, e9 = .returned (.bool r11) ∧ ((!r11) = true → R (.returned (.bool false)) w10) ∧ 
    ((!r11) = false → ∃ No12 : Int, w10.cell? ⟨w.heap.size, 0 + 1, none⟩ = some (.int .i64 No12) ∧ Calls Try.prog 48 #[(.int .i64 No12), 
    (.int .i64 (1 : Int)), (.int .i64 (1099511627776 : Int))] w10 (fun e13 w14 => ∃ r15 : Bool, e13 = .returned (.bool r15) ∧ ((!r15) = true → 
    R (.returned (.bool false)) w14) ∧ ((!r15) = false → ∃ Era16 : Int, w14.cell? ⟨w.heap.size, 0 + 3, none⟩ = some (.int .i64 Era16) ∧ 
    Calls Try.prog 48 #[(.int .i64 Era16), (.int .i64 (1 : Int)), (.int .i64 (4294967295 : Int))] w14 (fun e17 w18 => ∃ r19 : Bool, 
    e17 = .returned (.bool r19) ∧ ((!r19) = true → R (.returned (.bool false)) w18) ∧ ((!r19) = false → ∃ Parts20 : Int, w18.cell? ⟨w.heap.size, 0 + 4, 
    none⟩ = some (.int .i64 Parts20) ∧ Calls Try.prog 48 #[(.int .i64 Parts20), (.int .i64 (1 : Int)), 
    (.int .i64 (64 : Int))] w18 (fun e21 w22 => ∃ r23 : Bool, e21 = .returned (.bool r23) ∧ ((!r23) = true → R (.returned (.bool false)) w22) ∧ 
    ((!r23) = false → ∃ Index24 : Int, w22.cell? ⟨w.heap.size, 0 + 2, none⟩ = some (.int .i64 Index24) ∧ ∃ Parts25 : Int, w22.cell? ⟨w.heap.size, 0 + 4, 
    none⟩ = some (.int .i64 Parts25) ∧ ∀ n26 : Int, n26 = (IntKind.wrap .i64 (Parts25 - (1 : Int))) → Calls Try.prog 48 #[(.int .i64 Index24), 
    (.int .i64 (0 : Int)), (.int .i64 n26)] w22 (fun e27 w28 => ∃ r29 : Bool, e27 = .returned (.bool r29) ∧ ((!r29) = true → 
    R (.returned (.bool false)) w28) ∧ ((!r29) = false → ∃ (Data30a : Option Addr) (Data30l Data30c : Nat), w28.cell? ⟨w.heap.size, 0 + 5, 
    none⟩ = some (.slice Data30a Data30l Data30c) ∧ ((((Data30l : Nat) : Int) == (198 : Int)) = true → R (.returned (.bool true)) w28) ∧ 
    ((((Data30l : Nat) : Int) == (198 : Int)) = false → ∃ Index31 : Int, w28.cell? ⟨w.heap.size, 0 + 2, none⟩ = some (.int .i64 Index31) ∧ 
    ∃ Parts32 : Int, w28.cell? ⟨w.heap.size, 0 + 4, none⟩ = some (.int .i64 Parts32) ∧ ∀ n33 : Int, n33 = (IntKind.wrap .i64 (Parts32 - (1 : Int))) → 
    ((Index31 == n33) = true → ∃ (Data34a : Option Addr) (Data34l Data34c : Nat), w28.cell? ⟨w.heap.size, 0 + 5, 
    none⟩ = some (.slice Data34a Data34l Data34c) ∧ Calls Try.prog 48 #[(.int .i64 ((Data34l : Nat) : Int)), (.int .i64 (1 : Int)), 
    (.int .i64 (198 : Int))] w28 (fun e35 w36 => ∃ r37 : Bool, e35 = .returned (.bool r37) ∧ R (.returned (.bool r37)) w36)) ∧ 
    ((Index31 == n33) = false → R (.returned (.bool false)) w28))))))))))))
theorem E_seg_may (p1 : Int) (p2 : Int) (p3 : Int) (p4 : Int) (p5 : Int) (p6a : Option Addr) (p6l p6c : Nat) (w : World) (R : Ending → World → Prop) : F_seg_may p1 p2 p3 p4 p5 p6a p6l p6c w R = fnVC Try.prog Try.f43 A_seg_may [(.agg #[(.int .i64 p1), (.int .i64 p2), (.int .i64 p3), (.int .i64 p4), (.int .i64 p5), (.slice p6a p6l p6c)])] w R := by kernel_rfl
theorem C_seg_may {p1 : Int} {p2 : Int} {p3 : Int} {p4 : Int} {p5 : Int} {p6a : Option Addr} {p6l p6c : Nat} {w : World} {R : Ending → World → Prop} (h : F_seg_may p1 p2 p3 p4 p5 p6a p6l p6c w R) : Calls Try.prog 43 #[(.agg #[(.int .i64 p1), (.int .i64 p2), (.int .i64 p3), (.int .i64 p4), (.int .i64 p5), (.slice p6a p6l p6c)])] w R := fnVC_calls Try.func43 (Eq.mp (E_seg_may p1 p2 p3 p4 p5 p6a p6l p6c w R) h)

/-! 44 (*pollard/log.Flush).work -/
def A_log_Flush_work : Ann := .keep [0] (.sh .ptr (.keep [0, 3] (.q 0 (.q 1 (.q 2 (.q 3 (.sh (.int .i64) (.q 4 (.q 5 (.q 6 (.q 7 (.q 8 (.sh (.int .i64) (.q 9 (.fin (.keep [0, 3, 
    20] (.split (.sh .ptr (.sh (.int .i64) (.keep [0, 4] (.keep [0, 4, 
    27] (.split (.sh .bool (.keep [2] (.done))) (.keep [0] (.keep [] (.keep [2] (.done))))))))) (.keep [0, 3] (.cut [] [0, 
    3] (.q 0 (.q 1 (.q 2 (.q 3 (.sh (.int .i64) (.q 4 (.q 5 (.q 6 (.q 7 (.sh .ptr (.alt 8 (.sh (.int .i64) (.q 9 (.q 10 (.fin (.keep [0, 3, 
    46] (.split (.sh .ptr (.sh (.int .i64) (.keep [0, 3, 5] (.keep [0, 3, 5, 
    53] (.split (.sh .bool (.keep [2] (.done))) (.done)))))) (.done))))))) .stop))))))))))) (.q 0 (.q 1 (.q 2 (.q 3 (.sh .ptr (.q 4 (.q 5 (.q 6 (.q 7 (.q 8 (.sh (.int .i64) (.alt 9 (.sh (.agg [(.int .i64), 
    (.int .i64), (.int .i64), (.int .i64), (.int .i64), .slc]) (.alt 10 (.sh (.int .i64) (.q 11 (.fin (.keep [0, 3, 6] (.keep [0, 3, 6, 
    69] (.split (.sh .bool (.keep [2] (.done))) (.keep [3] (.sh (.int .i64) (.keep [] (.keep [2] (.done))))))))))) .stop)) .stop)))))))))))))))))))))))))))))))
def F_log_Flush_work (a1 : Option Addr) (w : World) (R : Ending → World → Prop) : Prop :=
    ∃ b2 o3, a1 = some ⟨b2, o3, none⟩ ∧ ∃ l4 : Option Addr, w.cell? ⟨b2, o3, none⟩ = some (.pointer l4) ∧ ∃ b5 o6, l4 = some ⟨b5, o6, none⟩ ∧ 
    ∃ sent7 : Int, w.drew.cell? ⟨b5, o6 + 10, none⟩ = some (.int .i64 sent7) ∧ ∃ b8 o9, a1 = some ⟨b8, o9, none⟩ ∧ ∃ Place10 : Int, w.drew.cell? ⟨b8, 
    o9 + 2 + 1, none⟩ = some (.int .i64 Place10) ∧ ((decide (sent7 ≥ Place10)) = true → ∃ b11 o12, l4 = some ⟨b11, o12, none⟩ ∧ ∃ d13 : Option Addr, 
    w.drew.cell? ⟨b11, o12, none⟩ = some (.pointer d13) ∧ Calls Try.prog 49 #[(.pointer d13)] w.drew (fun e14 w15 => ∃ r16 : Int, 
    e14 = .returned (.int .i64 r16) ∧ ((r16 != (0 : Int)) = true → Calls Try.prog 45 #[(.pointer a1), (.int .i64 (0 : Int)), 
    (.int .i64 r16)] w15 (fun e17 w18 => ∃ r19 : Bool, e17 = .returned (.bool r19) ∧ R (.returned (.bool r19)) w18)) ∧ ((r16 != (0 : Int)) = false → 
    ∃ b20 o21, a1 = some ⟨b20, o21, none⟩ ∧ Wr w15 ⟨b20, o21 + 1, none⟩ ∧ ∀ w22, w22 = w15.setCell ⟨b20, o21 + 1, 
    none⟩ (.func (.func 50) #[(.pointer a1)] #[]) → R (.returned (.bool false)) w22))) ∧ ((decide (sent7 ≥ Place10)) = false → ∀ J23 : World → Prop, 
    (∀ (w24 : World), (∃ b25 o26, l4 = some ⟨b25, o26, none⟩ ∧ ∃ s27 : Option Addr, w24.drew.cell? ⟨b25, o26 + 1, none⟩ = some (.pointer s27) ∧ 
    ∃ b28 o29, l4 = some ⟨b28, o29, none⟩ ∧ ∃ sent30 : Int, w24.drew.cell? ⟨b28, o29 + 10, none⟩ = some (.int .i64 sent30) ∧ 
    Calls Try.prog 53 #[(.pointer l4), (.int .i64 sent30)] w24.drew (fun e31 w32 => ∃ r33 : Int, ∃ r34 : Int, ∃ r35 : Int, ∃ r36 : Int, ∃ r37 : Int, 
    ∃ (r38a : Option Addr) (r38l r38c : Nat), e31 = .returned (.agg #[(.int .i64 r33), (.int .i64 r34), (.int .i64 r35), (.int .i64 r36), 
    (.int .i64 r37), (.slice r38a r38l r38c)]) ∧ w32.cell? ⟨b25, o26 + 1, none⟩ = some (.pointer s27) ∧ Calls Try.prog 52 #[(.pointer s27), 
    (.agg #[(.int .i64 r33), (.int .i64 r34), (.int .i64 r35), (.int .i64 r36), (.int .i64 r37), 
    (.slice r38a r38l r38c)])] w32 (fun e39 w40 => ∃ r41 : Int, e39 = .returned (.int .i64 r41) ∧ ((r41 != (0 : Int)) = true → 
    Calls Try.prog 45 #[(.pointer a1), (.int .i64 (0 : Int)), (.int .i64 r41)] w40 (fun e42 w43 => ∃ r44 : Bool, e42 = .returned (.bool r44) ∧ 
    R (.returned (.bool r44)) w43)) ∧ ((r41 != (0 : Int)) = false → ∃ b45 o46, l4 = some ⟨b45, o46, none⟩ ∧ ∃ sent47 : Int, w40.cell? ⟨b45, o46 + 10, 
    none⟩ = some (.int .i64 sent47) ∧ ∀ n48 : Int, n48 = (IntKind.wrap .i64 (sent47 + (1 : Int))) → ∃ b49 o50, l4 = some ⟨b49, o50, none⟩ ∧ Wr w40 ⟨b49, 
    o50 + 10, none⟩ ∧ ∀ w51, w51 = w40.setCell ⟨b49, o50 + 10, none⟩ (.int .i64 n48) → R (.returned (.bool false)) w51)))) → J23  w24) → ∃ b52 o53, 
    l4 = some ⟨b52, o53, none⟩ ∧ ∃ sent54 : Int, w.drew.drew.cell? ⟨b52, o53 + 10, none⟩ = some (.int .i64 sent54) ∧ ∃ b55 o56, l4 = some ⟨b55, o56, 
    none⟩ ∧ ∃ s57 : Option Addr, w.drew.drew.cell? ⟨b55, o56 + 1, none⟩ = some (.pointer s57) ∧ 
    Calls Try.prog 15 #[(.pointer s57)] w.drew.drew (fun e58 w59 => ∃ r60 : Int, e58 = .returned (.int .i64 r60) ∧ w59.cell? ⟨b52, o53 + 10, 
    none⟩ = some (.int .i64 sent54) ∧ ∀ n61 : Int, n61 = (IntKind.wrap .i64 (r60 * (8 : Int))) → ((sent54 == n61) = true → ∃ b62 o63, l4 = some ⟨b62, 
    o63, none⟩ ∧ ∃ s64 : Option Addr, w59.cell? ⟨b62, o63 + 1, none⟩ = some (.pointer s64) ∧ 
    Calls Try.prog 51 #[(.pointer s64)] w59 (fun e65 w66 => ∃ r67 : Int, e65 = .returned (.int .i64 r67) ∧ ((r67 != (0 : Int)) = true → 
    Calls Try.prog 45 #[(.pointer a1), (.int .i64 (0 : Int)), (.int .i64 r67)] w66 (fun e68 w69 => ∃ r70 : Bool, e68 = .returned (.bool r70) ∧ 
    R (.returned (.bool r70)) w69)) ∧ ((r67 != (0 : Int)) = false → J23  w66))) ∧ ((sent54 == n61) = false → J23  w59)))
theorem E_log_Flush_work (a1 : Option Addr) (w : World) (R : Ending → World → Prop) : F_log_Flush_work a1 w R = fnVC Try.prog Try.f44 A_log_Flush_work [(.pointer a1)] w R := by kernel_rfl
theorem C_log_Flush_work {a1 : Option Addr} {w : World} {R : Ending → World → Prop} (h : F_log_Flush_work a1 w R) : Calls Try.prog 44 #[(.pointer a1)] w R := fnVC_calls Try.func44 (Eq.mp (E_log_Flush_work a1 w R) h)

/-! 45 (*pollard/log.Flush).end -/
def A_log_Flush_end : Ann := .keep [0, 1, 2] (.keep [] (.keep [6] (.done)))
def F_log_Flush_end (f1 : Option Addr) (n2 : Int) (e3 : Int) (w : World) (R : Ending → World → Prop) : Prop :=
    ∃ b4 o5, f1 = some ⟨b4, o5, none⟩ ∧ Wr w ⟨b4, o5 + 4, none⟩ ∧ ∀ w6, w6 = w.setCell ⟨b4, o5 + 4, none⟩ (.int .i64 n2) → ∃ b7 o8, f1 = some ⟨b7, o8, 
    none⟩ ∧ Wr w6 ⟨b7, o8 + 5, none⟩ ∧ ∀ w9, w9 = w6.setCell ⟨b7, o8 + 5, none⟩ (.int .i64 e3) → ∃ b10 o11, f1 = some ⟨b10, o11, none⟩ ∧ Wr w9 ⟨b10, 
    o11 + 1, none⟩ ∧ ∀ w12, w12 = w9.setCell ⟨b10, o11 + 1, none⟩ .nilFunc → R (.returned (.bool true)) w12
theorem E_log_Flush_end (f1 : Option Addr) (n2 : Int) (e3 : Int) (w : World) (R : Ending → World → Prop) : F_log_Flush_end f1 n2 e3 w R = fnVC Try.prog Try.f45 A_log_Flush_end [(.pointer f1), (.int .i64 n2), (.int .i64 e3)] w R := by kernel_rfl
theorem C_log_Flush_end {f1 : Option Addr} {n2 : Int} {e3 : Int} {w : World} {R : Ending → World → Prop} (h : F_log_Flush_end f1 n2 e3 w R) : Calls Try.prog 45 #[(.pointer f1), (.int .i64 n2), (.int .i64 e3)] w R := fnVC_calls Try.func45 (Eq.mp (E_log_Flush_end f1 n2 e3 w R) h)

/-! 46 (*pollard/seg.Segs).has -/
def A_seg_Segs_has : Ann := .keep [0, 1] (.sh (.int .i64) (.gsplit (.sh (.int .i64) (.keep [4] (.done))) (.keep [4] (.done))))
def F_seg_Segs_has (s1 : Option Addr) (place2 : Int) (w : World) (R : Ending → World → Prop) : Prop :=
    ∃ b3 o4, s1 = some ⟨b3, o4, none⟩ ∧ ∃ first5 : Int, w.cell? ⟨b3, o4 + 2, none⟩ = some (.int .i64 first5) ∧ ∀ n6 : Int, 
    n6 = (IntKind.wrap .i64 (first5 * (8 : Int))) → ((decide (place2 ≥ n6)) = true → ∃ b7 o8, s1 = some ⟨b7, o8, none⟩ ∧ ∃ vend9 : Int, w.cell? ⟨b7, 
    o8 + 3, none⟩ = some (.int .i64 vend9) ∧ ∀ n10 : Int, n10 = (IntKind.wrap .i64 (vend9 * (8 : Int))) → 
    R (.returned (.bool (decide (place2 < n10)))) w) ∧ ((decide (place2 ≥ n6)) = false → R (.returned (.bool false)) w)
theorem E_seg_Segs_has (s1 : Option Addr) (place2 : Int) (w : World) (R : Ending → World → Prop) : F_seg_Segs_has s1 place2 w R = fnVC Try.prog Try.f46 A_seg_Segs_has [(.pointer s1), (.int .i64 place2)] w R := by kernel_rfl
theorem C_seg_Segs_has {s1 : Option Addr} {place2 : Int} {w : World} {R : Ending → World → Prop} (h : F_seg_Segs_has s1 place2 w R) : Calls Try.prog 46 #[(.pointer s1), (.int .i64 place2)] w R := fnVC_calls Try.func46 (Eq.mp (E_seg_Segs_has s1 place2 w R) h)

/-! 47 (*pollard/seg.Segs).stands -/
def A_seg_Segs_stands : Ann := .keep [0, 1, 4] (.q 0 (.q 1 (.q 2 (.q 3 (.sh .ptr (.q 4 (.q 5 (.alt 6 (.sh (.int .i64) (.alt 7 (.sh (.tup [.slc, 
    (.int .i64)]) (.q 8 (.q 9 (.q 10 (.q 11 (.q 12 (.fin (.keep [1, 4, 6, 7] (.keep [1, 4, 6, 7, 21] (.split (.keep [4, 5] (.sh (.agg [(.int .i64), 
    (.int .i64), (.int .i64), (.int .i64), (.int .i64), .slc]) (.done))) (.keep [1, 4, 6] (.sh (.tup [(.agg [(.int .i64), (.int .i64), (.int .i64), 
    (.int .i64), (.int .i64), .slc]), (.int .i64)]) (.keep [1, 4, 7, 8] (.inl (.cut [(36, .bool)] [4, 
    8] (.gsplit (.done) (.sh (.int .i64) (.done))) (.split (.keep [4, 5] (.sh (.agg [(.int .i64), (.int .i64), (.int .i64), (.int .i64), (.int .i64), 
    .slc]) (.done))) (.keep [4, 8] (.sh (.agg [(.int .i64), (.int .i64), (.int .i64), (.int .i64), (.int .i64), .slc]) (.keep [4, 
    5] (.sh (.agg [(.int .i64), (.int .i64), (.int .i64), (.int .i64), (.int .i64), .slc]) (.done))))))))))))))))))))) .stop)) .stop))))))))
def F_seg_Segs_stands (s1 : Option Addr) (place2 : Int) (w : World) (R : Ending → World → Prop) : Prop :=
    ∀ w3, w3 = w.alloc (.cells #[(.int .i64 (0 : Int)), (.int .i64 (0 : Int)), (.int .i64 (0 : Int)), (.int .i64 (0 : Int)), (.int .i64 (0 : Int)), 
    (.slice none 0 0)] 87) → ∃ b4 o5, s1 = some ⟨b4, o5, none⟩ ∧ ∃ d6 : Option Addr, w3.drew.cell? ⟨b4, o5, none⟩ = some (.pointer d6) ∧ 
    Calls Try.prog 55 #[(.pointer s1), (.int .i64 place2)] w3.drew (fun e7 w8 => ∃ r9 : Int, e7 = .returned (.int .i64 r9) ∧ w8.cell? ⟨b4, o5, 
    none⟩ = some (.pointer d6) ∧ Calls Try.prog 54 #[(.pointer d6), (.int .i64 r9), 
    (.int .i64 (4 : Int))] w8 (fun e10 w11 => ∃ (r12a : Option Addr) (r12l r12c : Nat), ∃ r13 : Int, e10 = .returned (.tuple #[(.slice r12a r12l r12c), 
    (.int .i64 r13)]) ∧ ((r13 != (0 : Int)) = true → Wr w11 ⟨w.heap.size, 0, none⟩ ∧ ∀ w14, w14 = w11.setCell ⟨w.heap.size, 0, 
    none⟩ (.int .i64 (0 : Int)) → Wr w14 ⟨w.heap.size, 0 + 1, none⟩ ∧ ∀ w15, w15 = w14.setCell ⟨w.heap.size, 0 + 1, none⟩ (.int .i64 (0 : Int)) → 
    Wr w15 ⟨w.heap.size, 0 + 2, none⟩ ∧ ∀ w16, w16 = w15.setCell ⟨w.heap.size, 0 + 2, none⟩ (.int .i64 (0 : Int)) → Wr w16 ⟨w.heap.size, 0 + 3, none⟩ ∧ 
    ∀ w17, w17 = w16.setCell ⟨w.heap.size, 0 + 3, none⟩ (.int .i64 (0 : Int)) → Wr w17 ⟨w.heap.size, 0 + 4, none⟩ ∧ ∀ w18, 
    w18 = w17.setCell ⟨w.heap.size, 0 + 4, none⟩ (.int .i64 (0 : Int)) → Wr w18 ⟨w.heap.size, 0 + 5, none⟩ ∧ ∀ w19, w19 = w18.setCell ⟨w.heap.size, 
    0 + 5, none⟩ (.slice none 0 0) → ∃ r20 : Int, w19.cell? ⟨w.heap.size, 0, none⟩ = some (.int .i64 r20) ∧ ∃ r21 : Int, w19.cell? ⟨w.heap.size, 0 + 1, 
    none⟩ = some (.int .i64 r21) ∧ ∃ r22 : Int, w19.cell? ⟨w.heap.size, 0 + 2, none⟩ = some (.int .i64 r22) ∧ ∃ r23 : Int, w19.cell? ⟨w.heap.size, 0 + 3, 
    none⟩ = some (.int .i64 r23) ∧ ∃ r24 : Int, w19.cell? ⟨w.heap.size, 0 + 4, none⟩ = some (.int .i64 r24) ∧ ∃ (r25a : Option Addr) (r25l r25c : Nat), 
    w19.cell? ⟨w.heap.size, 0 + 5, none⟩ = some (.slice r25a r25l r25c) ∧ R (.returned (.tuple #[(.agg #[(.int .i64 r20), (.int .i64 r21), 
    (.int .i64 r22), (.int .i64 r23), (.int .i64 r24), (.slice r25a r25l r25c)]), (.int .i64 r13)])) w19) ∧ ((r13 != (0 : Int)) = false → 
    Calls Try.prog 56 #[(.slice r12a r12l r12c)] w11 (fun e26 w27 => ∃ r28 : Int, ∃ r29 : Int, ∃ r30 : Int, ∃ r31 : Int, ∃ r32 : Int, 
    ∃ (r33a : Option Addr) (r33l r33c : Nat), ∃ r34 : Int, e26 = .returned (.tuple #[(.agg #[(.int .i64 r28), (.int .i64 r29), (.int .i64 r30), 
    (.int .i64 r31), (.int .i64 r32), (.slice r33a r33l r33c)]), (.int .i64 r34)]) ∧ ∀ w35, w35 = w27.alloc (.cells #[(.int .i64 (0 : Int)), 
    (.int .i64 (0 : Int)), (.int .i64 (0 : Int)), (.int .i64 (0 : Int)), (.int .i64 (0 : Int)), (.slice none 0 0)] 87) → Wr w35 ⟨w27.heap.size, 0, 
    none⟩ ∧ ∀ w36, w36 = w35.setCell ⟨w27.heap.size, 0, none⟩ (.int .i64 r28) → Wr w36 ⟨w27.heap.size, 0 + 1, none⟩ ∧ ∀ w37, 
    w37 = w36.setCell ⟨w27.heap.size, 0 + 1, none⟩ (.int .i64 r29) → Wr w37 ⟨w27.heap.size, 0 + 2, none⟩ ∧ ∀ w38, w38 = w37.setCell ⟨w27.heap.size, 
    0 + 2, none⟩ (.int .i64 r30) → Wr w38 ⟨w27.heap.size, 0 + 3, none⟩ ∧ ∀ w39, w39 = w38.setCell ⟨w27.heap.size, 0 + 3, none⟩ (.int .i64 r31) → 
    Wr w39 ⟨w27.heap.size, 0 + 4, none⟩ ∧ ∀ w40, w40 = w39.setCell ⟨w27.heap.size, 0 + 4, none⟩ (.int .i64 r32) → Wr w40 ⟨w27.heap.size, 0 + 5, none⟩ ∧ 
    ∀ w41, w41 = w40.setCell ⟨w27.heap.size, 0 + 5, none⟩ (.slice r33a r33l r33c) → ∀ J42 : Bool → World → Prop, (∀ (x43 : Bool) (w44 : World), 
    ((x43 = true → Wr w44 ⟨w.heap.size, 0, none⟩ ∧ ∀ w45, w45 = w44.setCell ⟨w.heap.size, 0, none⟩ (.int .i64 (0 : Int)) → Wr w45 ⟨w.heap.size, 0 + 1, 
    none⟩ ∧ ∀ w46, w46 = w45.setCell ⟨w.heap.size, 0 + 1, none⟩ (.int .i64 (0 : Int)) → Wr w46 ⟨w.heap.size, 0 + 2, none⟩ ∧ ∀ w47, 
    w47 = w46.setCell ⟨w.heap.size, 0 + 2, none⟩ (.int .i64 (0 : Int)) → Wr w47 ⟨w.heap.size, 0 + 3, none⟩ ∧ ∀ w48, w48 = w47.setCell ⟨w.heap.size, 
    0 + 3, none⟩ (.int .i64 (0 : Int)) → Wr w48 ⟨w.heap.size, 0 + 4, none⟩ ∧ ∀ w49, w49 = w48.setCell ⟨w.heap.size, 0 + 4, none⟩ (.int .i64 (0 : Int)) → 
    Wr w49 ⟨w.heap.size, 0 + 5, none⟩ ∧ ∀ w50, w50 = w49.setCell ⟨w.heap.size, 0 + 5, none⟩ (.slice none 0 0) → ∃ r51 : Int, w50.cell? ⟨w.heap.size, 0, 
    none⟩ = some (.int .i64 r51) ∧ ∃ r52 : Int, w50.cell? ⟨w.heap.size, 0 + 1, none⟩ = some (.int .i64 r52) ∧ ∃ r53 : Int, w50.cell? ⟨w.heap.size, 0 + 2, 
    none⟩ = some (.int .i64 r53) ∧ ∃ r54 : Int, w50.cell? ⟨w.heap.size, 0 + 3, none⟩ = some (.int .i64 r54) ∧ ∃ r55 : Int, w50.cell? ⟨w.heap.size, 0 + 4, 
    none⟩ = some (.int .i64 r55) ∧ ∃ (r56a : Option Addr) (r56l r56c : Nat), w50.cell? ⟨w.heap.size, 0 + 5, none⟩ = some (.slice r56a r56l r56c) ∧ 
    R (.returned (.tuple #[(.agg #[(.int .i64 r51), (.int .i64 r52), (.int .i64 r53), (.int .i64 r54), (.int .i64 r55), (.slice r56a r56l r56c)]), 
    (.int .i64 (70 : Int))])) w50) ∧ (x43 = false → ∃ n63 : Int, w44.cell? ⟨w27.heap.size, 0, none⟩ = some (.int .i64 n63) ∧ ∃ n64 : Int, 
    w44.cell? ⟨w27.heap.size, 0 + 1, none⟩ = some (.int .i64 n64) ∧ ∃ n65 : Int, w44.cell? ⟨w27.heap.size, 0 + 2, none⟩ = some (.int .i64 n65) ∧ 
    ∃ n66 : Int, w44.cell? ⟨w27.heap.size, 0 + 3, none⟩ = some (.int .i64 n66) ∧ ∃ n67 : Int, w44.cell? ⟨w27.heap.size, 0 + 4, 
    none⟩ = some (.int .i64 n67) ∧ ∃ (s68a : Option Addr) (s68l s68c : Nat), w44.cell? ⟨w27.heap.size, 0 + 5, none⟩ = some (.slice s68a s68l s68c) ∧ 
    Wr w44 ⟨w.heap.size, 0, none⟩ ∧ ∀ w69, w69 = w44.setCell ⟨w.heap.size, 0, none⟩ (.int .i64 n63) → Wr w69 ⟨w.heap.size, 0 + 1, none⟩ ∧ ∀ w70, 
    w70 = w69.setCell ⟨w.heap.size, 0 + 1, none⟩ (.int .i64 n64) → Wr w70 ⟨w.heap.size, 0 + 2, none⟩ ∧ ∀ w71, w71 = w70.setCell ⟨w.heap.size, 0 + 2, 
    none⟩ (.int .i64 n65) → Wr w71 ⟨w.heap.size, 0 + 3, none⟩ ∧ ∀ w72, w72 = w71.setCell ⟨w.heap.size, 0 + 3, none⟩ (.int .i64 n66) → 
    Wr w72 ⟨w.heap.size, 0 + 4, none⟩ ∧ ∀ w73, w73 = w72.setCell ⟨w.heap.size, 0 + 4, none⟩ (.int .i64 n67) → Wr w73 ⟨w.heap.size, 0 + 5, none⟩ ∧ ∀ w74, 
    w74 = w73.setCell ⟨w.heap.size, 0 + 5, none⟩ (.slice s68a s68l s68c) → ∃ r75 : Int, w74.cell? ⟨w.heap.size, 0, none⟩ = some (.int .i64 r75) ∧ 
    ∃ r76 : Int, w74.cell? ⟨w.heap.size, 0 + 1, none⟩ = some (.int .i64 r76) ∧ ∃ r77 : Int, w74.cell? ⟨w.heap.size, 0 + 2, none⟩ = some (.int .i64 r77) ∧ 
    ∃ r78 : Int, w74.cell? ⟨w.heap.size, 0 + 3, none⟩ = some (.int .i64 r78) ∧ ∃ r79 : Int, w74.cell? ⟨w.heap.size, 0 + 4, none⟩ = some (.int .i64 r79) ∧ 
    ∃ (r80a : Option Addr) (r80l r80c : Nat), w74.cell? ⟨w.heap.size, 0 + 5, none⟩ = some (.slice r80a r80l r80c) ∧ 
    R (.returned (.tuple #[(.agg #[(.int .i64 r75), (.int .i64 r76), (.int .i64 r77), (.int .i64 r78), (.int .i64 r79), (.slice r80a r80l r80c)]), 
    (.int .i64 (0 : Int))])) w74)) → J42 x43 w44) → ((r34 != (0 : Int)) = true → J42 true w41) ∧ ((r34 != (0 : Int)) = false → ∃ Place81 : Int, 
    w41.cell? ⟨w27.heap.size, 0, none⟩ = some (.int .i64 Place81) ∧ J42 (Place81 != place2) w41)))))
theorem E_seg_Segs_stands (s1 : Option Addr) (place2 : Int) (w : World) (R : Ending → World → Prop) : F_seg_Segs_stands s1 place2 w R = fnVC Try.prog Try.f47 A_seg_Segs_stands [(.pointer s1), (.int .i64 place2)] w R := by kernel_rfl
theorem C_seg_Segs_stands {s1 : Option Addr} {place2 : Int} {w : World} {R : Ending → World → Prop} (h : F_seg_Segs_stands s1 place2 w R) : Calls Try.prog 47 #[(.pointer s1), (.int .i64 place2)] w R := fnVC_calls Try.func47 (Eq.mp (E_seg_Segs_stands s1 place2 w R) h)

/-! 48 pollard/seg.may$1 -/
def A_seg_may_lit1 : Ann := .keep [0, 1, 2] (.gsplit (.keep [6] (.done)) (.keep [6] (.done)))
def F_seg_may_lit1 (n1 : Int) (least2 : Int) (most3 : Int) (w : World) (R : Ending → World → Prop) : Prop :=
    ((decide (n1 ≥ least2)) = true → R (.returned (.bool (decide (n1 ≤ most3)))) w) ∧ ((decide (n1 ≥ least2)) = false → R (.returned (.bool false)) w)
theorem E_seg_may_lit1 (n1 : Int) (least2 : Int) (most3 : Int) (w : World) (R : Ending → World → Prop) : F_seg_may_lit1 n1 least2 most3 w R = fnVC Try.prog Try.f48 A_seg_may_lit1 [(.int .i64 n1), (.int .i64 least2), (.int .i64 most3)] w R := by kernel_rfl
theorem C_seg_may_lit1 {n1 : Int} {least2 : Int} {most3 : Int} {w : World} {R : Ending → World → Prop} (h : F_seg_may_lit1 n1 least2 most3 w R) : Calls Try.prog 48 #[(.int .i64 n1), (.int .i64 least2), (.int .i64 most3)] w R := fnVC_calls Try.func48 (Eq.mp (E_seg_may_lit1 n1 least2 most3 w R) h)

/-! 49 (*pollard/disk.Disk).Sync -/
def A_disk_Disk_Sync : Ann := .keep [0] (.sh .bool (.keep [0, 
    6] (.split (.keep [2] (.done)) (.keep [0] (.q 0 (.q 1 (.q 2 (.q 3 (.sh .slc (.q 4 (.q 5 (.q 6 (.q 7 (.sh .slc (.alt 8 (.sh (.int .i64) (.fin (.keep [0] (.keep [0] (.sh (.int .i64) (.keep [] (.keep [2] (.done)))))))) .stop)))))))))))))))
def F_disk_Disk_Sync (d1 : Option Addr) (w : World) (R : Ending → World → Prop) : Prop :=
    ∃ b2 o3, d1 = some ⟨b2, o3, none⟩ ∧ ∃ off4 : Bool, w.cell? ⟨b2, o3 + 4, none⟩ = some (.bool off4) ∧ (off4 = true → 
    R (.returned (.int .i64 (4 : Int))) w) ∧ (off4 = false → ∃ b5 o6, d1 = some ⟨b5, o6, none⟩ ∧ ∃ (platter7a : Option Addr) (platter7l platter7c : Nat), 
    w.drew.cell? ⟨b5, o6, none⟩ = some (.slice platter7a platter7l platter7c) ∧ ∃ b8 o9, d1 = some ⟨b8, o9, none⟩ ∧ 
    ∃ (now10a : Option Addr) (now10l now10c : Nat), w.drew.cell? ⟨b8, o9 + 1, none⟩ = some (.slice now10a now10l now10c) ∧ ∃ n11 : Int, ∃ w12, 
    Sem.run Try.prog (Builtin.copy_ #[47, 47] 3 #[(.slice platter7a platter7l platter7c), 
    (.slice now10a now10l now10c)]) w.drew = .ok (.int .i64 n11) w12 ∧ ∃ b13 o14, d1 = some ⟨b13, o14, none⟩ ∧ Wr w12 ⟨b13, o14 + 2, none⟩ ∧ ∀ w15, 
    w15 = w12.setCell ⟨b13, o14 + 2, none⟩ (.slice none 0 0) → ∃ b16 o17, d1 = some ⟨b16, o17, none⟩ ∧ ∃ syncs18 : Int, w15.cell? ⟨b16, o17 + 6, 
    none⟩ = some (.int .i64 syncs18) ∧ ∀ n19 : Int, n19 = (IntKind.wrap .i64 (syncs18 + (1 : Int))) → ∃ b20 o21, d1 = some ⟨b20, o21, none⟩ ∧ 
    Wr w15 ⟨b20, o21 + 6, none⟩ ∧ ∀ w22, w22 = w15.setCell ⟨b20, o21 + 6, none⟩ (.int .i64 n19) → R (.returned (.int .i64 (0 : Int))) w22)
theorem E_disk_Disk_Sync (d1 : Option Addr) (w : World) (R : Ending → World → Prop) : F_disk_Disk_Sync d1 w R = fnVC Try.prog Try.f49 A_disk_Disk_Sync [(.pointer d1)] w R := by kernel_rfl
theorem C_disk_Disk_Sync {d1 : Option Addr} {w : World} {R : Ending → World → Prop} (h : F_disk_Disk_Sync d1 w R) : Calls Try.prog 49 #[(.pointer d1)] w R := fnVC_calls Try.func49 (Eq.mp (E_disk_Disk_Sync d1 w R) h)

/-! 50 (*pollard/log.Flush).stays -/
def A_log_Flush_stays : Ann := .keep [0] (.sh .ptr (.keep [0, 
    3] (.q 0 (.q 1 (.q 2 (.q 3 (.q 4 (.sh (.int .i64) (.q 5 (.q 6 (.q 7 (.q 8 (.sh (.int .i64) (.q 9 (.q 10 (.q 11 (.fin (.keep [0, 3, 
    4] (.q 0 (.q 1 (.q 2 (.q 3 (.q 4 (.sh (.int .i64) (.q 5 (.q 6 (.q 7 (.q 8 (.q 9 (.sh (.int .i64) (.q 10 (.q 11 (.q 12 (.alt 13 (.fin (.keep [0, 3, 
    4] (.sh .nil (.keep [0, 3] (.sh (.int .i64) (.sh .bool (.keep [2] (.done)))))))) .stop))))))))))))))))))))))))))))))))))
def F_log_Flush_stays (f1 : Option Addr) (w : World) (R : Ending → World → Prop) : Prop :=
    ∃ b2 o3, f1 = some ⟨b2, o3, none⟩ ∧ ∃ l4 : Option Addr, w.cell? ⟨b2, o3, none⟩ = some (.pointer l4) ∧ ∃ b5 o6, l4 = some ⟨b5, o6, none⟩ ∧ 
    ∃ No7 : Int, w.drew.cell? ⟨b5, o6 + 7, none⟩ = some (.int .i64 No7) ∧ ∃ b8 o9, l4 = some ⟨b8, o9, none⟩ ∧ ∃ written10 : Int, w.drew.cell? ⟨b8, 
    o9 + 9, none⟩ = some (.int .i64 written10) ∧ ∀ n11 : Int, n11 = (IntKind.wrap .i64 ((if written10 < No7 then written10 else No7) + (1 : Int))) → 
    ∃ b12 o13, l4 = some ⟨b12, o13, none⟩ ∧ ∃ written14 : Int, w.drew.drew.cell? ⟨b12, o13 + 9, none⟩ = some (.int .i64 written14) ∧ ∃ b15 o16, 
    f1 = some ⟨b15, o16, none⟩ ∧ ∃ No17 : Int, w.drew.drew.cell? ⟨b15, o16 + 2, none⟩ = some (.int .i64 No17) ∧ ∃ b18 o19, l4 = some ⟨b18, o19, none⟩ ∧ 
    Wr w.drew.drew ⟨b18, o19 + 9, none⟩ ∧ ∀ w20, w20 = w.drew.drew.setCell ⟨b18, o19 + 9, 
    none⟩ (.int .i64 (if No17 > written14 then No17 else written14)) → Calls Try.prog 38 #[(.pointer l4), 
    (.int .i64 n11)] w20 (fun e21 w22 => e21 = .returned (.tuple #[]) ∧ ∃ b23 o24, l4 = some ⟨b23, o24, none⟩ ∧ ∃ written25 : Int, w22.cell? ⟨b23, 
    o24 + 9, none⟩ = some (.int .i64 written25) ∧ Calls Try.prog 45 #[(.pointer f1), (.int .i64 written25), 
    (.int .i64 (0 : Int))] w22 (fun e26 w27 => ∃ r28 : Bool, e26 = .returned (.bool r28) ∧ R (.returned (.bool r28)) w27))
theorem E_log_Flush_stays (f1 : Option Addr) (w : World) (R : Ending → World → Prop) : F_log_Flush_stays f1 w R = fnVC Try.prog Try.f50 A_log_Flush_stays [(.pointer f1)] w R := by kernel_rfl
theorem C_log_Flush_stays {f1 : Option Addr} {w : World} {R : Ending → World → Prop} (h : F_log_Flush_stays f1 w R) : Calls Try.prog 50 #[(.pointer f1)] w R := fnVC_calls Try.func50 (Eq.mp (E_log_Flush_stays f1 w R) h)

/-! 51 (*pollard/seg.Segs).Grow -/
def A_seg_Segs_Grow : Ann := .keep [0] (.q 0 (.q 2 (.q 3 (.q 4 (.q 5 (.sh (.int .i64) (.alt 1 (.sh (.int .i64) (.q 6 (.fin (.keep [0, 
    9] (.split (.keep [2] (.done)) (.keep [0] (.sh (.int .i64) (.keep [] (.keep [2] (.done)))))))))) .stop)))))))
def F_seg_Segs_Grow (s1 : Option Addr) (w : World) (R : Ending → World → Prop) : Prop :=
    ∃ b2 o3, s1 = some ⟨b2, o3, none⟩ ∧ ∃ slots4 : Int, w.drew.cell? ⟨b2, o3 + 1, none⟩ = some (.int .i64 slots4) ∧ 
    Calls Try.prog 57 #[(.pointer s1)] w.drew (fun e5 w6 => ∃ r7 : Int, e5 = .returned (.int .i64 r7) ∧ w6.cell? ⟨b2, o3 + 1, 
    none⟩ = some (.int .i64 slots4) ∧ ((r7 == slots4) = true → R (.returned (.int .i64 (3 : Int))) w6) ∧ ((r7 == slots4) = false → ∃ b8 o9, 
    s1 = some ⟨b8, o9, none⟩ ∧ ∃ vend10 : Int, w6.cell? ⟨b8, o9 + 3, none⟩ = some (.int .i64 vend10) ∧ ∀ n11 : Int, 
    n11 = (IntKind.wrap .i64 (vend10 + (1 : Int))) → ∃ b12 o13, s1 = some ⟨b12, o13, none⟩ ∧ Wr w6 ⟨b12, o13 + 3, none⟩ ∧ ∀ w14, w14 = w6.setCell ⟨b12, 
    o13 + 3, none⟩ (.int .i64 n11) → R (.returned (.int .i64 (0 : Int))) w14))
theorem E_seg_Segs_Grow (s1 : Option Addr) (w : World) (R : Ending → World → Prop) : F_seg_Segs_Grow s1 w R = fnVC Try.prog Try.f51 A_seg_Segs_Grow [(.pointer s1)] w R := by kernel_rfl
theorem C_seg_Segs_Grow {s1 : Option Addr} {w : World} {R : Ending → World → Prop} (h : F_seg_Segs_Grow s1 w R) : Calls Try.prog 51 #[(.pointer s1)] w R := fnVC_calls Try.func51 (Eq.mp (E_seg_Segs_Grow s1 w R) h)

/-! 52 (*pollard/seg.Segs).Write -/
def A_seg_Segs_Write : Ann := .keep [0, 3] (.sh (.agg [(.int .i64), (.int .i64), (.int .i64), (.int .i64), (.int .i64), .slc]) (.sh (.tup [.slc, (.int .i64)]) (.keep [0, 3, 5, 
    6] (.keep [0, 3, 5, 6, 12] (.split (.keep [4] (.done)) (.sh (.int .i64) (.sh .bool (.keep [0, 3, 5, 16] (.split (.keep [4] (.done)) (.keep [0, 3, 
    5] (.q 0 (.q 1 (.q 2 (.q 3 (.sh .ptr (.q 4 (.q 5 (.q 6 (.sh (.int .i64) (.q 8 (.alt 7 (.sh (.int .i64) (.alt 9 (.sh (.int .i64) (.q 10 (.fin (.keep [4] (.done))))) .stop)) .stop)))))))))))))))))))))
def F_seg_Segs_Write (s1 : Option Addr) (p2 : Int) (p3 : Int) (p4 : Int) (p5 : Int) (p6 : Int) (p7a : Option Addr) (p7l p7c : Nat) (w : World) (R : Ending → World → Prop) : Prop :=
    ∀ w8, w8 = w.alloc (.cells #[(.int .i64 p2), (.int .i64 p3), (.int .i64 p4), (.int .i64 p5), (.int .i64 p6), (.slice p7a p7l p7c)] 87) → ∃ n15 : Int, 
    w8.cell? ⟨w.heap.size, 0, none⟩ = some (.int .i64 n15) ∧ ∃ n16 : Int, w8.cell? ⟨w.heap.size, 0 + 1, none⟩ = some (.int .i64 n16) ∧ ∃ n17 : Int, 
    w8.cell? ⟨w.heap.size, 0 + 2, none⟩ = some (.int .i64 n17) ∧ ∃ n18 : Int, w8.cell? ⟨w.heap.size, 0 + 3, none⟩ = some (.int .i64 n18) ∧ ∃ n19 : Int, 
    w8.cell? ⟨w.heap.size, 0 + 4, none⟩ = some (.int .i64 n19) ∧ ∃ (s20a : Option Addr) (s20l s20c : Nat), w8.cell? ⟨w.heap.size, 0 + 5, 
    none⟩ = some (.slice s20a s20l s20c) ∧ Calls Try.prog 58 #[(.agg #[(.int .i64 n15), (.int .i64 n16), (.int .i64 n17), (.int .i64 n18), 
    (.int .i64 n19), (.slice s20a s20l s20c)])] w8 (fun e21 w22 => ∃ (r23a : Option Addr) (r23l r23c : Nat), ∃ r24 : Int, 
    e21 = .returned (.tuple #[(.slice r23a r23l r23c), (.int .i64 r24)]) ∧ ((r24 != (0 : Int)) = true → R (.returned (.int .i64 r24)) w22) ∧ 
    ((r24 != (0 : Int)) = false → ∃ Place25 : Int, w22.cell? ⟨w.heap.size, 0, none⟩ = some (.int .i64 Place25) ∧ Calls Try.prog 46 #[(.pointer s1), 
    (.int .i64 Place25)] w22 (fun e26 w27 => ∃ r28 : Bool, e26 = .returned (.bool r28) ∧ ((!r28) = true → R (.returned (.int .i64 (1 : Int))) w27) ∧ 
    ((!r28) = false → ∃ b29 o30, s1 = some ⟨b29, o30, none⟩ ∧ ∃ d31 : Option Addr, w27.drew.cell? ⟨b29, o30, none⟩ = some (.pointer d31) ∧ 
    ∃ Place32 : Int, w27.drew.cell? ⟨w.heap.size, 0, none⟩ = some (.int .i64 Place32) ∧ Calls Try.prog 55 #[(.pointer s1), 
    (.int .i64 Place32)] w27.drew (fun e33 w34 => ∃ r35 : Int, e33 = .returned (.int .i64 r35) ∧ w34.cell? ⟨b29, o30, none⟩ = some (.pointer d31) ∧ 
    Calls Try.prog 59 #[(.pointer d31), (.int .i64 r35), (.slice r23a r23l r23c)] w34 (fun e36 w37 => ∃ r38 : Int, e36 = .returned (.int .i64 r38) ∧ 
    R (.returned (.int .i64 r38)) w37))))))
theorem E_seg_Segs_Write (s1 : Option Addr) (p2 : Int) (p3 : Int) (p4 : Int) (p5 : Int) (p6 : Int) (p7a : Option Addr) (p7l p7c : Nat) (w : World) (R : Ending → World → Prop) : F_seg_Segs_Write s1 p2 p3 p4 p5 p6 p7a p7l p7c w R = fnVC Try.prog Try.f52 A_seg_Segs_Write [(.pointer s1), (.agg #[(.int .i64 p2), (.int .i64 p3), (.int .i64 p4), (.int .i64 p5), (.int .i64 p6), (.slice p7a p7l p7c)])] w R := by kernel_rfl
theorem C_seg_Segs_Write {s1 : Option Addr} {p2 : Int} {p3 : Int} {p4 : Int} {p5 : Int} {p6 : Int} {p7a : Option Addr} {p7l p7c : Nat} {w : World} {R : Ending → World → Prop} (h : F_seg_Segs_Write s1 p2 p3 p4 p5 p6 p7a p7l p7c w R) : Calls Try.prog 52 #[(.pointer s1), (.agg #[(.int .i64 p2), (.int .i64 p3), (.int .i64 p4), (.int .i64 p5), (.int .i64 p6), (.slice p7a p7l p7c)])] w R := fnVC_calls Try.func52 (Eq.mp (E_seg_Segs_Write s1 p2 p3 p4 p5 p6 p7a p7l p7c w R) h)

/-! 53 (*pollard/log.Log).block -/
def A_log_Log_block : Ann := .keep [0, 1, 4] (.sh .map (.sh .ptr (.keep [1, 4, 
    5] (.q 0 (.q 1 (.q 2 (.q 3 (.sh .slc (.q 4 (.q 5 (.q 6 (.q 7 (.q 8 (.sh (.int .i64) (.q 9 (.q 10 (.q 11 (.sh (.agg [(.int .i64), (.int .i64), 
    (.int .i64), (.int .i64), (.int .i64), .slc]) (.alt 12 (.fin (.keep [4] (.sh (.agg [(.int .i64), (.int .i64), (.int .i64), (.int .i64), (.int .i64), 
    .slc]) (.done)))) .stop)))))))))))))))))))
def F_log_Log_block (l1 : Option Addr) (place2 : Int) (w : World) (R : Ending → World → Prop) : Prop :=
    ∀ w3, w3 = w.alloc (.cells #[(.int .i64 (0 : Int)), (.int .i64 (0 : Int)), (.int .i64 (0 : Int)), (.int .i64 (0 : Int)), (.int .i64 (0 : Int)), 
    (.slice none 0 0)] 87) → ∃ b4 o5, l1 = some ⟨b4, o5, none⟩ ∧ ∃ vat6 : Option Nat, w3.cell? ⟨b4, o5 + 4, none⟩ = some (.map vat6) ∧ 
    ∃ p7 : Option Addr, Sem.run Try.prog (Instr.lookup 75 (.map vat6) (.int .i64 place2) false) w3 = .ok (.pointer p7) w3 ∧ ∃ b8 o9, p7 = some ⟨b8, o9, 
    none⟩ ∧ ∃ (parts10a : Option Addr) (parts10l parts10c : Nat), w3.drew.cell? ⟨b8, o9 + 4, none⟩ = some (.slice parts10a parts10l parts10c) ∧ 
    ∃ b11 o12, p7 = some ⟨b11, o12, none⟩ ∧ ∃ place13 : Int, w3.drew.cell? ⟨b11, o12 + 2, none⟩ = some (.int .i64 place13) ∧ ∀ n14 : Int, 
    n14 = (IntKind.wrap .i64 (place2 - place13)) → ∃ b15 o16, parts10a = some ⟨b15, o16, none⟩ ∧ 0 ≤ n14 ∧ n14 < ((parts10l : Nat) : Int) ∧ ∃ n23 : Int, 
    w3.drew.cell? ⟨b15, o16 + Int.toNat n14 * 6, none⟩ = some (.int .i64 n23) ∧ ∃ n24 : Int, w3.drew.cell? ⟨b15, o16 + Int.toNat n14 * 6 + 1, 
    none⟩ = some (.int .i64 n24) ∧ ∃ n25 : Int, w3.drew.cell? ⟨b15, o16 + Int.toNat n14 * 6 + 2, none⟩ = some (.int .i64 n25) ∧ ∃ n26 : Int, 
    w3.drew.cell? ⟨b15, o16 + Int.toNat n14 * 6 + 3, none⟩ = some (.int .i64 n26) ∧ ∃ n27 : Int, w3.drew.cell? ⟨b15, o16 + Int.toNat n14 * 6 + 4, 
    none⟩ = some (.int .i64 n27) ∧ ∃ (s28a : Option Addr) (s28l s28c : Nat), w3.drew.cell? ⟨b15, o16 + Int.toNat n14 * 6 + 5, 
    none⟩ = some (.slice s28a s28l s28c) ∧ Wr w3.drew ⟨w.heap.size, 0, none⟩ ∧ ∀ w29, w29 = w3.drew.setCell ⟨w.heap.size, 0, none⟩ (.int .i64 n23) → 
    Wr w29 ⟨w.heap.size, 0 + 1, none⟩ ∧ ∀ w30, w30 = w29.setCell ⟨w.heap.size, 0 + 1, none⟩ (.int .i64 n24) → Wr w30 ⟨w.heap.size, 0 + 2, none⟩ ∧ ∀ w31, 
    w31 = w30.setCell ⟨w.heap.size, 0 + 2, none⟩ (.int .i64 n25) → Wr w31 ⟨w.heap.size, 0 + 3, none⟩ ∧ ∀ w32, w32 = w31.setCell ⟨w.heap.size, 0 + 3, 
    none⟩ (.int .i64 n26) → Wr w32 ⟨w.heap.size, 0 + 4, none⟩ ∧ ∀ w33, w33 = w32.setCell ⟨w.heap.size, 0 + 4, none⟩ (.int .i64 n27) → 
    Wr w33 ⟨w.heap.size, 0 + 5, none⟩ ∧ ∀ w34, w34 = w33.setCell ⟨w.heap.size, 0 + 5, none⟩ (.slice s28a s28l s28c) → ∃ r35 : Int, 
    w34.cell? ⟨w.heap.size, 0, none⟩ = some (.int .i64 r35) ∧ ∃ r36 : Int, w34.cell? ⟨w.heap.size, 0 + 1, none⟩ = some (.int .i64 r36) ∧ ∃ r37 : Int, 
    w34.cell? ⟨w.heap.size, 0 + 2, none⟩ = some (.int .i64 r37) ∧ ∃ r38 : Int, w34.cell? ⟨w.heap.size, 0 + 3, none⟩ = some (.int .i64 r38) ∧ ∃ r39 : Int, 
    w34.cell? ⟨w.heap.size, 0 + 4, none⟩ = some (.int .i64 r39) ∧ ∃ (r40a : Option Addr) (r40l r40c : Nat), w34.cell? ⟨w.heap.size, 0 + 5, 
    none⟩ = some (.slice r40a r40l r40c) ∧ R (.returned (.agg #[(.int .i64 r35), (.int .i64 r36), (.int .i64 r37), (.int .i64 r38), (.int .i64 r39), 
    (.slice r40a r40l r40c)])) w34
theorem E_log_Log_block (l1 : Option Addr) (place2 : Int) (w : World) (R : Ending → World → Prop) : F_log_Log_block l1 place2 w R = fnVC Try.prog Try.f53 A_log_Log_block [(.pointer l1), (.int .i64 place2)] w R := by kernel_rfl
theorem C_log_Log_block {l1 : Option Addr} {place2 : Int} {w : World} {R : Ending → World → Prop} (h : F_log_Log_block l1 place2 w R) : Calls Try.prog 53 #[(.pointer l1), (.int .i64 place2)] w R := fnVC_calls Try.func53 (Eq.mp (E_log_Log_block l1 place2 w R) h)

/-! 54 (*pollard/disk.Disk).Read -/
def A_disk_Disk_Read : Ann := .keep [0, 1, 2] (.sh .bool (.keep [0, 1, 2, 9] (.split (.keep [6, 7] (.done)) (.cut [(14, .bool)] [0, 1, 
    2] (.gsplit (.known true (.done)) (.gsplit (.done) (.sh .bool (.done)))) (.split (.keep [6, 7] (.done)) (.keep [0, 1, 2, 28] (.split (.keep [6, 
    7] (.done)) (.keep [0, 1, 2] (.sh .slc (.keep [0, 1, 8] (.sh .slc (.sh (.int .i64) (.keep [8] (.keep [6, 7] (.done)))))))))))))))
def F_disk_Disk_Read (d1 : Option Addr) (vat2 : Int) (many3 : Int) (w : World) (R : Ending → World → Prop) : Prop :=
    ∃ b4 o5, d1 = some ⟨b4, o5, none⟩ ∧ ∃ off6 : Bool, w.cell? ⟨b4, o5 + 4, none⟩ = some (.bool off6) ∧ (off6 = true → 
    R (.returned (.tuple #[(.slice none 0 0), (.int .i64 (4 : Int))])) w) ∧ (off6 = false → ∀ J7 : Bool → World → Prop, (∀ (x8 : Bool) (w9 : World), 
    ((x8 = true → R (.returned (.tuple #[(.slice none 0 0), (.int .i64 (1 : Int))])) w9) ∧ (x8 = false → ((many3 == (0 : Int)) = true → 
    R (.returned (.tuple #[(.slice none 0 0), (.int .i64 (0 : Int))])) w9) ∧ ((many3 == (0 : Int)) = false → ∀ n10 : Int, 
    n10 = (IntKind.wrap .i64 (many3 * (64 : Int))) → ∃ (s11a : Option Addr) (s11l s11c : Nat), ∃ w12, 
    Sem.run Try.prog (Instr.makeSlice 47 (.int .i64 n10) (.int .i64 n10)) w9 = .ok (.slice s11a s11l s11c) w12 ∧ ∃ b13 o14, d1 = some ⟨b13, o14, none⟩ ∧ 
    ∃ (now15a : Option Addr) (now15l now15c : Nat), w12.cell? ⟨b13, o14 + 1, none⟩ = some (.slice now15a now15l now15c) ∧ ∀ n16 : Int, 
    n16 = (IntKind.wrap .i64 (vat2 * (64 : Int))) → 0 ≤ n16 ∧ n16 ≤ ((now15l : Nat) : Int) ∧ ∃ n17 : Int, ∃ w18, Sem.run Try.prog (Builtin.copy_ #[47, 
    47] 3 #[(.slice s11a s11l s11c), 
    (.slice (cutBase now15a (Int.toNat n16) now15c 1) (now15l - (Int.toNat n16)) (now15c - (Int.toNat n16)))]) w12 = .ok (.int .i64 n17) w18 ∧ 
    R (.returned (.tuple #[(.slice s11a s11l s11c), (.int .i64 (0 : Int))])) w18))) → J7 x8 w9) → ((decide (vat2 < (0 : Int))) = true → J7 true w) ∧ 
    ((decide (vat2 < (0 : Int))) = false → ((decide (many3 < (0 : Int))) = true → J7 true w) ∧ ((decide (many3 < (0 : Int))) = false → 
    Calls Try.prog 60 #[(.pointer d1), (.int .i64 vat2), (.int .i64 many3)] w (fun e19 w20 => ∃ r21 : Bool, e19 = .returned (.bool r21) ∧ 
    J7 (!r21) w20))))
theorem E_disk_Disk_Read (d1 : Option Addr) (vat2 : Int) (many3 : Int) (w : World) (R : Ending → World → Prop) : F_disk_Disk_Read d1 vat2 many3 w R = fnVC Try.prog Try.f54 A_disk_Disk_Read [(.pointer d1), (.int .i64 vat2), (.int .i64 many3)] w R := by kernel_rfl
theorem C_disk_Disk_Read {d1 : Option Addr} {vat2 : Int} {many3 : Int} {w : World} {R : Ending → World → Prop} (h : F_disk_Disk_Read d1 vat2 many3 w R) : Calls Try.prog 54 #[(.pointer d1), (.int .i64 vat2), (.int .i64 many3)] w R := fnVC_calls Try.func54 (Eq.mp (E_disk_Disk_Read d1 vat2 many3 w R) h)

/-! 55 (*pollard/seg.Segs).sector -/
def A_seg_Segs_sector : Ann := .keep [0, 1] (.sh (.int .i64) (.keep [1, 5] (.keep [4] (.done))))
def F_seg_Segs_sector (s1 : Option Addr) (place2 : Int) (w : World) (R : Ending → World → Prop) : Prop :=
    (8 : Int) ≠ 0 ∧ ∀ n3 : Int, n3 = (IntKind.wrap .i64 (Int.tdiv place2 (8 : Int))) → ∃ b4 o5, s1 = some ⟨b4, o5, none⟩ ∧ ∃ slots6 : Int, w.cell? ⟨b4, 
    o5 + 1, none⟩ = some (.int .i64 slots6) ∧ slots6 ≠ 0 ∧ ∀ n7 : Int, n7 = (Int.tmod n3 slots6) → ∀ n8 : Int, 
    n8 = (IntKind.wrap .i64 (n7 * (8 : Int))) → (8 : Int) ≠ 0 ∧ ∀ n9 : Int, n9 = (Int.tmod place2 (8 : Int)) → ∀ n10 : Int, 
    n10 = (IntKind.wrap .i64 (n8 + n9)) → ∀ n11 : Int, n11 = (IntKind.wrap .i64 (n10 * (4 : Int))) → ∀ n12 : Int, 
    n12 = (IntKind.wrap .i64 ((8 : Int) + n11)) → R (.returned (.int .i64 n12)) w
theorem E_seg_Segs_sector (s1 : Option Addr) (place2 : Int) (w : World) (R : Ending → World → Prop) : F_seg_Segs_sector s1 place2 w R = fnVC Try.prog Try.f55 A_seg_Segs_sector [(.pointer s1), (.int .i64 place2)] w R := by kernel_rfl
theorem C_seg_Segs_sector {s1 : Option Addr} {place2 : Int} {w : World} {R : Ending → World → Prop} (h : F_seg_Segs_sector s1 place2 w R) : Calls Try.prog 55 #[(.pointer s1), (.int .i64 place2)] w R := fnVC_calls Try.func55 (Eq.mp (E_seg_Segs_sector s1 place2 w R) h)

/-! 56 pollard/seg.Decode -/
def A_seg_Decode : Ann := .keep [0, 2] (.keep [0, 2, 13] (.split (.keep [2, 3] (.sh (.agg [(.int .i64), (.int .i64), (.int .i64), (.int .i64), (.int .i64), 
    .slc]) (.done))) (.keep [0, 2] (.keep [0, 2, 4] (.keep [0, 2, 4, 15] (.loop [(4, .slc), (15, (.int .i64))] [0, 2] (.keep [0, 2, 4, 15, 
    16] (.split (.keep [0, 2, 4, 15] (.keep [0, 2, 4, 5, 15] (.keep [0, 2, 4, 6, 15] (.sh .slc (.keep [0, 2, 4, 15] (.done)))))) (.keep [0, 2, 
    4] (.sh (.int .i64) (.keep [0, 2, 4, 7] (.keep [0, 2, 4, 7, 34] (.split (.keep [2, 3] (.sh (.agg [(.int .i64), (.int .i64), (.int .i64), (.int .i64), 
    (.int .i64), .slc]) (.done))) (.keep [0, 2, 4, 7] (.cut [(8, .adr)] [0, 
    2] (.q 0 (.q 1 (.q 2 (.sh (.int .u8) (.q 3 (.q 4 (.q 5 (.q 6 (.sh (.int .u8) (.q 7 (.q 8 (.q 9 (.q 11 (.q 12 (.q 14 (.q 15 (.q 17 (.q 18 (.q 19 (.q 20 (.alt 10 (.sh (.int .i64) (.alt 13 (.sh (.int .i64) (.alt 16 (.sh (.int .i64) (.alt 21 (.sh .slc (.q 22 (.alt 23 (.alt 24 (.fin (.done)) .stop) .stop))) (.alt 23 (.alt 21 (.sh .slc (.q 22 (.alt 24 (.fin (.done)) .stop))) .stop) .stop))) (.alt 23 (.alt 16 (.sh (.int .i64) (.alt 21 (.sh .slc (.q 22 (.alt 24 (.fin (.done)) .stop))) .stop)) .stop) .stop))) (.alt 23 (.alt 13 (.sh (.int .i64) (.alt 16 (.sh (.int .i64) (.alt 21 (.sh .slc (.q 22 (.alt 24 (.fin (.done)) .stop))) .stop)) .stop)) .stop) .stop))) (.alt 23 (.alt 10 (.sh (.int .i64) (.alt 13 (.sh (.int .i64) (.alt 16 (.sh (.int .i64) (.alt 21 (.sh .slc (.q 22 (.alt 24 (.fin (.done)) .stop))) .stop)) .stop)) .stop)) .stop) .stop)))))))))))))))))))))) (.sh (.agg [(.int .i64), 
    (.int .i64), (.int .i64), (.int .i64), (.int .i64), .slc]) (.sh (.tup [.slc, (.int .i64)]) (.keep [0, 2, 8, 9, 10] (.cut [(71, .bool)] [2, 
    8] (.gsplit (.done) (.sh .bool (.done))) (.split (.keep [2, 3] (.sh (.agg [(.int .i64), (.int .i64), (.int .i64), (.int .i64), (.int .i64), 
    .slc]) (.done))) (.keep [2, 8] (.sh (.agg [(.int .i64), (.int .i64), (.int .i64), (.int .i64), (.int .i64), .slc]) (.keep [2, 
    3] (.sh (.agg [(.int .i64), (.int .i64), (.int .i64), (.int .i64), (.int .i64), .slc]) (.done)))))))))))))))))))))))))
def F_seg_Decode (a1a : Option Addr) (a1l a1c : Nat) (w : World) (R : Ending → World → Prop) : Prop :=
    ∀ w2, w2 = w.alloc (.cells #[(.int .i64 (0 : Int)), (.int .i64 (0 : Int)), (.int .i64 (0 : Int)), (.int .i64 (0 : Int)), (.int .i64 (0 : Int)), 
    (.slice none 0 0)] 87) → ((((a1l : Nat) : Int) != (256 : Int)) = true → Wr w2 ⟨w.heap.size, 0, none⟩ ∧ ∀ w3, w3 = w2.setCell ⟨w.heap.size, 0, 
    none⟩ (.int .i64 (0 : Int)) → Wr w3 ⟨w.heap.size, 0 + 1, none⟩ ∧ ∀ w4, w4 = w3.setCell ⟨w.heap.size, 0 + 1, none⟩ (.int .i64 (0 : Int)) → 
    Wr w4 ⟨w.heap.size, 0 + 2, none⟩ ∧ ∀ w5, w5 = w4.setCell ⟨w.heap.size, 0 + 2, none⟩ (.int .i64 (0 : Int)) → Wr w5 ⟨w.heap.size, 0 + 3, none⟩ ∧ ∀ w6, 
    w6 = w5.setCell ⟨w.heap.size, 0 + 3, none⟩ (.int .i64 (0 : Int)) → Wr w6 ⟨w.heap.size, 0 + 4, none⟩ ∧ ∀ w7, w7 = w6.setCell ⟨w.heap.size, 0 + 4, 
    none⟩ (.int .i64 (0 : Int)) → Wr w7 ⟨w.heap.size, 0 + 5, none⟩ ∧ ∀ w8, w8 = w7.setCell ⟨w.heap.size, 0 + 5, none⟩ (.slice none 0 0) → ∃ r9 : Int, 
    w8.cell? ⟨w.heap.size, 0, none⟩ = some (.int .i64 r9) ∧ ∃ r10 : Int, w8.cell? ⟨w.heap.size, 0 + 1, none⟩ = some (.int .i64 r10) ∧ ∃ r11 : Int, 
    w8.cell? ⟨w.heap.size, 0 + 2, none⟩ = some (.int .i64 r11) ∧ ∃ r12 : Int, w8.cell? ⟨w.heap.size, 0 + 3, none⟩ = some (.int .i64 r12) ∧ ∃ r13 : Int, 
    w8.cell? ⟨w.heap.size, 0 + 4, none⟩ = some (.int .i64 r13) ∧ ∃ (r14a : Option Addr) (r14l r14c : Nat), w8.cell? ⟨w.heap.size, 0 + 5, 
    none⟩ = some (.slice r14a r14l r14c) ∧ R (.returned (.tuple #[(.agg #[(.int .i64 r9), (.int .i64 r10), (.int .i64 r11), (.int .i64 r12), 
    (.int .i64 r13), (.slice r14a r14l r14c)]), (.int .i64 (70 : Int))])) w8) ∧ ((((a1l : Nat) : Int) != (256 : Int)) = false → ∃ (I15 : Slc → Int → 
    World → Prop) (mu16 : Slc → Int → World → Nat), I15 ⟨none, 0, 0⟩ (0 : Int) w2 ∧ ∀ (x17 : Slc) (x18 : Int) (w19 : World), I15 x17 x18 w19 → 
    ((decide (x18 < (4 : Int))) = true → ∀ n20 : Int, n20 = (IntKind.wrap .i64 (x18 * (64 : Int))) → ∀ n21 : Int, 
    n21 = (IntKind.wrap .i64 (x18 + (1 : Int))) → ∀ n22 : Int, n22 = (IntKind.wrap .i64 (n21 * (64 : Int))) → 0 ≤ n20 ∧ n20 ≤ n22 ∧ 
    n22 ≤ ((a1c : Nat) : Int) ∧ 0 ≤ (56 : Int) ∧ (56 : Int) ≤ (56 : Int) ∧ (56 : Int) ≤ (((a1c - (Int.toNat n20)) : Nat) : Int) ∧ 
    ∃ (s23a : Option Addr) (s23l s23c : Nat), ∃ w24, Sem.run Try.prog (Builtin.append_ #[47, 47] 47 #[(.slice x17.a x17.len x17.cap), 
    (.slice (cutBase (cutBase a1a (Int.toNat n20) a1c 1) 0 (Int.toNat (56 : Int)) 1) ((Int.toNat (56 : Int)) - 0) ((Int.toNat (56 : Int)) - 0))]) w19 = .ok (.slice s23a s23l s23c) w24 ∧ 
    ∀ n25 : Int, n25 = (IntKind.wrap .i64 (x18 + (1 : Int))) → I15 ⟨s23a, s23l, s23c⟩ n25 w24 ∧ mu16 ⟨s23a, s23l, s23c⟩ n25 w24 < mu16 x17 x18 w19) ∧ 
    ((decide (x18 < (4 : Int))) = false → 0 ≤ (4 : Int) ∧ (4 : Int) ≤ (6 : Int) ∧ (6 : Int) ≤ ((x17.cap : Nat) : Int) ∧ 
    Calls Try.prog 61 #[(.slice (cutBase x17.a (Int.toNat (4 : Int)) x17.cap 1) ((Int.toNat (6 : Int)) - (Int.toNat (4 : Int))) (x17.cap - (Int.toNat (4 : Int))))] w19 (fun e26 w27 => ∃ r28 : Int, 
    e26 = .returned (.int .i64 r28) ∧ ((decide (r28 > (198 : Int))) = true → Wr w27 ⟨w.heap.size, 0, none⟩ ∧ ∀ w29, w29 = w27.setCell ⟨w.heap.size, 0, 
    none⟩ (.int .i64 (0 : Int)) → Wr w29 ⟨w.heap.size, 0 + 1, none⟩ ∧ ∀ w30, w30 = w29.setCell ⟨w.heap.size, 0 + 1, none⟩ (.int .i64 (0 : Int)) → 
    Wr w30 ⟨w.heap.size, 0 + 2, none⟩ ∧ ∀ w31, w31 = w30.setCell ⟨w.heap.size, 0 + 2, none⟩ (.int .i64 (0 : Int)) → Wr w31 ⟨w.heap.size, 0 + 3, none⟩ ∧ 
    ∀ w32, w32 = w31.setCell ⟨w.heap.size, 0 + 3, none⟩ (.int .i64 (0 : Int)) → Wr w32 ⟨w.heap.size, 0 + 4, none⟩ ∧ ∀ w33, 
    w33 = w32.setCell ⟨w.heap.size, 0 + 4, none⟩ (.int .i64 (0 : Int)) → Wr w33 ⟨w.heap.size, 0 + 5, none⟩ ∧ ∀ w34, w34 = w33.setCell ⟨w.heap.size, 
    0 + 5, none⟩ (.slice none 0 0) → ∃ r35 : Int, w34.cell? ⟨w.heap.size, 0, none⟩ = some (.int .i64 r35) ∧ ∃ r36 : Int, w34.cell? ⟨w.heap.size, 0 + 1, 
    none⟩ = some (.int .i64 r36) ∧ ∃ r37 : Int, w34.cell? ⟨w.heap.size, 0 + 2, none⟩ = some (.int .i64 r37) ∧ ∃ r38 : Int, w34.cell? ⟨w.heap.size, 0 + 3, 
    none⟩ = some (.int .i64 r38) ∧ ∃ r39 : Int, w34.cell? ⟨w.heap.size, 0 + 4, none⟩ = some (.int .i64 r39) ∧ ∃ (r40a : Option Addr) (r40l r40c : Nat), 
    w34.cell? ⟨w.heap.size, 0 + 5, none⟩ = some (.slice r40a r40l r40c) ∧ R (.returned (.tuple #[(.agg #[(.int .i64 r35), (.int .i64 r36), 
    (.int .i64 r37), (.int .i64 r38), (.int .i64 r39), (.slice r40a r40l r40c)]), (.int .i64 (70 : Int))])) w34) ∧ 
    ((decide (r28 > (198 : Int))) = false → ∀ J41 : Nat → World → Prop, (∀ (x42 : Nat) (w43 : World), (∃ n50 : Int, w43.cell? ⟨x42, 0, 
    none⟩ = some (.int .i64 n50) ∧ ∃ n51 : Int, w43.cell? ⟨x42, 0 + 1, none⟩ = some (.int .i64 n51) ∧ ∃ n52 : Int, w43.cell? ⟨x42, 0 + 2, 
    none⟩ = some (.int .i64 n52) ∧ ∃ n53 : Int, w43.cell? ⟨x42, 0 + 3, none⟩ = some (.int .i64 n53) ∧ ∃ n54 : Int, w43.cell? ⟨x42, 0 + 4, 
    none⟩ = some (.int .i64 n54) ∧ ∃ (s55a : Option Addr) (s55l s55c : Nat), w43.cell? ⟨x42, 0 + 5, none⟩ = some (.slice s55a s55l s55c) ∧ 
    Calls Try.prog 58 #[(.agg #[(.int .i64 n50), (.int .i64 n51), (.int .i64 n52), (.int .i64 n53), (.int .i64 n54), 
    (.slice s55a s55l s55c)])] w43 (fun e56 w57 => ∃ (r58a : Option Addr) (r58l r58c : Nat), ∃ r59 : Int, 
    e56 = .returned (.tuple #[(.slice r58a r58l r58c), (.int .i64 r59)]) ∧ ∀ J60 : Bool → World → Prop, (∀ (x61 : Bool) (w62 : World), ((x61 = true → 
    Wr w62 ⟨w.heap.size, 0, none⟩ ∧ ∀ w63, w63 = w62.setCell ⟨w.heap.size, 0, none⟩ (.int .i64 (0 : Int)) → Wr w63 ⟨w.heap.size, 0 + 1, none⟩ ∧ ∀ w64, 
    w64 = w63.setCell ⟨w.heap.size, 0 + 1, none⟩ (.int .i64 (0 : Int)) → Wr w64 ⟨w.heap.size, 0 + 2, none⟩ ∧ ∀ w65, w65 = w64.setCell ⟨w.heap.size, 
    0 + 2, none⟩ (.int .i64 (0 : Int)) → Wr w65 ⟨w.heap.size, 0 + 3, none⟩ ∧ ∀ w66, w66 = w65.setCell ⟨w.heap.size, 0 + 3, none⟩ (.int .i64 (0 : Int)) → 
    Wr w66 ⟨w.heap.size, 0 + 4, none⟩ ∧ ∀ w67, w67 = w66.setCell ⟨w.heap.size, 0 + 4, none⟩ (.int .i64 (0 : Int)) → Wr w67 ⟨w.heap.size, 0 + 5, none⟩ ∧ 
    ∀ w68, w68 = w67.setCell ⟨w.heap.size, 0 + 5, none⟩ (.slice none 0 0) → ∃ r69 : Int, w68.cell? ⟨w.heap.size, 0, none⟩ = some (.int .i64 r69) ∧ 
    ∃ r70 : Int, w68.cell? ⟨w.heap.size, 0 + 1, none⟩ = some (.int .i64 r70) ∧ ∃ r71 : Int, w68.cell? ⟨w.heap.size, 0 + 2, none⟩ = some (.int .i64 r71) ∧ 
    ∃ r72 : Int, w68.cell? ⟨w.heap.size, 0 + 3, none⟩ = some (.int .i64 r72) ∧ ∃ r73 : Int, w68.cell? ⟨w.heap.size, 0 + 4, none⟩ = some (.int .i64 r73) ∧ 
    ∃ (r74a : Option Addr) (r74l r74c : Nat), w68.cell? ⟨w.heap.size, 0 + 5, none⟩ = some (.slice r74a r74l r74c) ∧ 
    R (.returned (.tuple #[(.agg #[(.int .i64 r69), (.int .i64 r70), (.int .i64 r71), (.int .i64 r72), (.int .i64 r73), (.slice r74a r74l r74c)]), 
    (.int .i64 (70 : Int))])) w68) ∧ (x61 = false → ∃ n81 : Int, w62.cell? ⟨x42, 0, none⟩ = some (.int .i64 n81) ∧ ∃ n82 : Int, w62.cell? ⟨x42, 0 + 1, 
    none⟩ = some (.int .i64 n82) ∧ ∃ n83 : Int, w62.cell? ⟨x42, 0 + 2, none⟩ = some (.int .i64 n83) ∧ ∃ n84 : Int, w62.cell? ⟨x42, 0 + 3, 
    none⟩ = some (.int .i64 n84) ∧ ∃ n85 : Int, w62.cell? ⟨x42, 0 + 4, none⟩ = some (.int .i64 n85) ∧ ∃ (s86a : Option Addr) (s86l s86c : Nat), 
    w62.cell? ⟨x42, 0 + 5, none⟩ = some (.slice s86a s86l s86c) ∧ Wr w62 ⟨w.heap.size, 0, none⟩ ∧ ∀ w87, w87 = w62.setCell ⟨w.heap.size, 0, 
    none⟩ (.int .i64 n81) → Wr w87 ⟨w.heap.size, 0 + 1, none⟩ ∧ ∀ w88, w88 = w87.setCell ⟨w.heap.size, 0 + 1, none⟩ (.int .i64 n82) → 
    Wr w88 ⟨w.heap.size, 0 + 2, none⟩ ∧ ∀ w89, w89 = w88.setCell ⟨w.heap.size, 0 + 2, none⟩ (.int .i64 n83) → Wr w89 ⟨w.heap.size, 0 + 3, none⟩ ∧ ∀ w90, 
    w90 = w89.setCell ⟨w.heap.size, 0 + 3, none⟩ (.int .i64 n84) → Wr w90 ⟨w.heap.size, 0 + 4, none⟩ ∧ ∀ w91, w91 = w90.setCell ⟨w.heap.size, 0 + 4, 
    none⟩ (.int .i64 n85) → Wr w91 ⟨w.heap.size, 0 + 5, none⟩ ∧ ∀ w92, w92 = w91.setCell ⟨w.heap.size, 0 + 5, none⟩ (.slice s86a s86l s86c) → 
    ∃ r93 : Int, w92.cell? ⟨w.heap.size, 0, none⟩ = some (.int .i64 r93) ∧ ∃ r94 : Int, w92.cell? ⟨w.heap.size, 0 + 1, none⟩ = some (.int .i64 r94) ∧ 
    ∃ r95 : Int, w92.cell? ⟨w.heap.size, 0 + 2, none⟩ = some (.int .i64 r95) ∧ ∃ r96 : Int, w92.cell? ⟨w.heap.size, 0 + 3, none⟩ = some (.int .i64 r96) ∧ 
    ∃ r97 : Int, w92.cell? ⟨w.heap.size, 0 + 4, none⟩ = some (.int .i64 r97) ∧ ∃ (r98a : Option Addr) (r98l r98c : Nat), w92.cell? ⟨w.heap.size, 0 + 5, 
    none⟩ = some (.slice r98a r98l r98c) ∧ R (.returned (.tuple #[(.agg #[(.int .i64 r93), (.int .i64 r94), (.int .i64 r95), (.int .i64 r96), 
    (.int .i64 r97), (.slice r98a r98l r98c)]), (.int .i64 (0 : Int))])) w92)) → J60 x61 w62) → ((r59 != (0 : Int)) = true → J60 true w57) ∧ 
    ((r59 != (0 : Int)) = false → Calls Try.prog 62 #[(.slice r58a r58l r58c), (.slice a1a a1l a1c)] w57 (fun e99 w100 => ∃ r101 : Bool, 
    e99 = .returned (.bool r101) ∧ J60 (!r101) w100)))) → J41 x42 w43) → ∃ b102 o103, x17.a = some ⟨b102, o103, none⟩ ∧ 0 ≤ (2 : Int) ∧ 
    (2 : Int) < ((x17.len : Nat) : Int) ∧ ∃ n104 : Int, w27.drew.cell? ⟨b102, o103 + Int.toNat (2 : Int) * 1, none⟩ = some (.int .u8 n104) ∧ 
    ∀ n105 : Int, n105 = (IntKind.wrap .i64 n104) → ∃ b106 o107, x17.a = some ⟨b106, o107, none⟩ ∧ 0 ≤ (3 : Int) ∧ (3 : Int) < ((x17.len : Nat) : Int) ∧ 
    ∃ n108 : Int, w27.drew.cell? ⟨b106, o107 + Int.toNat (3 : Int) * 1, none⟩ = some (.int .u8 n108) ∧ ∀ n109 : Int, n109 = (IntKind.wrap .i64 n108) → 
    0 ≤ (6 : Int) ∧ (6 : Int) ≤ (12 : Int) ∧ (12 : Int) ≤ ((x17.cap : Nat) : Int) ∧ 0 ≤ (12 : Int) ∧ (12 : Int) ≤ (18 : Int) ∧ 
    (18 : Int) ≤ ((x17.cap : Nat) : Int) ∧ 0 ≤ (18 : Int) ∧ (18 : Int) ≤ (22 : Int) ∧ (22 : Int) ≤ ((x17.cap : Nat) : Int) ∧ ∀ n110 : Int, 
    n110 = (IntKind.wrap .i64 ((22 : Int) + r28)) → 0 ≤ (22 : Int) ∧ (22 : Int) ≤ n110 ∧ n110 ≤ ((x17.cap : Nat) : Int) ∧ 
    (Calls Try.prog 61 #[(.slice (cutBase x17.a (Int.toNat (6 : Int)) x17.cap 1) ((Int.toNat (12 : Int)) - (Int.toNat (6 : Int))) (x17.cap - (Int.toNat (6 : Int))))] w27.drew (fun e111 w112 => ∃ r113 : Int, 
    e111 = .returned (.int .i64 r113) ∧ w112.cell? ⟨b106, o107 + Int.toNat (3 : Int) * 1, none⟩ = some (.int .u8 n108) ∧ w112.cell? ⟨b102, 
    o103 + Int.toNat (2 : Int) * 1, none⟩ = some (.int .u8 n104) ∧ 
    (Calls Try.prog 61 #[(.slice (cutBase x17.a (Int.toNat (12 : Int)) x17.cap 1) ((Int.toNat (18 : Int)) - (Int.toNat (12 : Int))) (x17.cap - (Int.toNat (12 : Int))))] w112 (fun e114 w115 => ∃ r116 : Int, 
    e114 = .returned (.int .i64 r116) ∧ w115.cell? ⟨b106, o107 + Int.toNat (3 : Int) * 1, none⟩ = some (.int .u8 n108) ∧ w115.cell? ⟨b102, 
    o103 + Int.toNat (2 : Int) * 1, none⟩ = some (.int .u8 n104) ∧ 
    (Calls Try.prog 61 #[(.slice (cutBase x17.a (Int.toNat (18 : Int)) x17.cap 1) ((Int.toNat (22 : Int)) - (Int.toNat (18 : Int))) (x17.cap - (Int.toNat (18 : Int))))] w115 (fun e117 w118 => ∃ r119 : Int, 
    e117 = .returned (.int .i64 r119) ∧ w118.cell? ⟨b106, o107 + Int.toNat (3 : Int) * 1, none⟩ = some (.int .u8 n108) ∧ w118.cell? ⟨b102, 
    o103 + Int.toNat (2 : Int) * 1, none⟩ = some (.int .u8 n104) ∧ 
    (Calls Try.prog 30 #[(.slice (cutBase x17.a (Int.toNat (22 : Int)) x17.cap 1) ((Int.toNat n110) - (Int.toNat (22 : Int))) (x17.cap - (Int.toNat (22 : Int))))] w118 (fun e120 w121 => ∃ (r122a : Option Addr) (r122l r122c : Nat), 
    e120 = .returned (.slice r122a r122l r122c) ∧ w121.cell? ⟨b106, o107 + Int.toNat (3 : Int) * 1, none⟩ = some (.int .u8 n108) ∧ w121.cell? ⟨b102, 
    o103 + Int.toNat (2 : Int) * 1, none⟩ = some (.int .u8 n104) ∧ ∀ w123, w123 = w121.alloc (.cells #[(.int .i64 (0 : Int)), (.int .i64 (0 : Int)), 
    (.int .i64 (0 : Int)), (.int .i64 (0 : Int)), (.int .i64 (0 : Int)), (.slice none 0 0)] 87) → w123.cell? ⟨b106, o107 + Int.toNat (3 : Int) * 1, 
    none⟩ = some (.int .u8 n108) ∧ w123.cell? ⟨b102, o103 + Int.toNat (2 : Int) * 1, none⟩ = some (.int .u8 n104) ∧ Wr w123 ⟨w121.heap.size, 0, none⟩ ∧ 
    ∀ w124, w124 = w123.setCell ⟨w121.heap.size, 0, none⟩ (.int .i64 r116) → Wr w124 ⟨w121.heap.size, 0 + 1, none⟩ ∧ ∀ w125, 
    w125 = w124.setCell ⟨w121.heap.size, 0 + 1, none⟩ (.int .i64 r113) → Wr w125 ⟨w121.heap.size, 0 + 2, none⟩ ∧ ∀ w126, 
    w126 = w125.setCell ⟨w121.heap.size, 0 + 2, none⟩ (.int .i64 n109) → Wr w126 ⟨w121.heap.size, 0 + 3, none⟩ ∧ ∀ w127, 
    w127 = w126.setCell ⟨w121.heap.size, 0 + 3, none⟩ (.int .i64 r119) → Wr w127 ⟨w121.heap.size, 0 + 4, none⟩ ∧ ∀ w128, 
    w128 = w127.setCell ⟨w121.heap.size, 0 + 4, none⟩ (.int .i64 n105) → Wr w128 ⟨w121.heap.size, 0 + 5, none⟩ ∧ ∀ w129, 
    w129 = w128.setCell ⟨w121.heap.size, 0 + 5, none⟩ (.slice r122a r122l r122c) → J41 w121.heap.size w129)) ∧ (∀ w130, 
    w130 = w118.alloc (.cells #[(.int .i64 (0 : Int)), (.int .i64 (0 : Int)), (.int .i64 (0 : Int)), (.int .i64 (0 : Int)), (.int .i64 (0 : Int)), 
    (.slice none 0 0)] 87) → w130.cell? ⟨b106, o107 + Int.toNat (3 : Int) * 1, none⟩ = some (.int .u8 n108) ∧ w130.cell? ⟨b102, 
    o103 + Int.toNat (2 : Int) * 1, none⟩ = some (.int .u8 n104) ∧ 
    Calls Try.prog 30 #[(.slice (cutBase x17.a (Int.toNat (22 : Int)) x17.cap 1) ((Int.toNat n110) - (Int.toNat (22 : Int))) (x17.cap - (Int.toNat (22 : Int))))] w130 (fun e131 w132 => ∃ (r133a : Option Addr) (r133l r133c : Nat), 
    e131 = .returned (.slice r133a r133l r133c) ∧ w132.cell? ⟨b106, o107 + Int.toNat (3 : Int) * 1, none⟩ = some (.int .u8 n108) ∧ w132.cell? ⟨b102, 
    o103 + Int.toNat (2 : Int) * 1, none⟩ = some (.int .u8 n104) ∧ Wr w132 ⟨w118.heap.size, 0, none⟩ ∧ ∀ w134, w134 = w132.setCell ⟨w118.heap.size, 0, 
    none⟩ (.int .i64 r116) → Wr w134 ⟨w118.heap.size, 0 + 1, none⟩ ∧ ∀ w135, w135 = w134.setCell ⟨w118.heap.size, 0 + 1, none⟩ (.int .i64 r113) → 
    Wr w135 ⟨w118.heap.size, 0 + 2, none⟩ ∧ ∀ w136, w136 = w135.setCell ⟨w118.heap.size, 0 + 2, none⟩ (.int .i64 n109) → Wr w136 ⟨w118.heap.size, 0 + 3, 
    none⟩ ∧ ∀ w137, w137 = w136.setCell ⟨w118.heap.size, 0 + 3, none⟩ (.int .i64 r119) → Wr w137 ⟨w118.heap.size, 0 + 4, none⟩ ∧ ∀ w138, 
    w138 = w137.setCell ⟨w118.heap.size, 0 + 4, none⟩ (.int .i64 n105) → Wr w138 ⟨w118.heap.size, 0 + 5, none⟩ ∧ ∀ w139, 
    w139 = w138.setCell ⟨w118.heap.size, 0 + 5, none⟩ (.slice r133a r133l r133c) → J41 w118.heap.size w139)))) ∧ (∀ w140, 
    w140 = w115.alloc (.cells #[(.int .i64 (0 : Int)), (.int .i64 (0 : Int)), (.int .i64 (0 : Int)), (.int .i64 (0 : Int)), (.int .i64 (0 : Int)), 
    (.slice none 0 0)] 87) → w140.cell? ⟨b106, o107 + Int.toNat (3 : Int) * 1, none⟩ = some (.int .u8 n108) ∧ w140.cell? ⟨b102, 
    o103 + Int.toNat (2 : Int) * 1, none⟩ = some (.int .u8 n104) ∧ 
    Calls Try.prog 61 #[(.slice (cutBase x17.a (Int.toNat (18 : Int)) x17.cap 1) ((Int.toNat (22 : Int)) - (Int.toNat (18 : Int))) (x17.cap - (Int.toNat (18 : Int))))] w140 (fun e141 w142 => ∃ r143 : Int, 
    e141 = .returned (.int .i64 r143) ∧ w142.cell? ⟨b106, o107 + Int.toNat (3 : Int) * 1, none⟩ = some (.int .u8 n108) ∧ w142.cell? ⟨b102, 
    o103 + Int.toNat (2 : Int) * 1, none⟩ = some (.int .u8 n104) ∧ 
    Calls Try.prog 30 #[(.slice (cutBase x17.a (Int.toNat (22 : Int)) x17.cap 1) ((Int.toNat n110) - (Int.toNat (22 : Int))) (x17.cap - (Int.toNat (22 : Int))))] w142 (fun e144 w145 => ∃ (r146a : Option Addr) (r146l r146c : Nat), 
    e144 = .returned (.slice r146a r146l r146c) ∧ w145.cell? ⟨b106, o107 + Int.toNat (3 : Int) * 1, none⟩ = some (.int .u8 n108) ∧ w145.cell? ⟨b102, 
    o103 + Int.toNat (2 : Int) * 1, none⟩ = some (.int .u8 n104) ∧ Wr w145 ⟨w115.heap.size, 0, none⟩ ∧ ∀ w147, w147 = w145.setCell ⟨w115.heap.size, 0, 
    none⟩ (.int .i64 r116) → Wr w147 ⟨w115.heap.size, 0 + 1, none⟩ ∧ ∀ w148, w148 = w147.setCell ⟨w115.heap.size, 0 + 1, none⟩ (.int .i64 r113) → 
    Wr w148 ⟨w115.heap.size, 0 + 2, none⟩ ∧ ∀ w149, w149 = w148.setCell ⟨w115.heap.size, 0 + 2, none⟩ (.int .i64 n109) → Wr w149 ⟨w115.heap.size, 0 + 3, 
    none⟩ ∧ ∀ w150, w150 = w149.setCell ⟨w115.heap.size, 0 + 3, none⟩ (.int .i64 r143) → Wr w150 ⟨w115.heap.size, 0 + 4, none⟩ ∧ ∀ w151, 
    w151 = w150.setCell ⟨w115.heap.size, 0 + 4, none⟩ (.int .i64 n105) → Wr w151 ⟨w115.heap.size, 0 + 5, none⟩ ∧ ∀ w152, 
    w152 = w151.setCell ⟨w115.heap.size, 0 + 5, none⟩ (.slice r146a r146l r146c) → J41 w115.heap.size w152))))) ∧ (∀ w153, 
    w153 = w112.alloc (.cells #[(.int .i64 (0 : Int)), (.int .i64 (0 : Int)), (.int .i64 (0 : Int)), (.int .i64 (0 : Int)), (.int .i64 (0 : Int)), 
    (.slice none 0 0)] 87) → w153.cell? ⟨b106, o107 + Int.toNat (3 : Int) * 1, none⟩ = some (.int .u8 n108) ∧ w153.cell? ⟨b102, 
    o103 + Int.toNat (2 : Int) * 1, none⟩ = some (.int .u8 n104) ∧ 
    Calls Try.prog 61 #[(.slice (cutBase x17.a (Int.toNat (12 : Int)) x17.cap 1) ((Int.toNat (18 : Int)) - (Int.toNat (12 : Int))) (x17.cap - (Int.toNat (12 : Int))))] w153 (fun e154 w155 => ∃ r156 : Int, 
    e154 = .returned (.int .i64 r156) ∧ w155.cell? ⟨b106, o107 + Int.toNat (3 : Int) * 1, none⟩ = some (.int .u8 n108) ∧ w155.cell? ⟨b102, 
    o103 + Int.toNat (2 : Int) * 1, none⟩ = some (.int .u8 n104) ∧ 
    Calls Try.prog 61 #[(.slice (cutBase x17.a (Int.toNat (18 : Int)) x17.cap 1) ((Int.toNat (22 : Int)) - (Int.toNat (18 : Int))) (x17.cap - (Int.toNat (18 : Int))))] w155 (fun e157 w158 => ∃ r159 : Int, 
    e157 = .returned (.int .i64 r159) ∧ w158.cell? ⟨b106, o107 + Int.toNat (3 : Int) * 1, none⟩ = some (.int .u8 n108) ∧ w158.cell? ⟨b102, 
    o103 + Int.toNat (2 : Int) * 1, none⟩ = some (.int .u8 n104) ∧ 
    Calls Try.prog 30 #[(.slice (cutBase x17.a (Int.toNat (22 : Int)) x17.cap 1) ((Int.toNat n110) - (Int.toNat (22 : Int))) (x17.cap - (Int.toNat (22 : Int))))] w158 (fun e160 w161 => ∃ (r162a : Option Addr) (r162l r162c : Nat), 
    e160 = .returned (.slice r162a r162l r162c) ∧ w161.cell? ⟨b106, o107 + Int.toNat (3 : Int) * 1, none⟩ = some (.int .u8 n108) ∧ w161.cell? ⟨b102, 
    o103 + Int.toNat (2 : Int) * 1, none⟩ = some (.int .u8 n104) ∧ Wr w161 ⟨w112.heap.size, 0, none⟩ ∧ ∀ w163, w163 = w161.setCell ⟨w112.heap.size, 0, 
    none⟩ (.int .i64 r156) → Wr w163 ⟨w112.heap.size, 0 + 1, none⟩ ∧ ∀ w164, w164 = w163.setCell ⟨w112.heap.size, 0 + 1, none⟩ (.int .i64 r113) → 
    Wr w164 ⟨w112.heap.size, 0 + 2, none⟩ ∧ ∀ w165, w165 = w164.setCell ⟨w112.heap.size, 0 + 2, none⟩ (.int .i64 n109) → Wr w165 ⟨w112.heap.size, 0 + 3, 
    none⟩ ∧ ∀ w166, w166 = w165.setCell ⟨w112.heap.size, 0 + 3, none⟩ (.int .i64 r159) → Wr w166 ⟨w112.heap.size, 0 + 4, none⟩ ∧ ∀ w167, 
    w167 = w166.setCell ⟨w112.heap.size, 0 + 4, none⟩ (.int .i64 n105) → Wr w167 ⟨w112.heap.size, 0 + 5, none⟩ ∧ ∀ w168, 
    w168 = w167.setCell ⟨w112.heap.size, 0 + 5, none⟩ (.slice r162a r162l r162c) → J41 w112.heap.size w168)))))) ∧ (∀ w169, 
    w169 = w27.drew.alloc (.cells #[(.int .i64 (0 : Int)), (.int .i64 (0 : Int)), (.int .i64 (0 : Int)), (.int .i64 (0 : Int)), (.int .i64 (0 : Int)), 
    (.slice none 0 0)] 87) → w169.cell? ⟨b106, o107 + Int.toNat (3 : Int) * 1, none⟩ = some (.int .u8 n108) ∧ w169.cell? ⟨b102, 
    o103 + Int.toNat (2 : Int) * 1, none⟩ = some (.int .u8 n104) ∧ 
    Calls Try.prog 61 #[(.slice (cutBase x17.a (Int.toNat (6 : Int)) x17.cap 1) ((Int.toNat (12 : Int)) - (Int.toNat (6 : Int))) (x17.cap - (Int.toNat (6 : Int))))] w169 (fun e170 w171 => ∃ r172 : Int, 
    e170 = .returned (.int .i64 r172) ∧ w171.cell? ⟨b106, o107 + Int.toNat (3 : Int) * 1, none⟩ = some (.int .u8 n108) ∧ w171.cell? ⟨b102, 
    o103 + Int.toNat (2 : Int) * 1, none⟩ = some (.int .u8 n104) ∧ 
    Calls Try.prog 61 #[(.slice (cutBase x17.a (Int.toNat (12 : Int)) x17.cap 1) ((Int.toNat (18 : Int)) - (Int.toNat (12 : Int))) (x17.cap - (Int.toNat (12 : Int))))] w171 (fun e173 w174 => ∃ r175 : Int, 
    e173 = .returned (.int .i64 r175) ∧ w174.cell? ⟨b106, o107 + Int.toNat (3 : Int) * 1, none⟩ = some (.int .u8 n108) ∧ w174.cell? ⟨b102, 
    o103 + Int.toNat (2 : Int) * 1, none⟩ = some (.int .u8 n104) ∧ 
    Calls Try.prog 61 #[(.slice (cutBase x17.a (Int.toNat (18 : Int)) x17.cap 1) ((Int.toNat (22 : Int)) - (Int.toNat (18 : Int))) (x17.cap - (Int.toNat (18 : Int))))] w174 (fun e176 w177 => ∃ r178 : Int, 
    e176 = .returned (.int .i64 r178) ∧ w177.cell? ⟨b106, o107 + Int.toNat (3 : Int) * 1, none⟩ = some (.int .u8 n108) ∧ w177.cell? ⟨b102, 
    o103 + Int.toNat (2 : Int) * 1, none⟩ = some (.int .u8 n104) ∧ 
    Calls Try.prog 30 #[(.slice (cutBase x17.a (Int.toNat (22 : Int)) x17.cap 1) ((Int.toNat n110) - (Int.toNat (22 : Int))) (x17.cap - (Int.toNat (22 : Int))))] w177 (fun e179 w180 => ∃ (r181a : Option Addr) (r181l r181c : Nat), 
    e179 = .returned (.slice r181a r181l r181c) ∧ w180.cell? ⟨b106, o107 + Int.toNat (3 : Int) * 1, none⟩ = some (.int .u8 n108) ∧ w180.cell? ⟨b102, 
    o103 + Int.toNat (2 : Int) * 1, none⟩ = some (.int .u8 n104) ∧ Wr w180 ⟨w27.drew.heap.size, 0, none⟩ ∧ ∀ w182, 
    w182 = w180.setCell ⟨w27.drew.heap.size, 0, none⟩ (.int .i64 r175) → Wr w182 ⟨w27.drew.heap.size, 0 + 1, none⟩ ∧ ∀ w183, 
    w183 = w182.setCell ⟨w27.drew.heap.size, 0 + 1, none⟩ (.int .i64 r172) → Wr w183 ⟨w27.drew.heap.size, 0 + 2, none⟩ ∧ ∀ w184, 
    w184 = w183.setCell ⟨w27.drew.heap.size, 0 + 2, none⟩ (.int .i64 n109) → Wr w184 ⟨w27.drew.heap.size, 0 + 3, none⟩ ∧ ∀ w185, 
    w185 = w184.setCell ⟨w27.drew.heap.size, 0 + 3, none⟩ (.int .i64 r178) → Wr w185 ⟨w27.drew.heap.size, 0 + 4, none⟩ ∧ ∀ w186, 
    w186 = w185.setCell ⟨w27.drew.heap.size, 0 + 4, none⟩ (.int .i64 n105) → Wr w186 ⟨w27.drew.heap.size, 0 + 5, none⟩ ∧ ∀ w187, 
    w187 = w186.setCell ⟨w27.drew.heap.size, 0 + 5, none⟩ (.slice r181a r181l r181c) → J41 w27.drew.heap.size w187)))))))))
theorem E_seg_Decode (a1a : Option Addr) (a1l a1c : Nat) (w : World) (R : Ending → World → Prop) : F_seg_Decode a1a a1l a1c w R = fnVC Try.prog Try.f56 A_seg_Decode [(.slice a1a a1l a1c)] w R := by kernel_rfl
theorem C_seg_Decode {a1a : Option Addr} {a1l a1c : Nat} {w : World} {R : Ending → World → Prop} (h : F_seg_Decode a1a a1l a1c w R) : Calls Try.prog 56 #[(.slice a1a a1l a1c)] w R := fnVC_calls Try.func56 (Eq.mp (E_seg_Decode a1a a1l a1c w R) h)

/-! 57 (*pollard/seg.Segs).Used -/
def A_seg_Segs_Used : Ann := .keep [0] (.q 0 (.q 1 (.q 2 (.q 3 (.sh (.int .i64) (.q 4 (.q 5 (.q 6 (.q 7 (.sh (.int .i64) (.q 8 (.q 9 (.fin (.keep [2] (.done)))))))))))))))
def F_seg_Segs_Used (s1 : Option Addr) (w : World) (R : Ending → World → Prop) : Prop :=
    ∃ b2 o3, s1 = some ⟨b2, o3, none⟩ ∧ ∃ vend4 : Int, w.drew.cell? ⟨b2, o3 + 3, none⟩ = some (.int .i64 vend4) ∧ ∃ b5 o6, s1 = some ⟨b5, o6, none⟩ ∧ 
    ∃ first7 : Int, w.drew.cell? ⟨b5, o6 + 2, none⟩ = some (.int .i64 first7) ∧ ∀ n8 : Int, n8 = (IntKind.wrap .i64 (vend4 - first7)) → 
    R (.returned (.int .i64 n8)) w.drew
theorem E_seg_Segs_Used (s1 : Option Addr) (w : World) (R : Ending → World → Prop) : F_seg_Segs_Used s1 w R = fnVC Try.prog Try.f57 A_seg_Segs_Used [(.pointer s1)] w R := by kernel_rfl
theorem C_seg_Segs_Used {s1 : Option Addr} {w : World} {R : Ending → World → Prop} (h : F_seg_Segs_Used s1 w R) : Calls Try.prog 57 #[(.pointer s1)] w R := fnVC_calls Try.func57 (Eq.mp (E_seg_Segs_Used s1 w R) h)

/-! 58 pollard/seg.Encode -/
def A_seg_Encode : Ann := .keep [1] (.sh (.agg [(.int .i64), (.int .i64), (.int .i64), (.int .i64), (.int .i64), .slc]) (.sh .bool (.keep [1, 11] (.split (.keep [2, 
    3] (.done)) (.keep [1] (.sh .slc (.keep [1, 4] (.cut [] [1, 
    4] (.q 0 (.q 3 (.q 4 (.sh (.int .i64) (.q 6 (.q 7 (.sh (.int .i64) (.q 9 (.q 10 (.sh .slc (.q 11 (.q 13 (.q 14 (.sh (.int .i64) (.q 16 (.q 17 (.sh (.int .i64) (.q 19 (.q 20 (.sh (.int .i64) (.q 22 (.q 23 (.sh .slc (.alt 1 (.alt 2 (.fb 15 true .slc (.alt 5 (.sh .slc (.alt 8 (.sh .slc (.alt 12 (.sh .slc (.alt 15 (.sh .slc (.alt 18 (.sh .slc (.alt 21 (.sh .slc (.alt 24 (.alt 25 (.sh .slc (.alt 26 (.sh (.int .i64) (.fin (.done))) .stop)) .stop) .stop)) .stop)) .stop)) .stop)) .stop)) .stop)) .stop)) (.alt 5 (.sh .slc (.alt 2 (.fb 15 true .slc (.alt 8 (.sh .slc (.alt 12 (.sh .slc (.alt 15 (.sh .slc (.alt 18 (.sh .slc (.alt 21 (.sh .slc (.alt 24 (.alt 25 (.sh .slc (.alt 26 (.sh (.int .i64) (.fin (.done))) .stop)) .stop) .stop)) .stop)) .stop)) .stop)) .stop)) .stop)) (.alt 8 (.sh .slc (.alt 2 (.fb 15 true .slc (.alt 12 (.sh .slc (.alt 15 (.sh .slc (.alt 18 (.sh .slc (.alt 21 (.sh .slc (.alt 24 (.alt 25 (.sh .slc (.alt 26 (.sh (.int .i64) (.fin (.done))) .stop)) .stop) .stop)) .stop)) .stop)) .stop)) .stop)) (.alt 12 (.sh .slc (.alt 2 (.fb 15 true .slc (.alt 15 (.sh .slc (.alt 18 (.sh .slc (.alt 21 (.sh .slc (.alt 24 (.alt 25 (.sh .slc (.alt 26 (.sh (.int .i64) (.fin (.done))) .stop)) .stop) .stop)) .stop)) .stop)) .stop)) (.alt 15 (.sh .slc (.alt 2 (.fb 15 true .slc (.alt 18 (.sh .slc (.alt 21 (.sh .slc (.alt 24 (.alt 25 (.sh .slc (.alt 26 (.sh (.int .i64) (.fin (.done))) .stop)) .stop) .stop)) .stop)) .stop)) (.alt 18 (.sh .slc (.alt 2 (.fb 15 true .slc (.alt 21 (.sh .slc (.alt 24 (.alt 25 (.sh .slc (.alt 26 (.sh (.int .i64) (.fin (.done))) .stop)) .stop) .stop)) .stop)) (.alt 21 (.sh .slc (.alt 2 (.fb 15 true .slc (.alt 24 (.alt 25 (.sh .slc (.alt 26 (.sh (.int .i64) (.fin (.done))) .stop)) .stop) .stop)) .stop)) .stop))) .stop))) .stop))) .stop))) .stop))) .stop)) (.alt 5 (.sh .slc (.alt 1 (.alt 2 (.fb 15 true .slc (.alt 8 (.sh .slc (.alt 12 (.sh .slc (.alt 15 (.sh .slc (.alt 18 (.sh .slc (.alt 21 (.sh .slc (.alt 24 (.alt 25 (.sh .slc (.alt 26 (.sh (.int .i64) (.fin (.done))) .stop)) .stop) .stop)) .stop)) .stop)) .stop)) .stop)) .stop)) (.alt 8 (.sh .slc (.alt 2 (.fb 15 true .slc (.alt 12 (.sh .slc (.alt 15 (.sh .slc (.alt 18 (.sh .slc (.alt 21 (.sh .slc (.alt 24 (.alt 25 (.sh .slc (.alt 26 (.sh (.int .i64) (.fin (.done))) .stop)) .stop) .stop)) .stop)) .stop)) .stop)) .stop)) (.alt 12 (.sh .slc (.alt 2 (.fb 15 true .slc (.alt 15 (.sh .slc (.alt 18 (.sh .slc (.alt 21 (.sh .slc (.alt 24 (.alt 25 (.sh .slc (.alt 26 (.sh (.int .i64) (.fin (.done))) .stop)) .stop) .stop)) .stop)) .stop)) .stop)) (.alt 15 (.sh .slc (.alt 2 (.fb 15 true .slc (.alt 18 (.sh .slc (.alt 21 (.sh .slc (.alt 24 (.alt 25 (.sh .slc (.alt 26 (.sh (.int .i64) (.fin (.done))) .stop)) .stop) .stop)) .stop)) .stop)) (.alt 18 (.sh .slc (.alt 2 (.fb 15 true .slc (.alt 21 (.sh .slc (.alt 24 (.alt 25 (.sh .slc (.alt 26 (.sh (.int .i64) (.fin (.done))) .stop)) .stop) .stop)) .stop)) (.alt 21 (.sh .slc (.alt 2 (.fb 15 true .slc (.alt 24 (.alt 25 (.sh .slc (.alt 26 (.sh (.int .i64) (.fin (.done))) .stop)) .stop) .stop)) .stop)) .stop))) .stop))) .stop))) .stop))) .stop)) (.alt 8 (.sh .slc (.alt 1 (.alt 2 (.fb 15 true .slc (.alt 12 (.sh .slc (.alt 15 (.sh .slc (.alt 18 (.sh .slc (.alt 21 (.sh .slc (.alt 24 (.alt 25 (.sh .slc (.alt 26 (.sh (.int .i64) (.fin (.done))) .stop)) .stop) .stop)) .stop)) .stop)) .stop)) .stop)) (.alt 12 (.sh .slc (.alt 2 (.fb 15 true .slc (.alt 15 (.sh .slc (.alt 18 (.sh .slc (.alt 21 (.sh .slc (.alt 24 (.alt 25 (.sh .slc (.alt 26 (.sh (.int .i64) (.fin (.done))) .stop)) .stop) .stop)) .stop)) .stop)) .stop)) (.alt 15 (.sh .slc (.alt 2 (.fb 15 true .slc (.alt 18 (.sh .slc (.alt 21 (.sh .slc (.alt 24 (.alt 25 (.sh .slc (.alt 26 (.sh (.int .i64) (.fin (.done))) .stop)) .stop) .stop)) .stop)) .stop)) (.alt 18 (.sh .slc (.alt 2 (.fb 15 true .slc (.alt 21 (.sh .slc (.alt 24 (.alt 25 (.sh .slc (.alt 26 (.sh (.int .i64) (.fin (.done))) .stop)) .stop) .stop)) .stop)) (.alt 21 (.sh .slc (.alt 2 (.fb 15 true .slc (.alt 24 (.alt 25 (.sh .slc (.alt 26 (.sh (.int .i64) (.fin (.done))) .stop)) .stop) .stop)) .stop)) .stop))) .stop))) .stop))) .stop)) (.alt 12 (.sh .slc (.alt 1 (.alt 2 (.fb 15 true .slc (.alt 15 (.sh .slc (.alt 18 (.sh .slc (.alt 21 (.sh .slc (.alt 24 (.alt 25 (.sh .slc (.alt 26 (.sh (.int .i64) (.fin (.done))) .stop)) .stop) .stop)) .stop)) .stop)) .stop)) (.alt 15 (.sh .slc (.alt 2 (.fb 15 true .slc (.alt 18 (.sh .slc (.alt 21 (.sh .slc (.alt 24 (.alt 25 (.sh .slc (.alt 26 (.sh (.int .i64) (.fin (.done))) .stop)) .stop) .stop)) .stop)) .stop)) (.alt 18 (.sh .slc (.alt 2 (.fb 15 true .slc (.alt 21 (.sh .slc (.alt 24 (.alt 25 (.sh .slc (.alt 26 (.sh (.int .i64) (.fin (.done))) .stop)) .stop) .stop)) .stop)) (.alt 21 (.sh .slc (.alt 2 (.fb 15 true .slc (.alt 24 (.alt 25 (.sh .slc (.alt 26 (.sh (.int .i64) (.fin (.done))) .stop)) .stop) .stop)) .stop)) .stop))) .stop))) .stop)) (.alt 15 (.sh .slc (.alt 1 (.alt 2 (.fb 15 true .slc (.alt 18 (.sh .slc (.alt 21 (.sh .slc (.alt 24 (.alt 25 (.sh .slc (.alt 26 (.sh (.int .i64) (.fin (.done))) .stop)) .stop) .stop)) .stop)) .stop)) (.alt 18 (.sh .slc (.alt 2 (.fb 15 true .slc (.alt 21 (.sh .slc (.alt 24 (.alt 25 (.sh .slc (.alt 26 (.sh (.int .i64) (.fin (.done))) .stop)) .stop) .stop)) .stop)) (.alt 21 (.sh .slc (.alt 2 (.fb 15 true .slc (.alt 24 (.alt 25 (.sh .slc (.alt 26 (.sh (.int .i64) (.fin (.done))) .stop)) .stop) .stop)) .stop)) .stop))) .stop)) (.alt 18 (.sh .slc (.alt 1 (.alt 2 (.fb 15 true .slc (.alt 21 (.sh .slc (.alt 24 (.alt 25 (.sh .slc (.alt 26 (.sh (.int .i64) (.fin (.done))) .stop)) .stop) .stop)) .stop)) (.alt 21 (.sh .slc (.alt 2 (.fb 15 true .slc (.alt 24 (.alt 25 (.sh .slc (.alt 26 (.sh (.int .i64) (.fin (.done))) .stop)) .stop) .stop)) .stop)) .stop)) (.alt 21 (.sh .slc (.alt 1 (.alt 2 (.fb 15 true .slc (.alt 24 (.alt 25 (.sh .slc (.alt 26 (.sh (.int .i64) (.fin (.done))) .stop)) .stop) .stop)) .stop) .stop)) .stop))) .stop))) .stop))) .stop))) .stop))) .stop))))))))))))))))))))))))) (.sh (.int .u32) (.sh .slc (.sh .slc (.keep [1, 
    4] (.q 0 (.q 1 (.sh (.int .i64) (.q 3 (.q 4 (.sh (.int .i64) (.alt 2 (.sh .slc (.alt 5 (.sh .slc (.alt 6 (.sh .slc (.q 7 (.fin (.keep [4, 
    5] (.keep [4, 5, 6] (.keep [4, 5, 6, 53] (.loop [(6, .slc), (53, (.int .i64))] [4, 5] (.keep [4, 5, 6, 53, 54] (.split (.keep [4, 5, 6, 
    53] (.keep [4, 5, 6, 7, 53] (.keep [4, 5, 6, 7, 8, 53] (.q 0 (.q 1 (.q 2 (.q 3 (.q 4 (.q 5 (.q 6 (.q 7 (.alt 8 (.sh (.int .i64) (.fin (.keep [4, 5, 
    6, 8, 53] (.sh (.int .i64) (.keep [4, 5, 6, 8, 53] (.sh .slc (.keep [4, 5, 6, 53] (.done)))))))) .stop)))))))))))) (.keep [6] (.keep [2, 
    3] (.done)))))))))))) .stop)) .stop)) .stop)))))))))))))))))))
def F_seg_Encode (a1 : Int) (a2 : Int) (a3 : Int) (a4 : Int) (a5 : Int) (a6a : Option Addr) (a6l a6c : Nat) (w : World) (R : Ending → World → Prop) : Prop :=
    ∀ w7, w7 = w.alloc (.cells #[(.int .i64 a1), (.int .i64 a2), (.int .i64 a3), (.int .i64 a4), (.int .i64 a5), (.slice a6a a6l a6c)] 87) → ∃ n14 : Int, 
    w7.cell? ⟨w.heap.size, 0, none⟩ = some (.int .i64 n14) ∧ ∃ n15 : Int, w7.cell? ⟨w.heap.size, 0 + 1, none⟩ = some (.int .i64 n15) ∧ ∃ n16 : Int, 
    w7.cell? ⟨w.heap.size, 0 + 2, none⟩ = some (.int .i64 n16) ∧ ∃ n17 : Int, w7.cell? ⟨w.heap.size, 0 + 3, none⟩ = some (.int .i64 n17) ∧ ∃ n18 : Int, 
    w7.cell? ⟨w.heap.size, 0 + 4, none⟩ = some (.int .i64 n18) ∧ ∃ (s19a : Option Addr) (s19l s19c : Nat), w7.cell? ⟨w.heap.size, 0 + 5, 
    none⟩ = some (.slice s19a s19l s19c) ∧ Calls Try.prog 43 #[(.agg #[(.int .i64 n14), (.int .i64 n15), (.int .i64 n16), (.int .i64 n17), 
    (.int .i64 n18), (.slice s19a s19l s19c)])] w7 (fun e20 w21 => ∃ r22 : Bool, e20 = .returned (.bool r22) ∧ ((!r22) = true → 
    R (.returned (.tuple #[(.slice none 0 0), (.int .i64 (70 : Int))])) w21) ∧ ((!r22) = false → ∃ (s23a : Option Addr) (s23l s23c : Nat), ∃ w24, 
    Sem.run Try.prog (Instr.makeSlice 47 (.int .i64 (220 : Int)) (.int .i64 (220 : Int))) w21 = .ok (.slice s23a s23l s23c) w24 ∧ ∀ J25 : World → Prop, 
    (∀ (w26 : World), (Calls Try.prog 65 #[(.slice s23a s23l s23c)] w26 (fun e27 w28 => ∃ r29 : Int, e27 = .returned (.int .u32 r29) ∧ ∀ n30 : Int, 
    n30 = (IntKind.wrap .i64 r29) → Calls Try.prog 64 #[(.int .i64 n30), 
    (.int .i64 (4 : Int))] w28 (fun e31 w32 => ∃ (r33a : Option Addr) (r33l r33c : Nat), e31 = .returned (.slice r33a r33l r33c) ∧ 
    ∃ (s34a : Option Addr) (s34l s34c : Nat), ∃ w35, Sem.run Try.prog (Builtin.append_ #[47, 47] 47 #[(.slice s23a s23l s23c), 
    (.slice r33a r33l r33c)]) w32 = .ok (.slice s34a s34l s34c) w35 ∧ ∃ Place36 : Int, w35.drew.cell? ⟨w.heap.size, 0, none⟩ = some (.int .i64 Place36) ∧ 
    ∃ Era37 : Int, w35.drew.cell? ⟨w.heap.size, 0 + 3, none⟩ = some (.int .i64 Era37) ∧ Calls Try.prog 64 #[(.int .i64 Place36), 
    (.int .i64 (4 : Int))] w35.drew (fun e38 w39 => ∃ (r40a : Option Addr) (r40l r40c : Nat), e38 = .returned (.slice r40a r40l r40c) ∧ 
    w39.cell? ⟨w.heap.size, 0 + 3, none⟩ = some (.int .i64 Era37) ∧ Calls Try.prog 64 #[(.int .i64 Era37), 
    (.int .i64 (4 : Int))] w39 (fun e41 w42 => ∃ (r43a : Option Addr) (r43l r43c : Nat), e41 = .returned (.slice r43a r43l r43c) ∧ 
    ∃ (s44a : Option Addr) (s44l s44c : Nat), ∃ w45, Sem.run Try.prog (Builtin.append_ #[47, 47] 47 #[(.slice r40a r40l r40c), 
    (.slice r43a r43l r43c)]) w42 = .ok (.slice s44a s44l s44c) w45 ∧ ∃ (I46 : Slc → Int → World → Prop) (mu47 : Slc → Int → World → Nat), I46 ⟨none, 0, 
    0⟩ (0 : Int) w45 ∧ ∀ (x48 : Slc) (x49 : Int) (w50 : World), I46 x48 x49 w50 → ((decide (x49 < (4 : Int))) = true → ∀ w51, 
    w51 = w50.alloc (.cells (zeroCellsOf Try.prog 93) 93) → ∀ n52 : Int, n52 = (IntKind.wrap .i64 (x49 * (56 : Int))) → ∀ n53 : Int, 
    n53 = (IntKind.wrap .i64 (x49 + (1 : Int))) → ∀ n54 : Int, n54 = (IntKind.wrap .i64 (n53 * (56 : Int))) → 0 ≤ n52 ∧ n52 ≤ n54 ∧ 
    n54 ≤ ((s34c : Nat) : Int) ∧ ∃ n55 : Int, ∃ w56, Sem.run Try.prog (Builtin.copy_ #[47, 47] 3 #[(.slice (some (if 64 = 0 then ⟨w50.heap.size, 0, 
    none⟩ else Addr.add ⟨w50.heap.size, 0, none⟩ (0 * 1))) (64 - 0) (64 - 0)), 
    (.slice (cutBase s34a (Int.toNat n52) s34c 1) ((Int.toNat n54) - (Int.toNat n52)) (s34c - (Int.toNat n52)))]) w51.drew = .ok (.int .i64 n55) w56 ∧ 
    0 ≤ (56 : Int) ∧ (56 : Int) ≤ ((64 : Nat) : Int) ∧ ∃ n57 : Int, ∃ w58, Sem.run Try.prog (Builtin.copy_ #[47, 
    47] 3 #[(.slice (cutBase (some ⟨w50.heap.size, 0, none⟩) (Int.toNat (56 : Int)) 64 1) (64 - (Int.toNat (56 : Int))) (64 - (Int.toNat (56 : Int)))), 
    (.slice s44a s44l s44c)]) w56 = .ok (.int .i64 n57) w58 ∧ ∃ (s59a : Option Addr) (s59l s59c : Nat), ∃ w60, Sem.run Try.prog (Builtin.append_ #[47, 
    47] 47 #[(.slice x48.a x48.len x48.cap), (.slice (some (if 64 = 0 then ⟨w50.heap.size, 0, none⟩ else Addr.add ⟨w50.heap.size, 0, 
    none⟩ (0 * 1))) (64 - 0) (64 - 0))]) w58 = .ok (.slice s59a s59l s59c) w60 ∧ ∀ n61 : Int, n61 = (IntKind.wrap .i64 (x49 + (1 : Int))) → I46 ⟨s59a, 
    s59l, s59c⟩ n61 w60 ∧ mu47 ⟨s59a, s59l, s59c⟩ n61 w60 < mu47 x48 x49 w50) ∧ ((decide (x49 < (4 : Int))) = false → 
    R (.returned (.tuple #[(.slice x48.a x48.len x48.cap), (.int .i64 (0 : Int))])) w50)))))) → J25  w26) → ∃ Parts62 : Int, w24.drew.cell? ⟨w.heap.size, 
    0 + 4, none⟩ = some (.int .i64 Parts62) ∧ ∃ Index63 : Int, w24.drew.cell? ⟨w.heap.size, 0 + 2, none⟩ = some (.int .i64 Index63) ∧ 
    ∃ (Data64a : Option Addr) (Data64l Data64c : Nat), w24.drew.cell? ⟨w.heap.size, 0 + 5, none⟩ = some (.slice Data64a Data64l Data64c) ∧ ∃ No65 : Int, 
    w24.drew.cell? ⟨w.heap.size, 0 + 1, none⟩ = some (.int .i64 No65) ∧ ∃ Place66 : Int, w24.drew.cell? ⟨w.heap.size, 0, 
    none⟩ = some (.int .i64 Place66) ∧ ∃ Era67 : Int, w24.drew.cell? ⟨w.heap.size, 0 + 3, none⟩ = some (.int .i64 Era67) ∧ 
    ∃ (Data68a : Option Addr) (Data68l Data68c : Nat), w24.drew.cell? ⟨w.heap.size, 0 + 5, none⟩ = some (.slice Data68a Data68l Data68c) ∧ (∀ w69, 
    w69 = w24.drew.alloc (.cells #[(.int .u8 (80 : Int)), (.int .u8 (66 : Int))] 5) → w69.cell? ⟨w.heap.size, 0 + 5, 
    none⟩ = some (.slice Data68a Data68l Data68c) ∧ w69.cell? ⟨w.heap.size, 0 + 3, none⟩ = some (.int .i64 Era67) ∧ w69.cell? ⟨w.heap.size, 0, 
    none⟩ = some (.int .i64 Place66) ∧ w69.cell? ⟨w.heap.size, 0 + 1, none⟩ = some (.int .i64 No65) ∧ w69.cell? ⟨w.heap.size, 0 + 5, 
    none⟩ = some (.slice Data64a Data64l Data64c) ∧ w69.cell? ⟨w.heap.size, 0 + 2, none⟩ = some (.int .i64 Index63) ∧ w69.cell? ⟨w.heap.size, 0 + 4, 
    none⟩ = some (.int .i64 Parts62) ∧ (∃ (s70a : Option Addr) (s70l s70c : Nat), ∃ w71, 
    Sem.run Try.prog (convert 47 47 (.slice (some ⟨w24.drew.heap.size, 0, none⟩) 2 2)) w69 = .ok (.slice s70a s70l s70c) w71 ∧ w71.cell? ⟨w.heap.size, 
    0 + 5, none⟩ = some (.slice Data68a Data68l Data68c) ∧ w71.cell? ⟨w.heap.size, 0 + 3, none⟩ = some (.int .i64 Era67) ∧ w71.cell? ⟨w.heap.size, 0, 
    none⟩ = some (.int .i64 Place66) ∧ w71.cell? ⟨w.heap.size, 0 + 1, none⟩ = some (.int .i64 No65) ∧ w71.cell? ⟨w.heap.size, 0 + 5, 
    none⟩ = some (.slice Data64a Data64l Data64c) ∧ w71.cell? ⟨w.heap.size, 0 + 2, none⟩ = some (.int .i64 Index63) ∧ w71.cell? ⟨w.heap.size, 0 + 4, 
    none⟩ = some (.int .i64 Parts62) ∧ Calls Try.prog 64 #[(.int .i64 Parts62), 
    (.int .i64 (1 : Int))] w71 (fun e72 w73 => ∃ (r74a : Option Addr) (r74l r74c : Nat), e72 = .returned (.slice r74a r74l r74c) ∧ 
    w73.cell? ⟨w.heap.size, 0 + 5, none⟩ = some (.slice Data68a Data68l Data68c) ∧ w73.cell? ⟨w.heap.size, 0 + 3, none⟩ = some (.int .i64 Era67) ∧ 
    w73.cell? ⟨w.heap.size, 0, none⟩ = some (.int .i64 Place66) ∧ w73.cell? ⟨w.heap.size, 0 + 1, none⟩ = some (.int .i64 No65) ∧ w73.cell? ⟨w.heap.size, 
    0 + 5, none⟩ = some (.slice Data64a Data64l Data64c) ∧ w73.cell? ⟨w.heap.size, 0 + 2, none⟩ = some (.int .i64 Index63) ∧ 
    Calls Try.prog 64 #[(.int .i64 Index63), (.int .i64 (1 : Int))] w73 (fun e75 w76 => ∃ (r77a : Option Addr) (r77l r77c : Nat), 
    e75 = .returned (.slice r77a r77l r77c) ∧ w76.cell? ⟨w.heap.size, 0 + 5, none⟩ = some (.slice Data68a Data68l Data68c) ∧ w76.cell? ⟨w.heap.size, 
    0 + 3, none⟩ = some (.int .i64 Era67) ∧ w76.cell? ⟨w.heap.size, 0, none⟩ = some (.int .i64 Place66) ∧ w76.cell? ⟨w.heap.size, 0 + 1, 
    none⟩ = some (.int .i64 No65) ∧ w76.cell? ⟨w.heap.size, 0 + 5, none⟩ = some (.slice Data64a Data64l Data64c) ∧ 
    Calls Try.prog 64 #[(.int .i64 ((Data64l : Nat) : Int)), (.int .i64 (2 : Int))] w76 (fun e78 w79 => ∃ (r80a : Option Addr) (r80l r80c : Nat), 
    e78 = .returned (.slice r80a r80l r80c) ∧ w79.cell? ⟨w.heap.size, 0 + 5, none⟩ = some (.slice Data68a Data68l Data68c) ∧ w79.cell? ⟨w.heap.size, 
    0 + 3, none⟩ = some (.int .i64 Era67) ∧ w79.cell? ⟨w.heap.size, 0, none⟩ = some (.int .i64 Place66) ∧ w79.cell? ⟨w.heap.size, 0 + 1, 
    none⟩ = some (.int .i64 No65) ∧ Calls Try.prog 64 #[(.int .i64 No65), 
    (.int .i64 (6 : Int))] w79 (fun e81 w82 => ∃ (r83a : Option Addr) (r83l r83c : Nat), e81 = .returned (.slice r83a r83l r83c) ∧ 
    w82.cell? ⟨w.heap.size, 0 + 5, none⟩ = some (.slice Data68a Data68l Data68c) ∧ w82.cell? ⟨w.heap.size, 0 + 3, none⟩ = some (.int .i64 Era67) ∧ 
    w82.cell? ⟨w.heap.size, 0, none⟩ = some (.int .i64 Place66) ∧ Calls Try.prog 64 #[(.int .i64 Place66), 
    (.int .i64 (6 : Int))] w82 (fun e84 w85 => ∃ (r86a : Option Addr) (r86l r86c : Nat), e84 = .returned (.slice r86a r86l r86c) ∧ 
    w85.cell? ⟨w.heap.size, 0 + 5, none⟩ = some (.slice Data68a Data68l Data68c) ∧ w85.cell? ⟨w.heap.size, 0 + 3, none⟩ = some (.int .i64 Era67) ∧ 
    Calls Try.prog 64 #[(.int .i64 Era67), (.int .i64 (4 : Int))] w85 (fun e87 w88 => ∃ (r89a : Option Addr) (r89l r89c : Nat), 
    e87 = .returned (.slice r89a r89l r89c) ∧ w88.cell? ⟨w.heap.size, 0 + 5, none⟩ = some (.slice Data68a Data68l Data68c) ∧ ∀ w90, 
    w90 = w88.alloc (.cells #[(.slice s70a s70l s70c), (.slice r74a r74l r74c), (.slice r77a r77l r77c), (.slice r80a r80l r80c), 
    (.slice r83a r83l r83c), (.slice r86a r86l r86c), (.slice r89a r89l r89c), (.slice Data68a Data68l Data68c)] 47) → 
    Calls Try.prog 63 #[(.slice (some ⟨w88.heap.size, 0, none⟩) 8 8)] w90 (fun e91 w92 => ∃ (r93a : Option Addr) (r93l r93c : Nat), 
    e91 = .returned (.slice r93a r93l r93c) ∧ ∃ n94 : Int, ∃ w95, Sem.run Try.prog (Builtin.copy_ #[47, 47] 3 #[(.slice s23a s23l s23c), 
    (.slice r93a r93l r93c)]) w92 = .ok (.int .i64 n94) w95 ∧ J25  w95)))))))) ∧ (Calls Try.prog 64 #[(.int .i64 Parts62), 
    (.int .i64 (1 : Int))] w69 (fun e96 w97 => ∃ (r98a : Option Addr) (r98l r98c : Nat), e96 = .returned (.slice r98a r98l r98c) ∧ 
    w97.cell? ⟨w.heap.size, 0 + 5, none⟩ = some (.slice Data68a Data68l Data68c) ∧ w97.cell? ⟨w.heap.size, 0 + 3, none⟩ = some (.int .i64 Era67) ∧ 
    w97.cell? ⟨w.heap.size, 0, none⟩ = some (.int .i64 Place66) ∧ w97.cell? ⟨w.heap.size, 0 + 1, none⟩ = some (.int .i64 No65) ∧ w97.cell? ⟨w.heap.size, 
    0 + 5, none⟩ = some (.slice Data64a Data64l Data64c) ∧ w97.cell? ⟨w.heap.size, 0 + 2, none⟩ = some (.int .i64 Index63) ∧ 
    (∃ (s99a : Option Addr) (s99l s99c : Nat), ∃ w100, Sem.run Try.prog (convert 47 47 (.slice (some ⟨w24.drew.heap.size, 0, 
    none⟩) 2 2)) w97 = .ok (.slice s99a s99l s99c) w100 ∧ w100.cell? ⟨w.heap.size, 0 + 5, none⟩ = some (.slice Data68a Data68l Data68c) ∧ 
    w100.cell? ⟨w.heap.size, 0 + 3, none⟩ = some (.int .i64 Era67) ∧ w100.cell? ⟨w.heap.size, 0, none⟩ = some (.int .i64 Place66) ∧ 
    w100.cell? ⟨w.heap.size, 0 + 1, none⟩ = some (.int .i64 No65) ∧ w100.cell? ⟨w.heap.size, 0 + 5, none⟩ = some (.slice Data64a Data64l Data64c) ∧ 
    w100.cell? ⟨w.heap.size, 0 + 2, none⟩ = some (.int .i64 Index63) ∧ w100.cell? ⟨w.heap.size, 0 + 4, none⟩ = some (.int .i64 Parts62) ∧ 
    Calls Try.prog 64 #[(.int .i64 Index63), (.int .i64 (1 : Int))] w100 (fun e101 w102 => ∃ (r103a : Option Addr) (r103l r103c : Nat), 
    e101 = .returned (.slice r103a r103l r103c) ∧ w102.cell? ⟨w.heap.size, 0 + 5, none⟩ = some (.slice Data68a Data68l Data68c) ∧ 
    w102.cell? ⟨w.heap.size, 0 + 3, none⟩ = some (.int .i64 Era67) ∧ w102.cell? ⟨w.heap.size, 0, none⟩ = some (.int .i64 Place66) ∧ 
    w102.cell? ⟨w.heap.size, 0 + 1, none⟩ = some (.int .i64 No65) ∧ w102.cell? ⟨w.heap.size, 0 + 5, none⟩ = some (.slice Data64a Data64l Data64c) ∧ 
    Calls Try.prog 64 #[(.int .i64 ((Data64l : Nat) : Int)), (.int .i64 (2 : Int))] w102 (fun e104 w105 => ∃ (r106a : Option Addr) (r106l r106c : Nat), 
    e104 = .returned (.slice r106a r106l r106c) ∧ w105.cell? ⟨w.heap.size, 0 + 5, none⟩ = some (.slice Data68a Data68l Data68c) ∧ 
    w105.cell? ⟨w.heap.size, 0 + 3, none⟩ = some (.int .i64 Era67) ∧ w105.cell? ⟨w.heap.size, 0, none⟩ = some (.int .i64 Place66) ∧ 
    w105.cell? ⟨w.heap.size, 0 + 1, none⟩ = some (.int .i64 No65) ∧ Calls Try.prog 64 #[(.int .i64 No65), 
    (.int .i64 (6 : Int))] w105 (fun e107 w108 => ∃ (r109a : Option Addr) (r109l r109c : Nat), e107 = .returned (.slice r109a r109l r109c) ∧ 
    w108.cell? ⟨w.heap.size, 0 + 5, none⟩ = some (.slice Data68a Data68l Data68c) ∧ w108.cell? ⟨w.heap.size, 0 + 3, none⟩ = some (.int .i64 Era67) ∧ 
    w108.cell? ⟨w.heap.size, 0, none⟩ = some (.int .i64 Place66) ∧ Calls Try.prog 64 #[(.int .i64 Place66), 
    (.int .i64 (6 : Int))] w108 (fun e110 w111 => ∃ (r112a : Option Addr) (r112l r112c : Nat), e110 = .returned (.slice r112a r112l r112c) ∧ 
    w111.cell? ⟨w.heap.size, 0 + 5, none⟩ = some (.slice Data68a Data68l Data68c) ∧ w111.cell? ⟨w.heap.size, 0 + 3, none⟩ = some (.int .i64 Era67) ∧ 
    Calls Try.prog 64 #[(.int .i64 Era67), (.int .i64 (4 : Int))] w111 (fun e113 w114 => ∃ (r115a : Option Addr) (r115l r115c : Nat), 
    e113 = .returned (.slice r115a r115l r115c) ∧ w114.cell? ⟨w.heap.size, 0 + 5, none⟩ = some (.slice Data68a Data68l Data68c) ∧ ∀ w116, 
    w116 = w114.alloc (.cells #[(.slice s99a s99l s99c), (.slice r98a r98l r98c), (.slice r103a r103l r103c), (.slice r106a r106l r106c), 
    (.slice r109a r109l r109c), (.slice r112a r112l r112c), (.slice r115a r115l r115c), (.slice Data68a Data68l Data68c)] 47) → 
    Calls Try.prog 63 #[(.slice (some ⟨w114.heap.size, 0, none⟩) 8 8)] w116 (fun e117 w118 => ∃ (r119a : Option Addr) (r119l r119c : Nat), 
    e117 = .returned (.slice r119a r119l r119c) ∧ ∃ n120 : Int, ∃ w121, Sem.run Try.prog (Builtin.copy_ #[47, 47] 3 #[(.slice s23a s23l s23c), 
    (.slice r119a r119l r119c)]) w118 = .ok (.int .i64 n120) w121 ∧ J25  w121))))))) ∧ (Calls Try.prog 64 #[(.int .i64 Index63), 
    (.int .i64 (1 : Int))] w97 (fun e122 w123 => ∃ (r124a : Option Addr) (r124l r124c : Nat), e122 = .returned (.slice r124a r124l r124c) ∧ 
    w123.cell? ⟨w.heap.size, 0 + 5, none⟩ = some (.slice Data68a Data68l Data68c) ∧ w123.cell? ⟨w.heap.size, 0 + 3, none⟩ = some (.int .i64 Era67) ∧ 
    w123.cell? ⟨w.heap.size, 0, none⟩ = some (.int .i64 Place66) ∧ w123.cell? ⟨w.heap.size, 0 + 1, none⟩ = some (.int .i64 No65) ∧ 
    w123.cell? ⟨w.heap.size, 0 + 5, none⟩ = some (.slice Data64a Data64l Data64c) ∧ (∃ (s125a : Option Addr) (s125l s125c : Nat), ∃ w126, 
    Sem.run Try.prog (convert 47 47 (.slice (some ⟨w24.drew.heap.size, 0, none⟩) 2 2)) w123 = .ok (.slice s125a s125l s125c) w126 ∧ 
    w126.cell? ⟨w.heap.size, 0 + 5, none⟩ = some (.slice Data68a Data68l Data68c) ∧ w126.cell? ⟨w.heap.size, 0 + 3, none⟩ = some (.int .i64 Era67) ∧ 
    w126.cell? ⟨w.heap.size, 0, none⟩ = some (.int .i64 Place66) ∧ w126.cell? ⟨w.heap.size, 0 + 1, none⟩ = some (.int .i64 No65) ∧ 
    w126.cell? ⟨w.heap.size, 0 + 5, none⟩ = some (.slice Data64a Data64l Data64c) ∧ w126.cell? ⟨w.heap.size, 0 + 2, none⟩ = some (.int .i64 Index63) ∧ 
    w126.cell? ⟨w.heap.size, 0 + 4, none⟩ = some (.int .i64 Parts62) ∧ Calls Try.prog 64 #[(.int .i64 ((Data64l : Nat) : Int)), 
    (.int .i64 (2 : Int))] w126 (fun e127 w128 => ∃ (r129a : Option Addr) (r129l r129c : Nat), e127 = .returned (.slice r129a r129l r129c) ∧ 
    w128.cell? ⟨w.heap.size, 0 + 5, none⟩ = some (.slice Data68a Data68l Data68c) ∧ w128.cell? ⟨w.heap.size, 0 + 3, none⟩ = some (.int .i64 Era67) ∧ 
    w128.cell? ⟨w.heap.size, 0, none⟩ = some (.int .i64 Place66) ∧ w128.cell? ⟨w.heap.size, 0 + 1, none⟩ = some (.int .i64 No65) ∧ 
    Calls Try.prog 64 #[(.int .i64 No65), (.int .i64 (6 : Int))] w128 (fun e130 w131 => ∃ (r132a : Option Addr) (r132l r132c : Nat), 
    e130 = .returned (.slice r132a r132l r132c) ∧ w131.cell? ⟨w.heap.size, 0 + 5, none⟩ = some (.slice Data68a Data68l Data68c) ∧ 
    w131.cell? ⟨w.heap.size, 0 + 3, none⟩ = some (.int .i64 Era67) ∧ w131.cell? ⟨w.heap.size, 0, none⟩ = some (.int .i64 Place66) ∧ 
    Calls Try.prog 64 #[(.int .i64 Place66), (.int .i64 (6 : Int))] w131 (fun e133 w134 => ∃ (r135a : Option Addr) (r135l r135c : Nat), 
    e133 = .returned (.slice r135a r135l r135c) ∧ w134.cell? ⟨w.heap.size, 0 + 5, none⟩ = some (.slice Data68a Data68l Data68c) ∧ 
    w134.cell? ⟨w.heap.size, 0 + 3, none⟩ = some (.int .i64 Era67) ∧ Calls Try.prog 64 #[(.int .i64 Era67), 
    (.int .i64 (4 : Int))] w134 (fun e136 w137 => ∃ (r138a : Option Addr) (r138l r138c : Nat), e136 = .returned (.slice r138a r138l r138c) ∧ 
    w137.cell? ⟨w.heap.size, 0 + 5, none⟩ = some (.slice Data68a Data68l Data68c) ∧ ∀ w139, w139 = w137.alloc (.cells #[(.slice s125a s125l s125c), 
    (.slice r98a r98l r98c), (.slice r124a r124l r124c), (.slice r129a r129l r129c), (.slice r132a r132l r132c), (.slice r135a r135l r135c), 
    (.slice r138a r138l r138c), (.slice Data68a Data68l Data68c)] 47) → Calls Try.prog 63 #[(.slice (some ⟨w137.heap.size, 0, 
    none⟩) 8 8)] w139 (fun e140 w141 => ∃ (r142a : Option Addr) (r142l r142c : Nat), e140 = .returned (.slice r142a r142l r142c) ∧ ∃ n143 : Int, ∃ w144, 
    Sem.run Try.prog (Builtin.copy_ #[47, 47] 3 #[(.slice s23a s23l s23c), (.slice r142a r142l r142c)]) w141 = .ok (.int .i64 n143) w144 ∧ 
    J25  w144)))))) ∧ (Calls Try.prog 64 #[(.int .i64 ((Data64l : Nat) : Int)), 
    (.int .i64 (2 : Int))] w123 (fun e145 w146 => ∃ (r147a : Option Addr) (r147l r147c : Nat), e145 = .returned (.slice r147a r147l r147c) ∧ 
    w146.cell? ⟨w.heap.size, 0 + 5, none⟩ = some (.slice Data68a Data68l Data68c) ∧ w146.cell? ⟨w.heap.size, 0 + 3, none⟩ = some (.int .i64 Era67) ∧ 
    w146.cell? ⟨w.heap.size, 0, none⟩ = some (.int .i64 Place66) ∧ w146.cell? ⟨w.heap.size, 0 + 1, none⟩ = some (.int .i64 No65) ∧ 
    (∃ (s148a : Option Addr) (s148l s148c : Nat), ∃ w149, Sem.run Try.prog (convert 47 47 (.slice (some ⟨w24.drew.heap.size, 0, 
    none⟩) 2 2)) w146 = .ok (.slice s148a s148l s148c) w149 ∧ w149.cell? ⟨w.heap.size, 0 + 5, none⟩ = some (.slice Data68a Data68l Data68c) ∧ 
    w149.cell? ⟨w.heap.size, 0 + 3, none⟩ = some (.int .i64 Era67) ∧ w149.cell? ⟨w.heap.size, 0, none⟩ = some (.int .i64 Place66) ∧ 
    w149.cell? ⟨w.heap.size, 0 + 1, none⟩ = some (.int .i64 No65) ∧ w149.cell? ⟨w.heap.size, 0 + 5, none⟩ = some (.slice Data64a Data64l Data64c) ∧ 
    w149.cell? ⟨w.heap.size, 0 + 2, none⟩ = some (.int .i64 Index63) ∧ w149.cell? ⟨w.heap.size, 0 + 4, none⟩ = some (.int .i64 Parts62) ∧ 
    Calls Try.prog 64 #[(.int .i64 No65), (.int .i64 (6 : Int))] w149 (fun e150 w151 => ∃ (r152a : Option Addr) (r152l r152c : Nat), 
    e150 = .returned (.slice r152a r152l r152c) ∧ w151.cell? ⟨w.heap.size, 0 + 5, none⟩ = some (.slice Data68a Data68l Data68c) ∧ 
    w151.cell? ⟨w.heap.size, 0 + 3, none⟩ = some (.int .i64 Era67) ∧ w151.cell? ⟨w.heap.size, 0, none⟩ = some (.int .i64 Place66) ∧ 
    Calls Try.prog 64 #[(.int .i64 Place66), (.int .i64 (6 : Int))] w151 (fun e153 w154 => ∃ (r155a : Option Addr) (r155l r155c : Nat), 
    e153 = .returned (.slice r155a r155l r155c) ∧ w154.cell? ⟨w.heap.size, 0 + 5, none⟩ = some (.slice Data68a Data68l Data68c) ∧ 
    w154.cell? ⟨w.heap.size, 0 + 3, none⟩ = some (.int .i64 Era67) ∧ Calls Try.prog 64 #[(.int .i64 Era67), 
    (.int .i64 (4 : Int))] w154 (fun e156 w157 => ∃ (r158a : Option Addr) (r158l r158c : Nat), e156 = .returned (.slice r158a r158l r158c) ∧ 
    w157.cell? ⟨w.heap.size, 0 + 5, none⟩ = some (.slice Data68a Data68l Data68c) ∧ ∀ w159, w159 = w157.alloc (.cells #[(.slice s148a s148l s148c), 
    (.slice r98a r98l r98c), (.slice r124a r124l r124c), (.slice r147a r147l r147c), (.slice r152a r152l r152c), (.slice r155a r155l r155c), 
    (.slice r158a r158l r158c), (.slice Data68a Data68l Data68c)] 47) → Calls Try.prog 63 #[(.slice (some ⟨w157.heap.size, 0, 
    none⟩) 8 8)] w159 (fun e160 w161 => ∃ (r162a : Option Addr) (r162l r162c : Nat), e160 = .returned (.slice r162a r162l r162c) ∧ ∃ n163 : Int, ∃ w164, 
    Sem.run Try.prog (Builtin.copy_ #[47, 47] 3 #[(.slice s23a s23l s23c), (.slice r162a r162l r162c)]) w161 = .ok (.int .i64 n163) w164 ∧ 
    J25  w164))))) ∧ (Calls Try.prog 64 #[(.int .i64 No65), (.int .i64 (6 : Int))] w146 (fun e165 w166 => ∃ (r167a : Option Addr) (r167l r167c : Nat), 
    e165 = .returned (.slice r167a r167l r167c) ∧ w166.cell? ⟨w.heap.size, 0 + 5, none⟩ = some (.slice Data68a Data68l Data68c) ∧ 
    w166.cell? ⟨w.heap.size, 0 + 3, none⟩ = some (.int .i64 Era67) ∧ w166.cell? ⟨w.heap.size, 0, none⟩ = some (.int .i64 Place66) ∧ 
    (∃ (s168a : Option Addr) (s168l s168c : Nat), ∃ w169, Sem.run Try.prog (convert 47 47 (.slice (some ⟨w24.drew.heap.size, 0, 
    none⟩) 2 2)) w166 = .ok (.slice s168a s168l s168c) w169 ∧ w169.cell? ⟨w.heap.size, 0 + 5, none⟩ = some (.slice Data68a Data68l Data68c) ∧ 
    w169.cell? ⟨w.heap.size, 0 + 3, none⟩ = some (.int .i64 Era67) ∧ w169.cell? ⟨w.heap.size, 0, none⟩ = some (.int .i64 Place66) ∧ 
    w169.cell? ⟨w.heap.size, 0 + 1, none⟩ = some (.int .i64 No65) ∧ w169.cell? ⟨w.heap.size, 0 + 5, none⟩ = some (.slice Data64a Data64l Data64c) ∧ 
    w169.cell? ⟨w.heap.size, 0 + 2, none⟩ = some (.int .i64 Index63) ∧ w169.cell? ⟨w.heap.size, 0 + 4, none⟩ = some (.int .i64 Parts62) ∧ 
    Calls Try.prog 64 #[(.int .i64 Place66), (.int .i64 (6 : Int))] w169 (fun e170 w171 => ∃ (r172a : Option Addr) (r172l r172c : Nat), 
    e170 = .returned (.slice r172a r172l r172c) ∧ w171.cell? ⟨w.heap.size, 0 + 5, none⟩ = some (.slice Data68a Data68l Data68c) ∧ 
    w171.cell? ⟨w.heap.size, 0 + 3, none⟩ = some (.int .i64 Era67) ∧ Calls Try.prog 64 #[(.int .i64 Era67), 
    (.int .i64 (4 : Int))] w171 (fun e173 w174 => ∃ (r175a : Option Addr) (r175l r175c : Nat), e173 = .returned (.slice r175a r175l r175c) ∧ 
    w174.cell? ⟨w.heap.size, 0 + 5, none⟩ = some (.slice Data68a Data68l Data68c) ∧ ∀ w176, w176 = w174.alloc (.cells #[(.slice s168a s168l s168c), 
    (.slice r98a r98l r98c), (.slice r124a r124l r124c), (.slice r147a r147l r147c), (.slice r167a r167l r167c), (.slice r172a r172l r172c), 
    (.slice r175a r175l r175c), (.slice Data68a Data68l Data68c)] 47) → Calls Try.prog 63 #[(.slice (some ⟨w174.heap.size, 0, 
    none⟩) 8 8)] w176 (fun e177 w178 => ∃ (r179a : Option Addr) (r179l r179c : Nat), e177 = .returned (.slice r179a r179l r179c) ∧ ∃ n180 : Int, ∃ w181, 
    Sem.run Try.prog (Builtin.copy_ #[47, 47] 3 #[(.slice s23a s23l s23c), (.slice r179a r179l r179c)]) w178 = .ok (.int .i64 n180) w181 ∧ 
    J25  w181)))) ∧ (Calls Try.prog 64 #[(.int .i64 Place66), (.int .i64 (6 : Int))] w166 (fun e182 w183 => ∃ (r184a : Option Addr) (r184l r184c : Nat), 
    e182 = .returned (.slice r184a r184l r184c) ∧ w183.cell? ⟨w.heap.size, 0 + 5, none⟩ = some (.slice Data68a Data68l Data68c) ∧ 
    w183.cell? ⟨w.heap.size, 0 + 3, none⟩ = some (.int .i64 Era67) ∧ (∃ (s185a : Option Addr) (s185l s185c : Nat), ∃ w186, 
    Sem.run Try.prog (convert 47 47 (.slice (some ⟨w24.drew.heap.size, 0, none⟩) 2 2)) w183 = .ok (.slice s185a s185l s185c) w186 ∧ 
    w186.cell? ⟨w.heap.size, 0 + 5, none⟩ = some (.slice Data68a Data68l Data68c) ∧ w186.cell? ⟨w.heap.size, 0 + 3, none⟩ = some (.int .i64 Era67) ∧ 
    w186.cell? ⟨w.heap.size, 0, none⟩ = some (.int .i64 Place66) ∧ w186.cell? ⟨w.heap.size, 0 + 1, none⟩ = some (.int .i64 No65) ∧ 
    w186.cell? ⟨w.heap.size, 0 + 5, none⟩ = some (.slice Data64a Data64l Data64c) ∧ w186.cell? ⟨w.heap.size, 0 + 2, none⟩ = some (.int .i64 Index63) ∧ 
    w186.cell? ⟨w.heap.size, 0 + 4, none⟩ = some (.int .i64 Parts62) ∧ Calls Try.prog 64 #[(.int .i64 Era67), 
    (.int .i64 (4 : Int))] w186 (fun e187 w188 => ∃ (r189a : Option Addr) (r189l r189c : Nat), e187 = .returned (.slice r189a r189l r189c) ∧ 
    w188.cell? ⟨w.heap.size, 0 + 5, none⟩ = some (.slice Data68a Data68l Data68c) ∧ ∀ w190, w190 = w188.alloc (.cells #[(.slice s185a s185l s185c), 
    (.slice r98a r98l r98c), (.slice r124a r124l r124c), (.slice r147a r147l r147c), (.slice r167a r167l r167c), (.slice r184a r184l r184c), 
    (.slice r189a r189l r189c), (.slice Data68a Data68l Data68c)] 47) → Calls Try.prog 63 #[(.slice (some ⟨w188.heap.size, 0, 
    none⟩) 8 8)] w190 (fun e191 w192 => ∃ (r193a : Option Addr) (r193l r193c : Nat), e191 = .returned (.slice r193a r193l r193c) ∧ ∃ n194 : Int, ∃ w195, 
    Sem.run Try.prog (Builtin.copy_ #[47, 47] 3 #[(.slice s23a s23l s23c), (.slice r193a r193l r193c)]) w192 = .ok (.int .i64 n194) w195 ∧ J25  w195))) ∧ 
    (Calls Try.prog 64 #[(.int .i64 Era67), (.int .i64 (4 : Int))] w183 (fun e196 w197 => ∃ (r198a : Option Addr) (r198l r198c : Nat), 
    e196 = .returned (.slice r198a r198l r198c) ∧ w197.cell? ⟨w.heap.size, 0 + 5, none⟩ = some (.slice Data68a Data68l Data68c) ∧ 
    ∃ (s199a : Option Addr) (s199l s199c : Nat), ∃ w200, Sem.run Try.prog (convert 47 47 (.slice (some ⟨w24.drew.heap.size, 0, 
    none⟩) 2 2)) w197 = .ok (.slice s199a s199l s199c) w200 ∧ w200.cell? ⟨w.heap.size, 0 + 5, none⟩ = some (.slice Data68a Data68l Data68c) ∧ 
    w200.cell? ⟨w.heap.size, 0 + 3, none⟩ = some (.int .i64 Era67) ∧ w200.cell? ⟨w.heap.size, 0, none⟩ = some (.int .i64 Place66) ∧ 
    w200.cell? ⟨w.heap.size, 0 + 1, none⟩ = some (.int .i64 No65) ∧ w200.cell? ⟨w.heap.size, 0 + 5, none⟩ = some (.slice Data64a Data64l Data64c) ∧ 
    w200.cell? ⟨w.heap.size, 0 + 2, none⟩ = some (.int .i64 Index63) ∧ w200.cell? ⟨w.heap.size, 0 + 4, none⟩ = some (.int .i64 Parts62) ∧ ∀ w201, 
    w201 = w200.alloc (.cells #[(.slice s199a s199l s199c), (.slice r98a r98l r98c), (.slice r124a r124l r124c), (.slice r147a r147l r147c), 
    (.slice r167a r167l r167c), (.slice r184a r184l r184c), (.slice r198a r198l r198c), (.slice Data68a Data68l Data68c)] 47) → 
    Calls Try.prog 63 #[(.slice (some ⟨w200.heap.size, 0, none⟩) 8 8)] w201 (fun e202 w203 => ∃ (r204a : Option Addr) (r204l r204c : Nat), 
    e202 = .returned (.slice r204a r204l r204c) ∧ ∃ n205 : Int, ∃ w206, Sem.run Try.prog (Builtin.copy_ #[47, 47] 3 #[(.slice s23a s23l s23c), 
    (.slice r204a r204l r204c)]) w203 = .ok (.int .i64 n205) w206 ∧ J25  w206)))))))))))))) ∧ (Calls Try.prog 64 #[(.int .i64 Parts62), 
    (.int .i64 (1 : Int))] w24.drew (fun e207 w208 => ∃ (r209a : Option Addr) (r209l r209c : Nat), e207 = .returned (.slice r209a r209l r209c) ∧ 
    w208.cell? ⟨w.heap.size, 0 + 5, none⟩ = some (.slice Data68a Data68l Data68c) ∧ w208.cell? ⟨w.heap.size, 0 + 3, none⟩ = some (.int .i64 Era67) ∧ 
    w208.cell? ⟨w.heap.size, 0, none⟩ = some (.int .i64 Place66) ∧ w208.cell? ⟨w.heap.size, 0 + 1, none⟩ = some (.int .i64 No65) ∧ 
    w208.cell? ⟨w.heap.size, 0 + 5, none⟩ = some (.slice Data64a Data64l Data64c) ∧ w208.cell? ⟨w.heap.size, 0 + 2, none⟩ = some (.int .i64 Index63) ∧ 
    (∀ w210, w210 = w208.alloc (.cells #[(.int .u8 (80 : Int)), (.int .u8 (66 : Int))] 5) → w210.cell? ⟨w.heap.size, 0 + 5, 
    none⟩ = some (.slice Data68a Data68l Data68c) ∧ w210.cell? ⟨w.heap.size, 0 + 3, none⟩ = some (.int .i64 Era67) ∧ w210.cell? ⟨w.heap.size, 0, 
    none⟩ = some (.int .i64 Place66) ∧ w210.cell? ⟨w.heap.size, 0 + 1, none⟩ = some (.int .i64 No65) ∧ w210.cell? ⟨w.heap.size, 0 + 5, 
    none⟩ = some (.slice Data64a Data64l Data64c) ∧ w210.cell? ⟨w.heap.size, 0 + 2, none⟩ = some (.int .i64 Index63) ∧ w210.cell? ⟨w.heap.size, 0 + 4, 
    none⟩ = some (.int .i64 Parts62) ∧ (∃ (s211a : Option Addr) (s211l s211c : Nat), ∃ w212, 
    Sem.run Try.prog (convert 47 47 (.slice (some ⟨w208.heap.size, 0, none⟩) 2 2)) w210 = .ok (.slice s211a s211l s211c) w212 ∧ w212.cell? ⟨w.heap.size, 
    0 + 5, none⟩ = some (.slice Data68a Data68l Data68c) ∧ w212.cell? ⟨w.heap.size, 0 + 3, none⟩ = some (.int .i64 Era67) ∧ w212.cell? ⟨w.heap.size, 0, 
    none⟩ = some (.int .i64 Place66) ∧ w212.cell? ⟨w.heap.size, 0 + 1, none⟩ = some (.int .i64 No65) ∧ w212.cell? ⟨w.heap.size, 0 + 5, 
    none⟩ = some (.slice Data64a Data64l Data64c) ∧ w212.cell? ⟨w.heap.size, 0 + 2, none⟩ = some (.int .i64 Index63) ∧ w212.cell? ⟨w.heap.size, 0 + 4, 
    none⟩ = some (.int .i64 Parts62) ∧ Calls Try.prog 64 #[(.int .i64 Index63), 
    (.int .i64 (1 : Int))] w212 (fun e213 w214 => ∃ (r215a : Option Addr) (r215l r215c : Nat), e213 = .returned (.slice r215a r215l r215c) ∧ 
    w214.cell? ⟨w.heap.size, 0 + 5, none⟩ = some (.slice Data68a Data68l Data68c) ∧ w214.cell? ⟨w.heap.size, 0 + 3, none⟩ = some (.int .i64 Era67) ∧ 
    w214.cell? ⟨w.heap.size, 0, none⟩ = some (.int .i64 Place66) ∧ w214.cell? ⟨w.heap.size, 0 + 1, none⟩ = some (.int .i64 No65) ∧ 
    w214.cell? ⟨w.heap.size, 0 + 5, none⟩ = some (.slice Data64a Data64l Data64c) ∧ Calls Try.prog 64 #[(.int .i64 ((Data64l : Nat) : Int)), 
    (.int .i64 (2 : Int))] w214 (fun e216 w217 => ∃ (r218a : Option Addr) (r218l r218c : Nat), e216 = .returned (.slice r218a r218l r218c) ∧ 
    w217.cell? ⟨w.heap.size, 0 + 5, none⟩ = some (.slice Data68a Data68l Data68c) ∧ w217.cell? ⟨w.heap.size, 0 + 3, none⟩ = some (.int .i64 Era67) ∧ 
    w217.cell? ⟨w.heap.size, 0, none⟩ = some (.int .i64 Place66) ∧ w217.cell? ⟨w.heap.size, 0 + 1, none⟩ = some (.int .i64 No65) ∧ 
    Calls Try.prog 64 #[(.int .i64 No65), (.int .i64 (6 : Int))] w217 (fun e219 w220 => ∃ (r221a : Option Addr) (r221l r221c : Nat), 
    e219 = .returned (.slice r221a r221l r221c) ∧ w220.cell? ⟨w.heap.size, 0 + 5, none⟩ = some (.slice Data68a Data68l Data68c) ∧ 
    w220.cell? ⟨w.heap.size, 0 + 3, none⟩ = some (.int .i64 Era67) ∧ w220.cell? ⟨w.heap.size, 0, none⟩ = some (.int .i64 Place66) ∧ 
    Calls Try.prog 64 #[(.int .i64 Place66), (.int .i64 (6 : Int))] w220 (fun e222 w223 => ∃ (r224a : Option Addr) (r224l r224c : Nat), 
    e222 = .returned (.slice r224a r224l r224c) ∧ w223.cell? ⟨w.heap.size, 0 + 5, none⟩ = some (.slice Data68a Data68l Data68c) ∧ 
    w223.cell? ⟨w.heap.size, 0 + 3, none⟩ = some (.int .i64 Era67) ∧ Calls Try.prog 64 #[(.int .i64 Era67), 
    (.int .i64 (4 : Int))] w223 (fun e225 w226 => ∃ (r227a : Option Addr) (r227l r227c : Nat), e225 = .returned (.slice r227a r227l r227c) ∧ 
    w226.cell? ⟨w.heap.size, 0 + 5, none⟩ = some (.slice Data68a Data68l Data68c) ∧ ∀ w228, w228 = w226.alloc (.cells #[(.slice s211a s211l s211c), 
    (.slice r209a r209l r209c), (.slice r215a r215l r215c), (.slice r218a r218l r218c), (.slice r221a r221l r221c), (.slice r224a r224l r224c), 
    (.slice r227a r227l r227c), (.slice Data68a Data68l Data68c)] 47) → Calls Try.prog 63 #[(.slice (some ⟨w226.heap.size, 0, 
    none⟩) 8 8)] w228 (fun e229 w230 => ∃ (r231a : Option Addr) (r231l r231c : Nat), e229 = .returned (.slice r231a r231l r231c) ∧ ∃ n232 : Int, ∃ w233, 
    Sem.run Try.prog (Builtin.copy_ #[47, 47] 3 #[(.slice s23a s23l s23c), (.slice r231a r231l r231c)]) w230 = .ok (.int .i64 n232) w233 ∧ 
    J25  w233))))))) ∧ (Calls Try.prog 64 #[(.int .i64 Index63), 
    (.int .i64 (1 : Int))] w210 (fun e234 w235 => ∃ (r236a : Option Addr) (r236l r236c : Nat), e234 = .returned (.slice r236a r236l r236c) ∧ 
    w235.cell? ⟨w.heap.size, 0 + 5, none⟩ = some (.slice Data68a Data68l Data68c) ∧ w235.cell? ⟨w.heap.size, 0 + 3, none⟩ = some (.int .i64 Era67) ∧ 
    w235.cell? ⟨w.heap.size, 0, none⟩ = some (.int .i64 Place66) ∧ w235.cell? ⟨w.heap.size, 0 + 1, none⟩ = some (.int .i64 No65) ∧ 
    w235.cell? ⟨w.heap.size, 0 + 5, none⟩ = some (.slice Data64a Data64l Data64c) ∧ (∃ (s237a : Option Addr) (s237l s237c : Nat), ∃ w238, 
    Sem.run Try.prog (convert 47 47 (.slice (some ⟨w208.heap.size, 0, none⟩) 2 2)) w235 = .ok (.slice s237a s237l s237c) w238 ∧ w238.cell? ⟨w.heap.size, 
    0 + 5, none⟩ = some (.slice Data68a Data68l Data68c) ∧ w238.cell? ⟨w.heap.size, 0 + 3, none⟩ = some (.int .i64 Era67) ∧ w238.cell? ⟨w.heap.size, 0, 
    none⟩ = some (.int .i64 Place66) ∧ w238.cell? ⟨w.heap.size, 0 + 1, none⟩ = some (.int .i64 No65) ∧ w238.cell? ⟨w.heap.size, 0 + 5, 
    none⟩ = some (.slice Data64a Data64l Data64c) ∧ w238.cell? ⟨w.heap.size, 0 + 2, none⟩ = some (.int .i64 Index63) ∧ w238.cell? ⟨w.heap.size, 0 + 4, 
    none⟩ = some (.int .i64 Parts62) ∧ Calls Try.prog 64 #[(.int .i64 ((Data64l : Nat) : Int)), 
    (.int .i64 (2 : Int))] w238 (fun e239 w240 => ∃ (r241a : Option Addr) (r241l r241c : Nat), e239 = .returned (.slice r241a r241l r241c) ∧ 
    w240.cell? ⟨w.heap.size, 0 + 5, none⟩ = some (.slice Data68a Data68l Data68c) ∧ w240.cell? ⟨w.heap.size, 0 + 3, none⟩ = some (.int .i64 Era67) ∧ 
    w240.cell? ⟨w.heap.size, 0, none⟩ = some (.int .i64 Place66) ∧ w240.cell? ⟨w.heap.size, 0 + 1, none⟩ = some (.int .i64 No65) ∧ 
    Calls Try.prog 64 #[(.int .i64 No65), (.int .i64 (6 : Int))] w240 (fun e242 w243 => ∃ (r244a : Option Addr) (r244l r244c : Nat), 
    e242 = .returned (.slice r244a r244l r244c) ∧ w243.cell? ⟨w.heap.size, 0 + 5, none⟩ = some (.slice Data68a Data68l Data68c) ∧ 
    w243.cell? ⟨w.heap.size, 0 + 3, none⟩ = some (.int .i64 Era67) ∧ w243.cell? ⟨w.heap.size, 0, none⟩ = some (.int .i64 Place66) ∧ 
    Calls Try.prog 64 #[(.int .i64 Place66), (.int .i64 (6 : Int))] w243 (fun e245 w246 => ∃ (r247a : Option Addr) (r247l r247c : Nat), 
    e245 = .returned (.slice r247a r247l r247c) ∧ w246.cell? ⟨w.heap.size, 0 + 5, none⟩ = some (.slice Data68a Data68l Data68c) ∧ 
    w246.cell? ⟨w.heap.size, 0 + 3, none⟩ = some (.int .i64 Era67) ∧ Calls Try.prog 64 #[(.int .i64 Era67), 
    (.int .i64 (4 : Int))] w246 (fun e248 w249 => ∃ (r250a : Option Addr) (r250l r250c : Nat), e248 = .returned (.slice r250a r250l r250c) ∧ 
    w249.cell? ⟨w.heap.size, 0 + 5, none⟩ = some (.slice Data68a Data68l Data68c) ∧ ∀ w251, w251 = w249.alloc (.cells #[(.slice s237a s237l s237c), 
    (.slice r209a r209l r209c), (.slice r236a r236l r236c), (.slice r241a r241l r241c), (.slice r244a r244l r244c), (.slice r247a r247l r247c), 
    (.slice r250a r250l r250c), (.slice Data68a Data68l Data68c)] 47) → Calls Try.prog 63 #[(.slice (some ⟨w249.heap.size, 0, 
    none⟩) 8 8)] w251 (fun e252 w253 => ∃ (r254a : Option Addr) (r254l r254c : Nat), e252 = .returned (.slice r254a r254l r254c) ∧ ∃ n255 : Int, ∃ w256, 
    Sem.run Try.prog (Builtin.copy_ #[47, 47] 3 #[(.slice s23a s23l s23c), (.slice r254a r254l r254c)]) w253 = .ok (.int .i64 n255) w256 ∧ 
    J25  w256)))))) ∧ (Calls Try.prog 64 #[(.int .i64 ((Data64l : Nat) : Int)), 
    (.int .i64 (2 : Int))] w235 (fun e257 w258 => ∃ (r259a : Option Addr) (r259l r259c : Nat), e257 = .returned (.slice r259a r259l r259c) ∧ 
    w258.cell? ⟨w.heap.size, 0 + 5, none⟩ = some (.slice Data68a Data68l Data68c) ∧ w258.cell? ⟨w.heap.size, 0 + 3, none⟩ = some (.int .i64 Era67) ∧ 
    w258.cell? ⟨w.heap.size, 0, none⟩ = some (.int .i64 Place66) ∧ w258.cell? ⟨w.heap.size, 0 + 1, none⟩ = some (.int .i64 No65) ∧ 
    (∃ (s260a : Option Addr) (s260l s260c : Nat), ∃ w261, Sem.run Try.prog (convert 47 47 (.slice (some ⟨w208.heap.size, 0, 
    none⟩) 2 2)) w258 = .ok (.slice s260a s260l s260c) w261 ∧ w261.cell? ⟨w.heap.size, 0 + 5, none⟩ = some (.slice Data68a Data68l Data68c) ∧ 
    w261.cell? ⟨w.heap.size, 0 + 3, none⟩ = some (.int .i64 Era67) ∧ w261.cell? ⟨w.heap.size, 0, none⟩ = some (.int .i64 Place66) ∧ 
    w261.cell? ⟨w.heap.size, 0 + 1, none⟩ = some (.int .i64 No65) ∧ w261.cell? ⟨w.heap.size, 0 + 5, none⟩ = some (.slice Data64a Data64l Data64c) ∧ 
    w261.cell? ⟨w.heap.size, 0 + 2, none⟩ = some (.int .i64 Index63) ∧ w261.cell? ⟨w.heap.size, 0 + 4, none⟩ = some (.int .i64 Parts62) ∧ 
    Calls Try.prog 64 #[(.int .i64 No65), (.int .i64 (6 : Int))] w261 (fun e262 w263 => ∃ (r264a : Option Addr) (r264l r264c : Nat), 
    e262 = .returned (.slice r264a r264l r264c) ∧ w263.cell? ⟨w.heap.size, 0 + 5, none⟩ = some (.slice Data68a Data68l Data68c) ∧ 
    w263.cell? ⟨w.heap.size, 0 + 3, none⟩ = some (.int .i64 Era67) ∧ w263.cell? ⟨w.heap.size, 0, none⟩ = some (.int .i64 Place66) ∧ 
    Calls Try.prog 64 #[(.int .i64 Place66), (.int .i64 (6 : Int))] w263 (fun e265 w266 => ∃ (r267a : Option Addr) (r267l r267c : Nat), 
    e265 = .returned (.slice r267a r267l r267c) ∧ w266.cell? ⟨w.heap.size, 0 + 5, none⟩ = some (.slice Data68a Data68l Data68c) ∧ 
    w266.cell? ⟨w.heap.size, 0 + 3, none⟩ = some (.int .i64 Era67) ∧ Calls Try.prog 64 #[(.int .i64 Era67), 
    (.int .i64 (4 : Int))] w266 (fun e268 w269 => ∃ (r270a : Option Addr) (r270l r270c : Nat), e268 = .returned (.slice r270a r270l r270c) ∧ 
    w269.cell? ⟨w.heap.size, 0 + 5, none⟩ = some (.slice Data68a Data68l Data68c) ∧ ∀ w271, w271 = w269.alloc (.cells #[(.slice s260a s260l s260c), 
    (.slice r209a r209l r209c), (.slice r236a r236l r236c), (.slice r259a r259l r259c), (.slice r264a r264l r264c), (.slice r267a r267l r267c), 
    (.slice r270a r270l r270c), (.slice Data68a Data68l Data68c)] 47) → Calls Try.prog 63 #[(.slice (some ⟨w269.heap.size, 0, 
    none⟩) 8 8)] w271 (fun e272 w273 => ∃ (r274a : Option Addr) (r274l r274c : Nat), e272 = .returned (.slice r274a r274l r274c) ∧ ∃ n275 : Int, ∃ w276, 
    Sem.run Try.prog (Builtin.copy_ #[47, 47] 3 #[(.slice s23a s23l s23c), (.slice r274a r274l r274c)]) w273 = .ok (.int .i64 n275) w276 ∧ 
    J25  w276))))) ∧ (Calls Try.prog 64 #[(.int .i64 No65), (.int .i64 (6 : Int))] w258 (fun e277 w278 => ∃ (r279a : Option Addr) (r279l r279c : Nat), 
    e277 = .returned (.slice r279a r279l r279c) ∧ w278.cell? ⟨w.heap.size, 0 + 5, none⟩ = some (.slice Data68a Data68l Data68c) ∧ 
    w278.cell? ⟨w.heap.size, 0 + 3, none⟩ = some (.int .i64 Era67) ∧ w278.cell? ⟨w.heap.size, 0, none⟩ = some (.int .i64 Place66) ∧ 
    (∃ (s280a : Option Addr) (s280l s280c : Nat), ∃ w281, Sem.run Try.prog (convert 47 47 (.slice (some ⟨w208.heap.size, 0, 
    none⟩) 2 2)) w278 = .ok (.slice s280a s280l s280c) w281 ∧ w281.cell? ⟨w.heap.size, 0 + 5, none⟩ = some (.slice Data68a Data68l Data68c) ∧ 
    w281.cell? ⟨w.heap.size, 0 + 3, none⟩ = some (.int .i64 Era67) ∧ w281.cell? ⟨w.heap.size, 0, none⟩ = some (.int .i64 Place66) ∧ 
    w281.cell? ⟨w.heap.size, 0 + 1, none⟩ = some (.int .i64 No65) ∧ w281.cell? ⟨w.heap.size, 0 + 5, none⟩ = some (.slice Data64a Data64l Data64c) ∧ 
    w281.cell? ⟨w.heap.size, 0 + 2, none⟩ = some (.int .i64 Index63) ∧ w281.cell? ⟨w.heap.size, 0 + 4, none⟩ = some (.int .i64 Parts62) ∧ 
    Calls Try.prog 64 #[(.int .i64 Place66), (.int .i64 (6 : Int))] w281 (fun e282 w283 => ∃ (r284a : Option Addr) (r284l r284c : Nat), 
    e282 = .returned (.slice r284a r284l r284c) ∧ w283.cell? ⟨w.heap.size, 0 + 5, none⟩ = some (.slice Data68a Data68l Data68c) ∧ 
    w283.cell? ⟨w.heap.size, 0 + 3, none⟩ = some (.int .i64 Era67) ∧ Calls Try.prog 64 #[(.int .i64 Era67), 
    (.int .i64 (4 : Int))] w283 (fun e285 w286 => ∃ (r287a : Option Addr) (r287l r287c : Nat), e285 = .returned (.slice r287a r287l r287c) ∧ 
    w286.cell? ⟨w.heap.size, 0 + 5, none⟩ = some (.slice Data68a Data68l Data68c) ∧ ∀ w288, w288 = w286.alloc (.cells #[(.slice s280a s280l s280c), 
    (.slice r209a r209l r209c), (.slice r236a r236l r236c), (.slice r259a r259l r259c), (.slice r279a r279l r279c), (.slice r284a r284l r284c), 
    (.slice r287a r287l r287c), (.slice Data68a Data68l Data68c)] 47) → Calls Try.prog 63 #[(.slice (some ⟨w286.heap.size, 0, 
    none⟩) 8 8)] w288 (fun e289 w290 => ∃ (r291a : Option Addr) (r291l r291c : Nat), e289 = .returned (.slice r291a r291l r291c) ∧ ∃ n292 : Int, ∃ w293, 
    Sem.run Try.prog (Builtin.copy_ #[47, 47] 3 #[(.slice s23a s23l s23c), (.slice r291a r291l r291c)]) w290 = .ok (.int .i64 n292) w293 ∧ 
    J25  w293)))) ∧ (Calls Try.prog 64 #[(.int .i64 Place66), (.int .i64 (6 : Int))] w278 (fun e294 w295 => ∃ (r296a : Option Addr) (r296l r296c : Nat), 
    e294 = .returned (.slice r296a r296l r296c) ∧ w295.cell? ⟨w.heap.size, 0 + 5, none⟩ = some (.slice Data68a Data68l Data68c) ∧ 
    w295.cell? ⟨w.heap.size, 0 + 3, none⟩ = some (.int .i64 Era67) ∧ (∃ (s297a : Option Addr) (s297l s297c : Nat), ∃ w298, 
    Sem.run Try.prog (convert 47 47 (.slice (some ⟨w208.heap.size, 0, none⟩) 2 2)) w295 = .ok (.slice s297a s297l s297c) w298 ∧ w298.cell? ⟨w.heap.size, 
    0 + 5, none⟩ = some (.slice Data68a Data68l Data68c) ∧ w298.cell? ⟨w.heap.size, 0 + 3, none⟩ = some (.int .i64 Era67) ∧ w298.cell? ⟨w.heap.size, 0, 
    none⟩ = some (.int .i64 Place66) ∧ w298.cell? ⟨w.heap.size, 0 + 1, none⟩ = some (.int .i64 No65) ∧ w298.cell? ⟨w.heap.size, 0 + 5, 
    none⟩ = some (.slice Data64a Data64l Data64c) ∧ w298.cell? ⟨w.heap.size, 0 + 2, none⟩ = some (.int .i64 Index63) ∧ w298.cell? ⟨w.heap.size, 0 + 4, 
    none⟩ = some (.int .i64 Parts62) ∧ Calls Try.prog 64 #[(.int .i64 Era67), 
    (.int .i64 (4 : Int))] w298 (fun e299 w300 => ∃ (r301a : Option Addr) (r301l r301c : Nat), e299 = .returned (.slice r301a r301l r301c) ∧ 
    w300.cell? ⟨w.heap.size, 0 + 5, none⟩ = some (.slice Data68a Data68l Data68c) ∧ ∀ w302, w302 = w300.alloc (.cells #[(.slice s297a s297l s297c), 
    (.slice r209a r209l r209c), (.slice r236a r236l r236c), (.slice r259a r259l r259c), (.slice r279a r279l r279c), (.slice r296a r296l r296c), 
    (.slice r301a r301l r301c), (.slice Data68a Data68l Data68c)] 47) → Calls Try.prog 63 #[(.slice (some ⟨w300.heap.size, 0, 
    none⟩) 8 8)] w302 (fun e303 w304 => ∃ (r305a : Option Addr) (r305l r305c : Nat), e303 = .returned (.slice r305a r305l r305c) ∧ ∃ n306 : Int, ∃ w307, 
    Sem.run Try.prog (Builtin.copy_ #[47, 47] 3 #[(.slice s23a s23l s23c), (.slice r305a r305l r305c)]) w304 = .ok (.int .i64 n306) w307 ∧ J25  w307))) ∧ 
    (Calls Try.prog 64 #[(.int .i64 Era67), (.int .i64 (4 : Int))] w295 (fun e308 w309 => ∃ (r310a : Option Addr) (r310l r310c : Nat), 
    e308 = .returned (.slice r310a r310l r310c) ∧ w309.cell? ⟨w.heap.size, 0 + 5, none⟩ = some (.slice Data68a Data68l Data68c) ∧ 
    ∃ (s311a : Option Addr) (s311l s311c : Nat), ∃ w312, Sem.run Try.prog (convert 47 47 (.slice (some ⟨w208.heap.size, 0, 
    none⟩) 2 2)) w309 = .ok (.slice s311a s311l s311c) w312 ∧ w312.cell? ⟨w.heap.size, 0 + 5, none⟩ = some (.slice Data68a Data68l Data68c) ∧ 
    w312.cell? ⟨w.heap.size, 0 + 3, none⟩ = some (.int .i64 Era67) ∧ w312.cell? ⟨w.heap.size, 0, none⟩ = some (.int .i64 Place66) ∧ 
    w312.cell? ⟨w.heap.size, 0 + 1, none⟩ = some (.int .i64 No65) ∧ w312.cell? ⟨w.heap.size, 0 + 5, none⟩ = some (.slice Data64a Data64l Data64c) ∧ 
    w312.cell? ⟨w.heap.size, 0 + 2, none⟩ = some (.int .i64 Index63) ∧ w312.cell? ⟨w.heap.size, 0 + 4, none⟩ = some (.int .i64 Parts62) ∧ ∀ w313, 
    w313 = w312.alloc (.cells #[(.slice s311a s311l s311c), (.slice r209a r209l r209c), (.slice r236a r236l r236c), (.slice r259a r259l r259c), 
    (.slice r279a r279l r279c), (.slice r296a r296l r296c), (.slice r310a r310l r310c), (.slice Data68a Data68l Data68c)] 47) → 
    Calls Try.prog 63 #[(.slice (some ⟨w312.heap.size, 0, none⟩) 8 8)] w313 (fun e314 w315 => ∃ (r316a : Option Addr) (r316l r316c : Nat), 
    e314 = .returned (.slice r316a r316l r316c) ∧ ∃ n317 : Int, ∃ w318, Sem.run Try.prog (Builtin.copy_ #[47, 47] 3 #[(.slice s23a s23l s23c), 
    (.slice r316a r316l r316c)]) w315 = .ok (.int .i64 n317) w318 ∧ J25  w318)))))))))))) ∧ (Calls Try.prog 64 #[(.int .i64 Index63), 
    (.int .i64 (1 : Int))] w208 (fun e319 w320 => ∃ (r321a : Option Addr) (r321l r321c : Nat), e319 = .returned (.slice r321a r321l r321c) ∧ 
    w320.cell? ⟨w.heap.size, 0 + 5, none⟩ = some (.slice Data68a Data68l Data68c) ∧ w320.cell? ⟨w.heap.size, 0 + 3, none⟩ = some (.int .i64 Era67) ∧ 
    w320.cell? ⟨w.heap.size, 0, none⟩ = some (.int .i64 Place66) ∧ w320.cell? ⟨w.heap.size, 0 + 1, none⟩ = some (.int .i64 No65) ∧ 
    w320.cell? ⟨w.heap.size, 0 + 5, none⟩ = some (.slice Data64a Data64l Data64c) ∧ (∀ w322, w322 = w320.alloc (.cells #[(.int .u8 (80 : Int)), 
    (.int .u8 (66 : Int))] 5) → w322.cell? ⟨w.heap.size, 0 + 5, none⟩ = some (.slice Data68a Data68l Data68c) ∧ w322.cell? ⟨w.heap.size, 0 + 3, 
    none⟩ = some (.int .i64 Era67) ∧ w322.cell? ⟨w.heap.size, 0, none⟩ = some (.int .i64 Place66) ∧ w322.cell? ⟨w.heap.size, 0 + 1, 
    none⟩ = some (.int .i64 No65) ∧ w322.cell? ⟨w.heap.size, 0 + 5, none⟩ = some (.slice Data64a Data64l Data64c) ∧ w322.cell? ⟨w.heap.size, 0 + 2, 
    none⟩ = some (.int .i64 Index63) ∧ w322.cell? ⟨w.heap.size, 0 + 4, none⟩ = some (.int .i64 Parts62) ∧ (∃ (s323a : Option Addr) (s323l s323c : Nat), 
    ∃ w324, Sem.run Try.prog (convert 47 47 (.slice (some ⟨w320.heap.size, 0, none⟩) 2 2)) w322 = .ok (.slice s323a s323l s323c) w324 ∧ 
    w324.cell? ⟨w.heap.size, 0 + 5, none⟩ = some (.slice Data68a Data68l Data68c) ∧ w324.cell? ⟨w.heap.size, 0 + 3, none⟩ = some (.int .i64 Era67) ∧ 
    w324.cell? ⟨w.heap.size, 0, none⟩ = some (.int .i64 Place66) ∧ w324.cell? ⟨w.heap.size, 0 + 1, none⟩ = some (.int .i64 No65) ∧ 
    w324.cell? ⟨w.heap.size, 0 + 5, none⟩ = some (.slice Data64a Data64l Data64c) ∧ w324.cell? ⟨w.heap.size, 0 + 2, none⟩ = some (.int .i64 Index63) ∧ 
    w324.cell? ⟨w.heap.size, 0 + 4, none⟩ = some (.int .i64 Parts62) ∧ Calls Try.prog 64 #[(.int .i64 ((Data64l : Nat) : Int)), 
    (.int .i64 (2 : Int))] w324 (fun e325 w326 => ∃ (r327a : Option Addr) (r327l r327c : Nat), e325 = .returned (.slice r327a r327l r327c) ∧ 
    w326.cell? ⟨w.heap.size, 0 + 5, none⟩ = some (.slice Data68a Data68l Data68c) ∧ w326.cell? ⟨w.heap.size, 0 + 3, none⟩ = some (.int .i64 Era67) ∧ 
    w326.cell? ⟨w.heap.size, 0, none⟩ = some (.int .i64 Place66) ∧ w326.cell? ⟨w.heap.size, 0 + 1, none⟩ = some (.int .i64 No65) ∧ 
    Calls Try.prog 64 #[(.int .i64 No65), (.int .i64 (6 : Int))] w326 (fun e328 w329 => ∃ (r330a : Option Addr) (r330l r330c : Nat), 
    e328 = .returned (.slice r330a r330l r330c) ∧ w329.cell? ⟨w.heap.size, 0 + 5, none⟩ = some (.slice Data68a Data68l Data68c) ∧ 
    w329.cell? ⟨w.heap.size, 0 + 3, none⟩ = some (.int .i64 Era67) ∧ w329.cell? ⟨w.heap.size, 0, none⟩ = some (.int .i64 Place66) ∧ 
    Calls Try.prog 64 #[(.int .i64 Place66), (.int .i64 (6 : Int))] w329 (fun e331 w332 => ∃ (r333a : Option Addr) (r333l r333c : Nat), 
    e331 = .returned (.slice r333a r333l r333c) ∧ w332.cell? ⟨w.heap.size, 0 + 5, none⟩ = some (.slice Data68a Data68l Data68c) ∧ 
    w332.cell? ⟨w.heap.size, 0 + 3, none⟩ = some (.int .i64 Era67) ∧ Calls Try.prog 64 #[(.int .i64 Era67), 
    (.int .i64 (4 : Int))] w332 (fun e334 w335 => ∃ (r336a : Option Addr) (r336l r336c : Nat), e334 = .returned (.slice r336a r336l r336c) ∧ 
    w335.cell? ⟨w.heap.size, 0 + 5, none⟩ = some (.slice Data68a Data68l Data68c) ∧ ∀ w337, w337 = w335.alloc (.cells #[(.slice s323a s323l s323c), 
    (.slice r209a r209l r209c), (.slice r321a r321l r321c), (.slice r327a r327l r327c), (.slice r330a r330l r330c), (.slice r333a r333l r333c), 
    (.slice r336a r336l r336c), (.slice Data68a Data68l Data68c)] 47) → Calls Try.prog 63 #[(.slice (some ⟨w335.heap.size, 0, 
    none⟩) 8 8)] w337 (fun e338 w339 => ∃ (r340a : Option Addr) (r340l r340c : Nat), e338 = .returned (.slice r340a r340l r340c) ∧ ∃ n341 : Int, ∃ w342, 
    Sem.run Try.prog (Builtin.copy_ #[47, 47] 3 #[(.slice s23a s23l s23c), (.slice r340a r340l r340c)]) w339 = .ok (.int .i64 n341) w342 ∧ 
    J25  w342)))))) ∧ (Calls Try.prog 64 #[(.int .i64 ((Data64l : Nat) : Int)), 
    (.int .i64 (2 : Int))] w322 (fun e343 w344 => ∃ (r345a : Option Addr) (r345l r345c : Nat), e343 = .returned (.slice r345a r345l r345c) ∧ 
    w344.cell? ⟨w.heap.size, 0 + 5, none⟩ = some (.slice Data68a Data68l Data68c) ∧ w344.cell? ⟨w.heap.size, 0 + 3, none⟩ = some (.int .i64 Era67) ∧ 
    w344.cell? ⟨w.heap.size, 0, none⟩ = some (.int .i64 Place66) ∧ w344.cell? ⟨w.heap.size, 0 + 1, none⟩ = some (.int .i64 No65) ∧ 
    (∃ (s346a : Option Addr) (s346l s346c : Nat), ∃ w347, Sem.run Try.prog (convert 47 47 (.slice (some ⟨w320.heap.size, 0, 
    none⟩) 2 2)) w344 = .ok (.slice s346a s346l s346c) w347 ∧ w347.cell? ⟨w.heap.size, 0 + 5, none⟩ = some (.slice Data68a Data68l Data68c) ∧ 
    w347.cell? ⟨w.heap.size, 0 + 3, none⟩ = some (.int .i64 Era67) ∧ w347.cell? ⟨w.heap.size, 0, none⟩ = some (.int .i64 Place66) ∧ 
    w347.cell? ⟨w.heap.size, 0 + 1, none⟩ = some (.int .i64 No65) ∧ w347.cell? ⟨w.heap.size, 0 + 5, none⟩ = some (.slice Data64a Data64l Data64c) ∧ 
    w347.cell? ⟨w.heap.size, 0 + 2, none⟩ = some (.int .i64 Index63) ∧ w347.cell? ⟨w.heap.size, 0 + 4, none⟩ = some (.int .i64 Parts62) ∧ 
    Calls Try.prog 64 #[(.int .i64 No65), (.int .i64 (6 : Int))] w347 (fun e348 w349 => ∃ (r350a : Option Addr) (r350l r350c : Nat), 
    e348 = .returned (.slice r350a r350l r350c) ∧ w349.cell? ⟨w.heap.size, 0 + 5, none⟩ = some (.slice Data68a Data68l Data68c) ∧ 
    w349.cell? ⟨w.heap.size, 0 + 3, none⟩ = some (.int .i64 Era67) ∧ w349.cell? ⟨w.heap.size, 0, none⟩ = some (.int .i64 Place66) ∧ 
    Calls Try.prog 64 #[(.int .i64 Place66), (.int .i64 (6 : Int))] w349 (fun e351 w352 => ∃ (r353a : Option Addr) (r353l r353c : Nat), 
    e351 = .returned (.slice r353a r353l r353c) ∧ w352.cell? ⟨w.heap.size, 0 + 5, none⟩ = some (.slice Data68a Data68l Data68c) ∧ 
    w352.cell? ⟨w.heap.size, 0 + 3, none⟩ = some (.int .i64 Era67) ∧ Calls Try.prog 64 #[(.int .i64 Era67), 
    (.int .i64 (4 : Int))] w352 (fun e354 w355 => ∃ (r356a : Option Addr) (r356l r356c : Nat), e354 = .returned (.slice r356a r356l r356c) ∧ 
    w355.cell? ⟨w.heap.size, 0 + 5, none⟩ = some (.slice Data68a Data68l Data68c) ∧ ∀ w357, w357 = w355.alloc (.cells #[(.slice s346a s346l s346c), 
    (.slice r209a r209l r209c), (.slice r321a r321l r321c), (.slice r345a r345l r345c), (.slice r350a r350l r350c), (.slice r353a r353l r353c), 
    (.slice r356a r356l r356c), (.slice Data68a Data68l Data68c)] 47) → Calls Try.prog 63 #[(.slice (some ⟨w355.heap.size, 0, 
    none⟩) 8 8)] w357 (fun e358 w359 => ∃ (r360a : Option Addr) (r360l r360c : Nat), e358 = .returned (.slice r360a r360l r360c) ∧ ∃ n361 : Int, ∃ w362, 
    Sem.run Try.prog (Builtin.copy_ #[47, 47] 3 #[(.slice s23a s23l s23c), (.slice r360a r360l r360c)]) w359 = .ok (.int .i64 n361) w362 ∧ 
    J25  w362))))) ∧ (Calls Try.prog 64 #[(.int .i64 No65), (.int .i64 (6 : Int))] w344 (fun e363 w364 => ∃ (r365a : Option Addr) (r365l r365c : Nat), 
    e363 = .returned (.slice r365a r365l r365c) ∧ w364.cell? ⟨w.heap.size, 0 + 5, none⟩ = some (.slice Data68a Data68l Data68c) ∧ 
    w364.cell? ⟨w.heap.size, 0 + 3, none⟩ = some (.int .i64 Era67) ∧ w364.cell? ⟨w.heap.size, 0, none⟩ = some (.int .i64 Place66) ∧ 
    (∃ (s366a : Option Addr) (s366l s366c : Nat), ∃ w367, Sem.run Try.prog (convert 47 47 (.slice (some ⟨w320.heap.size, 0, 
    none⟩) 2 2)) w364 = .ok (.slice s366a s366l s366c) w367 ∧ w367.cell? ⟨w.heap.size, 0 + 5, none⟩ = some (.slice Data68a Data68l Data68c) ∧ 
    w367.cell? ⟨w.heap.size, 0 + 3, none⟩ = some (.int .i64 Era67) ∧ w367.cell? ⟨w.heap.size, 0, none⟩ = some (.int .i64 Place66) ∧ 
    w367.cell? ⟨w.heap.size, 0 + 1, none⟩ = some (.int .i64 No65) ∧ w367.cell? ⟨w.heap.size, 0 + 5, none⟩ = some (.slice Data64a Data64l Data64c) ∧ 
    w367.cell? ⟨w.heap.size, 0 + 2, none⟩ = some (.int .i64 Index63) ∧ w367.cell? ⟨w.heap.size, 0 + 4, none⟩ = some (.int .i64 Parts62) ∧ 
    Calls Try.prog 64 #[(.int .i64 Place66), (.int .i64 (6 : Int))] w367 (fun e368 w369 => ∃ (r370a : Option Addr) (r370l r370c : Nat), 
    e368 = .returned (.slice r370a r370l r370c) ∧ w369.cell? ⟨w.heap.size, 0 + 5, none⟩ = some (.slice Data68a Data68l Data68c) ∧ 
    w369.cell? ⟨w.heap.size, 0 + 3, none⟩ = some (.int .i64 Era67) ∧ Calls Try.prog 64 #[(.int .i64 Era67), 
    (.int .i64 (4 : Int))] w369 (fun e371 w372 => ∃ (r373a : Option Addr) (r373l r373c : Nat), e371 = .returned (.slice r373a r373l r373c) ∧ 
    w372.cell? ⟨w.heap.size, 0 + 5, none⟩ = some (.slice Data68a Data68l Data68c) ∧ ∀ w374, w374 = w372.alloc (.cells #[(.slice s366a s366l s366c), 
    (.slice r209a r209l r209c), (.slice r321a r321l r321c), (.slice r345a r345l r345c), (.slice r365a r365l r365c), (.slice r370a r370l r370c), 
    (.slice r373a r373l r373c), (.slice Data68a Data68l Data68c)] 47) → Calls Try.prog 63 #[(.slice (some ⟨w372.heap.size, 0, 
    none⟩) 8 8)] w374 (fun e375 w376 => ∃ (r377a : Option Addr) (r377l r377c : Nat), e375 = .returned (.slice r377a r377l r377c) ∧ ∃ n378 : Int, ∃ w379, 
    Sem.run Try.prog (Builtin.copy_ #[47, 47] 3 #[(.slice s23a s23l s23c), (.slice r377a r377l r377c)]) w376 = .ok (.int .i64 n378) w379 ∧ 
    J25  w379)))) ∧ (Calls Try.prog 64 #[(.int .i64 Place66), (.int .i64 (6 : Int))] w364 (fun e380 w381 => ∃ (r382a : Option Addr) (r382l r382c : Nat), 
    e380 = .returned (.slice r382a r382l r382c) ∧ w381.cell? ⟨w.heap.size, 0 + 5, none⟩ = some (.slice Data68a Data68l Data68c) ∧ 
    w381.cell? ⟨w.heap.size, 0 + 3, none⟩ = some (.int .i64 Era67) ∧ (∃ (s383a : Option Addr) (s383l s383c : Nat), ∃ w384, 
    Sem.run Try.prog (convert 47 47 (.slice (some ⟨w320.heap.size, 0, none⟩) 2 2)) w381 = .ok (.slice s383a s383l s383c) w384 ∧ w384.cell? ⟨w.heap.size, 
    0 + 5, none⟩ = some (.slice Data68a Data68l Data68c) ∧ w384.cell? ⟨w.heap.size, 0 + 3, none⟩ = some (.int .i64 Era67) ∧ w384.cell? ⟨w.heap.size, 0, 
    none⟩ = some (.int .i64 Place66) ∧ w384.cell? ⟨w.heap.size, 0 + 1, none⟩ = some (.int .i64 No65) ∧ w384.cell? ⟨w.heap.size, 0 + 5, 
    none⟩ = some (.slice Data64a Data64l Data64c) ∧ w384.cell? ⟨w.heap.size, 0 + 2, none⟩ = some (.int .i64 Index63) ∧ w384.cell? ⟨w.heap.size, 0 + 4, 
    none⟩ = some (.int .i64 Parts62) ∧ Calls Try.prog 64 #[(.int .i64 Era67), 
    (.int .i64 (4 : Int))] w384 (fun e385 w386 => ∃ (r387a : Option Addr) (r387l r387c : Nat), e385 = .returned (.slice r387a r387l r387c) ∧ 
    w386.cell? ⟨w.heap.size, 0 + 5, none⟩ = some (.slice Data68a Data68l Data68c) ∧ ∀ w388, w388 = w386.alloc (.cells #[(.slice s383a s383l s383c), 
    (.slice r209a r209l r209c), (.slice r321a r321l r321c), (.slice r345a r345l r345c), (.slice r365a r365l r365c), (.slice r382a r382l r382c), 
    (.slice r387a r387l r387c), (.slice Data68a Data68l Data68c)] 47) → Calls Try.prog 63 #[(.slice (some ⟨w386.heap.size, 0, 
    none⟩) 8 8)] w388 (fun e389 w390 => ∃ (r391a : Option Addr) (r391l r391c : Nat), e389 = .returned (.slice r391a r391l r391c) ∧ ∃ n392 : Int, ∃ w393, 
    Sem.run Try.prog (Builtin.copy_ #[47, 47] 3 #[(.slice s23a s23l s23c), (.slice r391a r391l r391c)]) w390 = .ok (.int .i64 n392) w393 ∧ J25  w393))) ∧ 
    (Calls Try.prog 64 #[(.int .i64 Era67), (.int .i64 (4 : Int))] w381 (fun e394 w395 => ∃ (r396a : Option Addr) (r396l r396c : Nat), 
    e394 = .returned (.slice r396a r396l r396c) ∧ w395.cell? ⟨w.heap.size, 0 + 5, none⟩ = some (.slice Data68a Data68l Data68c) ∧ 
    ∃ (s397a : Option Addr) (s397l s397c : Nat), ∃ w398, Sem.run Try.prog (convert 47 47 (.slice (some ⟨w320.heap.size, 0, 
    none⟩) 2 2)) w395 = .ok (.slice s397a s397l s397c) w398 ∧ w398.cell? ⟨w.heap.size, 0 + 5, none⟩ = some (.slice Data68a Data68l Data68c) ∧ 
    w398.cell? ⟨w.heap.size, 0 + 3, none⟩ = some (.int .i64 Era67) ∧ w398.cell? ⟨w.heap.size, 0, none⟩ = some (.int .i64 Place66) ∧ 
    w398.cell? ⟨w.heap.size, 0 + 1, none⟩ = some (.int .i64 No65) ∧ w398.cell? ⟨w.heap.size, 0 + 5, none⟩ = some (.slice Data64a Data64l Data64c) ∧ 
    w398.cell? ⟨w.heap.size, 0 + 2, none⟩ = some (.int .i64 Index63) ∧ w398.cell? ⟨w.heap.size, 0 + 4, none⟩ = some (.int .i64 Parts62) ∧ ∀ w399, 
    w399 = w398.alloc (.cells #[(.slice s397a s397l s397c), (.slice r209a r209l r209c), (.slice r321a r321l r321c), (.slice r345a r345l r345c), 
    (.slice r365a r365l r365c), (.slice r382a r382l r382c), (.slice r396a r396l r396c), (.slice Data68a Data68l Data68c)] 47) → 
    Calls Try.prog 63 #[(.slice (some ⟨w398.heap.size, 0, none⟩) 8 8)] w399 (fun e400 w401 => ∃ (r402a : Option Addr) (r402l r402c : Nat), 
    e400 = .returned (.slice r402a r402l r402c) ∧ ∃ n403 : Int, ∃ w404, Sem.run Try.prog (Builtin.copy_ #[47, 47] 3 #[(.slice s23a s23l s23c), 
    (.slice r402a r402l r402c)]) w401 = .ok (.int .i64 n403) w404 ∧ J25  w404)))))))))) ∧ (Calls Try.prog 64 #[(.int .i64 ((Data64l : Nat) : Int)), 
    (.int .i64 (2 : Int))] w320 (fun e405 w406 => ∃ (r407a : Option Addr) (r407l r407c : Nat), e405 = .returned (.slice r407a r407l r407c) ∧ 
    w406.cell? ⟨w.heap.size, 0 + 5, none⟩ = some (.slice Data68a Data68l Data68c) ∧ w406.cell? ⟨w.heap.size, 0 + 3, none⟩ = some (.int .i64 Era67) ∧ 
    w406.cell? ⟨w.heap.size, 0, none⟩ = some (.int .i64 Place66) ∧ w406.cell? ⟨w.heap.size, 0 + 1, none⟩ = some (.int .i64 No65) ∧ (∀ w408, 
    w408 = w406.alloc (.cells #[(.int .u8 (80 : Int)), (.int .u8 (66 : Int))] 5) → w408.cell? ⟨w.heap.size, 0 + 5, 
    none⟩ = some (.slice Data68a Data68l Data68c) ∧ w408.cell? ⟨w.heap.size, 0 + 3, none⟩ = some (.int .i64 Era67) ∧ w408.cell? ⟨w.heap.size, 0, 
    none⟩ = some (.int .i64 Place66) ∧ w408.cell? ⟨w.heap.size, 0 + 1, none⟩ = some (.int .i64 No65) ∧ w408.cell? ⟨w.heap.size, 0 + 5, 
    none⟩ = some (.slice Data64a Data64l Data64c) ∧ w408.cell? ⟨w.heap.size, 0 + 2, none⟩ = some (.int .i64 Index63) ∧ w408.cell? ⟨w.heap.size, 0 + 4, 
    none⟩ = some (.int .i64 Parts62) ∧ (∃ (s409a : Option Addr) (s409l s409c : Nat), ∃ w410, 
    Sem.run Try.prog (convert 47 47 (.slice (some ⟨w406.heap.size, 0, none⟩) 2 2)) w408 = .ok (.slice s409a s409l s409c) w410 ∧ w410.cell? ⟨w.heap.size, 
    0 + 5, none⟩ = some (.slice Data68a Data68l Data68c) ∧ w410.cell? ⟨w.heap.size, 0 + 3, none⟩ = some (.int .i64 Era67) ∧ w410.cell? ⟨w.heap.size, 0, 
    none⟩ = some (.int .i64 Place66) ∧ w410.cell? ⟨w.heap.size, 0 + 1, none⟩ = some (.int .i64 No65) ∧ w410.cell? ⟨w.heap.size, 0 + 5, 
    none⟩ = some (.slice Data64a Data64l Data64c) ∧ w410.cell? ⟨w.heap.size, 0 + 2, none⟩ = some (.int .i64 Index63) ∧ w410.cell? ⟨w.heap.size, 0 + 4, 
    none⟩ = some (.int .i64 Parts62) ∧ Calls Try.prog 64 #[(.int .i64 No65), 
    (.int .i64 (6 : Int))] w410 (fun e411 w412 => ∃ (r413a : Option Addr) (r413l r413c : Nat), e411 = .returned (.slice r413a r413l r413c) ∧ 
    w412.cell? ⟨w.heap.size, 0 + 5, none⟩ = some (.slice Data68a Data68l Data68c) ∧ w412.cell? ⟨w.heap.size, 0 + 3, none⟩ = some (.int .i64 Era67) ∧ 
    w412.cell? ⟨w.heap.size, 0, none⟩ = some (.int .i64 Place66) ∧ Calls Try.prog 64 #[(.int .i64 Place66), 
    (.int .i64 (6 : Int))] w412 (fun e414 w415 => ∃ (r416a : Option Addr) (r416l r416c : Nat), e414 = .returned (.slice r416a r416l r416c) ∧ 
    w415.cell? ⟨w.heap.size, 0 + 5, none⟩ = some (.slice Data68a Data68l Data68c) ∧ w415.cell? ⟨w.heap.size, 0 + 3, none⟩ = some (.int .i64 Era67) ∧ 
    Calls Try.prog 64 #[(.int .i64 Era67), (.int .i64 (4 : Int))] w415 (fun e417 w418 => ∃ (r419a : Option Addr) (r419l r419c : Nat), 
    e417 = .returned (.slice r419a r419l r419c) ∧ w418.cell? ⟨w.heap.size, 0 + 5, none⟩ = some (.slice Data68a Data68l Data68c) ∧ ∀ w420, 
    w420 = w418.alloc (.cells #[(.slice s409a s409l s409c), (.slice r209a r209l r209c), (.slice r321a r321l r321c), (.slice r407a r407l r407c), 
    (.slice r413a r413l r413c), (.slice r416a r416l r416c), (.slice r419a r419l r419c), (.slice Data68a Data68l Data68c)] 47) → 
    Calls Try.prog 63 #[(.slice (some ⟨w418.heap.size, 0, none⟩) 8 8)] w420 (fun e421 w422 => ∃ (r423a : Option Addr) (r423l r423c : Nat), 
    e421 = .returned (.slice r423a r423l r423c) ∧ ∃ n424 : Int, ∃ w425, Sem.run Try.prog (Builtin.copy_ #[47, 47] 3 #[(.slice s23a s23l s23c), 
    (.slice r423a r423l r423c)]) w422 = .ok (.int .i64 n424) w425 ∧ J25  w425))))) ∧ (Calls Try.prog 64 #[(.int .i64 No65), 
    (.int .i64 (6 : Int))] w408 (fun e426 w427 => ∃ (r428a : Option Addr) (r428l r428c : Nat), e426 = .returned (.slice r428a r428l r428c) ∧ 
    w427.cell? ⟨w.heap.size, 0 + 5, none⟩ = some (.slice Data68a Data68l Data68c) ∧ w427.cell? ⟨w.heap.size, 0 + 3, none⟩ = some (.int .i64 Era67) ∧ 
    w427.cell? ⟨w.heap.size, 0, none⟩ = some (.int .i64 Place66) ∧ (∃ (s429a : Option Addr) (s429l s429c : Nat), ∃ w430, 
    Sem.run Try.prog (convert 47 47 (.slice (some ⟨w406.heap.size, 0, none⟩) 2 2)) w427 = .ok (.slice s429a s429l s429c) w430 ∧ w430.cell? ⟨w.heap.size, 
    0 + 5, none⟩ = some (.slice Data68a Data68l Data68c) ∧ w430.cell? ⟨w.heap.size, 0 + 3, none⟩ = some (.int .i64 Era67) ∧ w430.cell? ⟨w.heap.size, 0, 
    none⟩ = some (.int .i64 Place66) ∧ w430.cell? ⟨w.heap.size, 0 + 1, none⟩ = some (.int .i64 No65) ∧ w430.cell? ⟨w.heap.size, 0 + 5, 
    none⟩ = some (.slice Data64a Data64l Data64c) ∧ w430.cell? ⟨w.heap.size, 0 + 2, none⟩ = some (.int .i64 Index63) ∧ w430.cell? ⟨w.heap.size, 0 + 4, 
    none⟩ = some (.int .i64 Parts62) ∧ Calls Try.prog 64 #[(.int .i64 Place66), 
    (.int .i64 (6 : Int))] w430 (fun e431 w432 => ∃ (r433a : Option Addr) (r433l r433c : Nat), e431 = .returned (.slice r433a r433l r433c) ∧ 
    w432.cell? ⟨w.heap.size, 0 + 5, none⟩ = some (.slice Data68a Data68l Data68c) ∧ w432.cell? ⟨w.heap.size, 0 + 3, none⟩ = some (.int .i64 Era67) ∧ 
    Calls Try.prog 64 #[(.int .i64 Era67), (.int .i64 (4 : Int))] w432 (fun e434 w435 => ∃ (r436a : Option Addr) (r436l r436c : Nat), 
    e434 = .returned (.slice r436a r436l r436c) ∧ w435.cell? ⟨w.heap.size, 0 + 5, none⟩ = some (.slice Data68a Data68l Data68c) ∧ ∀ w437, 
    w437 = w435.alloc (.cells #[(.slice s429a s429l s429c), (.slice r209a r209l r209c), (.slice r321a r321l r321c), (.slice r407a r407l r407c), 
    (.slice r428a r428l r428c), (.slice r433a r433l r433c), (.slice r436a r436l r436c), (.slice Data68a Data68l Data68c)] 47) → 
    Calls Try.prog 63 #[(.slice (some ⟨w435.heap.size, 0, none⟩) 8 8)] w437 (fun e438 w439 => ∃ (r440a : Option Addr) (r440l r440c : Nat), 
    e438 = .returned (.slice r440a r440l r440c) ∧ ∃ n441 : Int, ∃ w442, Sem.run Try.prog (Builtin.copy_ #[47, 47] 3 #[(.slice s23a s23l s23c), 
    (.slice r440a r440l r440c)]) w439 = .ok (.int .i64 n441) w442 ∧ J25  w442)))) ∧ (Calls Try.prog 64 #[(.int .i64 Place66), 
    (.int .i64 (6 : Int))] w427 (fun e443 w444 => ∃ (r445a : Option Addr) (r445l r445c : Nat), e443 = .returned (.slice r445a r445l r445c) ∧ 
    w444.cell? ⟨w.heap.size, 0 + 5, none⟩ = some (.slice Data68a Data68l Data68c) ∧ w444.cell? ⟨w.heap.size, 0 + 3, none⟩ = some (.int .i64 Era67) ∧ 
    (∃ (s446a : Option Addr) (s446l s446c : Nat), ∃ w447, Sem.run Try.prog (convert 47 47 (.slice (some ⟨w406.heap.size, 0, 
    none⟩) 2 2)) w444 = .ok (.slice s446a s446l s446c) w447 ∧ w447.cell? ⟨w.heap.size, 0 + 5, none⟩ = some (.slice Data68a Data68l Data68c) ∧ 
    w447.cell? ⟨w.heap.size, 0 + 3, none⟩ = some (.int .i64 Era67) ∧ w447.cell? ⟨w.heap.size, 0, none⟩ = some (.int .i64 Place66) ∧ 
    w447.cell? ⟨w.heap.size, 0 + 1, none⟩ = some (.int .i64 No65) ∧ w447.cell? ⟨w.heap.size, 0 + 5, none⟩ = some (.slice Data64a Data64l Data64c) ∧ 
    w447.cell? ⟨w.heap.size, 0 + 2, none⟩ = some (.int .i64 Index63) ∧ w447.cell? ⟨w.heap.size, 0 + 4, none⟩ = some (.int .i64 Parts62) ∧ 
    Calls Try.prog 64 #[(.int .i64 Era67), (.int .i64 (4 : Int))] w447 (fun e448 w449 => ∃ (r450a : Option Addr) (r450l r450c : Nat), 
    e448 = .returned (.slice r450a r450l r450c) ∧ w449.cell? ⟨w.heap.size, 0 + 5, none⟩ = some (.slice Data68a Data68l Data68c) ∧ ∀ w451, 
    w451 = w449.alloc (.cells #[(.slice s446a s446l s446c), (.slice r209a r209l r209c), (.slice r321a r321l r321c), (.slice r407a r407l r407c), 
    (.slice r428a r428l r428c), (.slice r445a r445l r445c), (.slice r450a r450l r450c), (.slice Data68a Data68l Data68c)] 47) → 
    Calls Try.prog 63 #[(.slice (some ⟨w449.heap.size, 0, none⟩) 8 8)] w451 (fun e452 w453 => ∃ (r454a : Option Addr) (r454l r454c : Nat), 
    e452 = .returned (.slice r454a r454l r454c) ∧ ∃ n455 : Int, ∃ w456, Sem.run Try.prog (Builtin.copy_ #[47, 47] 3 #[(.slice s23a s23l s23c), 
    (.slice r454a r454l r454c)]) w453 = .ok (.int .i64 n455) w456 ∧ J25  w456))) ∧ (Calls Try.prog 64 #[(.int .i64 Era67), 
    (.int .i64 (4 : Int))] w444 (fun e457 w458 => ∃ (r459a : Option Addr) (r459l r459c : Nat), e457 = .returned (.slice r459a r459l r459c) ∧ 
    w458.cell? ⟨w.heap.size, 0 + 5, none⟩ = some (.slice Data68a Data68l Data68c) ∧ ∃ (s460a : Option Addr) (s460l s460c : Nat), ∃ w461, 
    Sem.run Try.prog (convert 47 47 (.slice (some ⟨w406.heap.size, 0, none⟩) 2 2)) w458 = .ok (.slice s460a s460l s460c) w461 ∧ w461.cell? ⟨w.heap.size, 
    0 + 5, none⟩ = some (.slice Data68a Data68l Data68c) ∧ w461.cell? ⟨w.heap.size, 0 + 3, none⟩ = some (.int .i64 Era67) ∧ w461.cell? ⟨w.heap.size, 0, 
    none⟩ = some (.int .i64 Place66) ∧ w461.cell? ⟨w.heap.size, 0 + 1, none⟩ = some (.int .i64 No65) ∧ w461.cell? ⟨w.heap.size, 0 + 5, 
    none⟩ = some (.slice Data64a Data64l Data64c) ∧ w461.cell? ⟨w.heap.size, 0 + 2, none⟩ = some (.int .i64 Index63) ∧ w461.cell? ⟨w.heap.size, 0 + 4, 
    none⟩ = some (.int .i64 Parts62) ∧ ∀ w462, w462 = w461.alloc (.cells #[(.slice s460a s460l s460c), (.slice r209a r209l r209c), 
    (.slice r321a r321l r321c), (.slice r407a r407l r407c), (.slice r428a r428l r428c), (.slice r445a r445l r445c), (.slice r459a r459l r459c), 
    (.slice Data68a Data68l Data68c)] 47) → Calls Try.prog 63 #[(.slice (some ⟨w461.heap.size, 0, 
    none⟩) 8 8)] w462 (fun e463 w464 => ∃ (r465a : Option Addr) (r465l r465c : Nat), e463 = .returned (.slice r465a r465l r465c) ∧ ∃ n466 : Int, ∃ w467, 
    Sem.run Try.prog (Builtin.copy_ #[47, 47] 3 #[(.slice s23a s23l s23c), (.slice r465a r465l r465c)]) w464 = .ok (.int .i64 n466) w467 ∧ 
    J25  w467)))))))) ∧ (Calls Try.prog 64 #[(.int .i64 No65), (.int .i64 (6 : Int))] w406 (fun e468 w469 => ∃ (r470a : Option Addr) (r470l r470c : Nat), 
    e468 = .returned (.slice r470a r470l r470c) ∧ w469.cell? ⟨w.heap.size, 0 + 5, none⟩ = some (.slice Data68a Data68l Data68c) ∧ 
    w469.cell? ⟨w.heap.size, 0 + 3, none⟩ = some (.int .i64 Era67) ∧ w469.cell? ⟨w.heap.size, 0, none⟩ = some (.int .i64 Place66) ∧ (∀ w471, 
    w471 = w469.alloc (.cells #[(.int .u8 (80 : Int)), (.int .u8 (66 : Int))] 5) → w471.cell? ⟨w.heap.size, 0 + 5, 
    none⟩ = some (.slice Data68a Data68l Data68c) ∧ w471.cell? ⟨w.heap.size, 0 + 3, none⟩ = some (.int .i64 Era67) ∧ w471.cell? ⟨w.heap.size, 0, 
    none⟩ = some (.int .i64 Place66) ∧ w471.cell? ⟨w.heap.size, 0 + 1, none⟩ = some (.int .i64 No65) ∧ w471.cell? ⟨w.heap.size, 0 + 5, 
    none⟩ = some (.slice Data64a Data64l Data64c) ∧ w471.cell? ⟨w.heap.size, 0 + 2, none⟩ = some (.int .i64 Index63) ∧ w471.cell? ⟨w.heap.size, 0 + 4, 
    none⟩ = some (.int .i64 Parts62) ∧ (∃ (s472a : Option Addr) (s472l s472c : Nat), ∃ w473, 
    Sem.run Try.prog (convert 47 47 (.slice (some ⟨w469.heap.size, 0, none⟩) 2 2)) w471 = .ok (.slice s472a s472l s472c) w473 ∧ w473.cell? ⟨w.heap.size, 
    0 + 5, none⟩ = some (.slice Data68a Data68l Data68c) ∧ w473.cell? ⟨w.heap.size, 0 + 3, none⟩ = some (.int .i64 Era67) ∧ w473.cell? ⟨w.heap.size, 0, 
    none⟩ = some (.int .i64 Place66) ∧ w473.cell? ⟨w.heap.size, 0 + 1, none⟩ = some (.int .i64 No65) ∧ w473.cell? ⟨w.heap.size, 0 + 5, 
    none⟩ = some (.slice Data64a Data64l Data64c) ∧ w473.cell? ⟨w.heap.size, 0 + 2, none⟩ = some (.int .i64 Index63) ∧ w473.cell? ⟨w.heap.size, 0 + 4, 
    none⟩ = some (.int .i64 Parts62) ∧ Calls Try.prog 64 #[(.int .i64 Place66), 
    (.int .i64 (6 : Int))] w473 (fun e474 w475 => ∃ (r476a : Option Addr) (r476l r476c : Nat), e474 = .returned (.slice r476a r476l r476c) ∧ 
    w475.cell? ⟨w.heap.size, 0 + 5, none⟩ = some (.slice Data68a Data68l Data68c) ∧ w475.cell? ⟨w.heap.size, 0 + 3, none⟩ = some (.int .i64 Era67) ∧ 
    Calls Try.prog 64 #[(.int .i64 Era67), (.int .i64 (4 : Int))] w475 (fun e477 w478 => ∃ (r479a : Option Addr) (r479l r479c : Nat), 
    e477 = .returned (.slice r479a r479l r479c) ∧ w478.cell? ⟨w.heap.size, 0 + 5, none⟩ = some (.slice Data68a Data68l Data68c) ∧ ∀ w480, 
    w480 = w478.alloc (.cells #[(.slice s472a s472l s472c), (.slice r209a r209l r209c), (.slice r321a r321l r321c), (.slice r407a r407l r407c), 
    (.slice r470a r470l r470c), (.slice r476a r476l r476c), (.slice r479a r479l r479c), (.slice Data68a Data68l Data68c)] 47) → 
    Calls Try.prog 63 #[(.slice (some ⟨w478.heap.size, 0, none⟩) 8 8)] w480 (fun e481 w482 => ∃ (r483a : Option Addr) (r483l r483c : Nat), 
    e481 = .returned (.slice r483a r483l r483c) ∧ ∃ n484 : Int, ∃ w485, Sem.run Try.prog (Builtin.copy_ #[47, 47] 3 #[(.slice s23a s23l s23c), 
    (.slice r483a r483l r483c)]) w482 = .ok (.int .i64 n484) w485 ∧ J25  w485)))) ∧ (Calls Try.prog 64 #[(.int .i64 Place66), 
    (.int .i64 (6 : Int))] w471 (fun e486 w487 => ∃ (r488a : Option Addr) (r488l r488c : Nat), e486 = .returned (.slice r488a r488l r488c) ∧ 
    w487.cell? ⟨w.heap.size, 0 + 5, none⟩ = some (.slice Data68a Data68l Data68c) ∧ w487.cell? ⟨w.heap.size, 0 + 3, none⟩ = some (.int .i64 Era67) ∧ 
    (∃ (s489a : Option Addr) (s489l s489c : Nat), ∃ w490, Sem.run Try.prog (convert 47 47 (.slice (some ⟨w469.heap.size, 0, 
    none⟩) 2 2)) w487 = .ok (.slice s489a s489l s489c) w490 ∧ w490.cell? ⟨w.heap.size, 0 + 5, none⟩ = some (.slice Data68a Data68l Data68c) ∧ 
    w490.cell? ⟨w.heap.size, 0 + 3, none⟩ = some (.int .i64 Era67) ∧ w490.cell? ⟨w.heap.size, 0, none⟩ = some (.int .i64 Place66) ∧ 
    w490.cell? ⟨w.heap.size, 0 + 1, none⟩ = some (.int .i64 No65) ∧ w490.cell? ⟨w.heap.size, 0 + 5, none⟩ = some (.slice Data64a Data64l Data64c) ∧ 
    w490.cell? ⟨w.heap.size, 0 + 2, none⟩ = some (.int .i64 Index63) ∧ w490.cell? ⟨w.heap.size, 0 + 4, none⟩ = some (.int .i64 Parts62) ∧ 
    Calls Try.prog 64 #[(.int .i64 Era67), (.int .i64 (4 : Int))] w490 (fun e491 w492 => ∃ (r493a : Option Addr) (r493l r493c : Nat), 
    e491 = .returned (.slice r493a r493l r493c) ∧ w492.cell? ⟨w.heap.size, 0 + 5, none⟩ = some (.slice Data68a Data68l Data68c) ∧ ∀ w494, 
    w494 = w492.alloc (.cells #[(.slice s489a s489l s489c), (.slice r209a r209l r209c), (.slice r321a r321l r321c), (.slice r407a r407l r407c), 
    (.slice r470a r470l r470c), (.slice r488a r488l r488c), (.slice r493a r493l r493c), (.slice Data68a Data68l Data68c)] 47) → 
    Calls Try.prog 63 #[(.slice (some ⟨w492.heap.size, 0, none⟩) 8 8)] w494 (fun e495 w496 => ∃ (r497a : Option Addr) (r497l r497c : Nat), 
    e495 = .returned (.slice r497a r497l r497c) ∧ ∃ n498 : Int, ∃ w499, Sem.run Try.prog (Builtin.copy_ #[47, 47] 3 #[(.slice s23a s23l s23c), 
    (.slice r497a r497l r497c)]) w496 = .ok (.int .i64 n498) w499 ∧ J25  w499))) ∧ (Calls Try.prog 64 #[(.int .i64 Era67), 
    (.int .i64 (4 : Int))] w487 (fun e500 w501 => ∃ (r502a : Option Addr) (r502l r502c : Nat), e500 = .returned (.slice r502a r502l r502c) ∧ 
    w501.cell? ⟨w.heap.size, 0 + 5, none⟩ = some (.slice Data68a Data68l Data68c) ∧ ∃ (s503a : Option Addr) (s503l s503c : Nat), ∃ w504, 
    Sem.run Try.prog (convert 47 47 (.slice (some ⟨w469.heap.size, 0, none⟩) 2 2)) w501 = .ok (.slice s503a s503l s503c) w504 ∧ w504.cell? ⟨w.heap.size, 
    0 + 5, none⟩ = some (.slice Data68a Data68l Data68c) ∧ w504.cell? ⟨w.heap.size, 0 + 3, none⟩ = some (.int .i64 Era67) ∧ w504.cell? ⟨w.heap.size, 0, 
    none⟩ = some (.int .i64 Place66) ∧ w504.cell? ⟨w.heap.size, 0 + 1, none⟩ = some (.int .i64 No65) ∧ w504.cell? ⟨w.heap.size, 0 + 5, 
    none⟩ = some (.slice Data64a Data64l Data64c) ∧ w504.cell? ⟨w.heap.size, 0 + 2, none⟩ = some (.int .i64 Index63) ∧ w504.cell? ⟨w.heap.size, 0 + 4, 
    none⟩ = some (.int .i64 Parts62) ∧ ∀ w505, w505 = w504.alloc (.cells #[(.slice s503a s503l s503c), (.slice r209a r209l r209c), 
    (.slice r321a r321l r321c), (.slice r407a r407l r407c), (.slice r470a r470l r470c), (.slice r488a r488l r488c), (.slice r502a r502l r502c), 
    (.slice Data68a Data68l Data68c)] 47) → Calls Try.prog 63 #[(.slice (some ⟨w504.heap.size, 0, 
    none⟩) 8 8)] w505 (fun e506 w507 => ∃ (r508a : Option Addr) (r508l r508c : Nat), e506 = .returned (.slice r508a r508l r508c) ∧ ∃ n509 : Int, ∃ w510, 
    Sem.run Try.prog (Builtin.copy_ #[47, 47] 3 #[(.slice s23a s23l s23c), (.slice r508a r508l r508c)]) w507 = .ok (.int .i64 n509) w510 ∧ 
    J25  w510)))))) ∧ (Calls Try.prog 64 #[(.int .i64 Place66), 
    (.int .i64 (6 : Int))] w469 (fun e511 w512 => ∃ (r513a : Option Addr) (r513l r513c : Nat), e511 = .returned (.slice r513a r513l r513c) ∧ 
    w512.cell? ⟨w.heap.size, 0 + 5, none⟩ = some (.slice Data68a Data68l Data68c) ∧ w512.cell? ⟨w.heap.size, 0 + 3, none⟩ = some (.int .i64 Era67) ∧ 
    (∀ w514, w514 = w512.alloc (.cells #[(.int .u8 (80 : Int)), (.int .u8 (66 : Int))] 5) → w514.cell? ⟨w.heap.size, 0 + 5, 
    none⟩ = some (.slice Data68a Data68l Data68c) ∧ w514.cell? ⟨w.heap.size, 0 + 3, none⟩ = some (.int .i64 Era67) ∧ w514.cell? ⟨w.heap.size, 0, 
    none⟩ = some (.int .i64 Place66) ∧ w514.cell? ⟨w.heap.size, 0 + 1, none⟩ = some (.int .i64 No65) ∧ w514.cell? ⟨w.heap.size, 0 + 5, 
    none⟩ = some (.slice Data64a Data64l Data64c) ∧ w514.cell? ⟨w.heap.size, 0 + 2, none⟩ = some (.int .i64 Index63) ∧ w514.cell? ⟨w.heap.size, 0 + 4, 
    none⟩ = some (.int .i64 Parts62) ∧ (∃ (s515a : Option Addr) (s515l s515c : Nat), ∃ w516, 
    Sem.run Try.prog (convert 47 47 (.slice (some ⟨w512.heap.size, 0, none⟩) 2 2)) w514 = .ok (.slice s515a s515l s515c) w516 ∧ w516.cell? ⟨w.heap.size, 
    0 + 5, none⟩ = some (.slice Data68a Data68l Data68c) ∧ w516.cell? ⟨w.heap.size, 0 + 3, none⟩ = some (.int .i64 Era67) ∧ w516.cell? ⟨w.heap.size, 0, 
    none⟩ = some (.int .i64 Place66) ∧ w516.cell? ⟨w.heap.size, 0 + 1, none⟩ = some (.int .i64 No65) ∧ w516.cell? ⟨w.heap.size, 0 + 5, 
    none⟩ = some (.slice Data64a Data64l Data64c) ∧ w516.cell? ⟨w.heap.size, 0 + 2, none⟩ = some (.int .i64 Index63) ∧ w516.cell? ⟨w.heap.size, 0 + 4, 
    none⟩ = some (.int .i64 Parts62) ∧ Calls Try.prog 64 #[(.int .i64 Era67), 
    (.int .i64 (4 : Int))] w516 (fun e517 w518 => ∃ (r519a : Option Addr) (r519l r519c : Nat), e517 = .returned (.slice r519a r519l r519c) ∧ 
    w518.cell? ⟨w.heap.size, 0 + 5, none⟩ = some (.slice Data68a Data68l Data68c) ∧ ∀ w520, w520 = w518.alloc (.cells #[(.slice s515a s515l s515c), 
    (.slice r209a r209l r209c), (.slice r321a r321l r321c), (.slice r407a r407l r407c), (.slice r470a r470l r470c), (.slice r513a r513l r513c), 
    (.slice r519a r519l r519c), (.slice Data68a Data68l Data68c)] 47) → Calls Try.prog 63 #[(.slice (some ⟨w518.heap.size, 0, 
    none⟩) 8 8)] w520 (fun e521 w522 => ∃ (r523a : Option Addr) (r523l r523c : Nat), e521 = .returned (.slice r523a r523l r523c) ∧ ∃ n524 : Int, ∃ w525, 
    Sem.run Try.prog (Builtin.copy_ #[47, 47] 3 #[(.slice s23a s23l s23c), (.slice r523a r523l r523c)]) w522 = .ok (.int .i64 n524) w525 ∧ J25  w525))) ∧ 
    (Calls Try.prog 64 #[(.int .i64 Era67), (.int .i64 (4 : Int))] w514 (fun e526 w527 => ∃ (r528a : Option Addr) (r528l r528c : Nat), 
    e526 = .returned (.slice r528a r528l r528c) ∧ w527.cell? ⟨w.heap.size, 0 + 5, none⟩ = some (.slice Data68a Data68l Data68c) ∧ 
    ∃ (s529a : Option Addr) (s529l s529c : Nat), ∃ w530, Sem.run Try.prog (convert 47 47 (.slice (some ⟨w512.heap.size, 0, 
    none⟩) 2 2)) w527 = .ok (.slice s529a s529l s529c) w530 ∧ w530.cell? ⟨w.heap.size, 0 + 5, none⟩ = some (.slice Data68a Data68l Data68c) ∧ 
    w530.cell? ⟨w.heap.size, 0 + 3, none⟩ = some (.int .i64 Era67) ∧ w530.cell? ⟨w.heap.size, 0, none⟩ = some (.int .i64 Place66) ∧ 
    w530.cell? ⟨w.heap.size, 0 + 1, none⟩ = some (.int .i64 No65) ∧ w530.cell? ⟨w.heap.size, 0 + 5, none⟩ = some (.slice Data64a Data64l Data64c) ∧ 
    w530.cell? ⟨w.heap.size, 0 + 2, none⟩ = some (.int .i64 Index63) ∧ w530.cell? ⟨w.heap.size, 0 + 4, none⟩ = some (.int .i64 Parts62) ∧ ∀ w531, 
    w531 = w530.alloc (.cells #[(.slice s529a s529l s529c), (.slice r209a r209l r209c), (.slice r321a r321l r321c), (.slice r407a r407l r407c), 
    (.slice r470a r470l r470c), (.slice r513a r513l r513c), (.slice r528a r528l r528c), (.slice Data68a Data68l Data68c)] 47) → 
    Calls Try.prog 63 #[(.slice (some ⟨w530.heap.size, 0, none⟩) 8 8)] w531 (fun e532 w533 => ∃ (r534a : Option Addr) (r534l r534c : Nat), 
    e532 = .returned (.slice r534a r534l r534c) ∧ ∃ n535 : Int, ∃ w536, Sem.run Try.prog (Builtin.copy_ #[47, 47] 3 #[(.slice s23a s23l s23c), 
    (.slice r534a r534l r534c)]) w533 = .ok (.int .i64 n535) w536 ∧ J25  w536)))) ∧ (Calls Try.prog 64 #[(.int .i64 Era67), 
    (.int .i64 (4 : Int))] w512 (fun e537 w538 => ∃ (r539a : Option Addr) (r539l r539c : Nat), e537 = .returned (.slice r539a r539l r539c) ∧ 
    w538.cell? ⟨w.heap.size, 0 + 5, none⟩ = some (.slice Data68a Data68l Data68c) ∧ ∀ w540, w540 = w538.alloc (.cells #[(.int .u8 (80 : Int)), 
    (.int .u8 (66 : Int))] 5) → w540.cell? ⟨w.heap.size, 0 + 5, none⟩ = some (.slice Data68a Data68l Data68c) ∧ w540.cell? ⟨w.heap.size, 0 + 3, 
    none⟩ = some (.int .i64 Era67) ∧ w540.cell? ⟨w.heap.size, 0, none⟩ = some (.int .i64 Place66) ∧ w540.cell? ⟨w.heap.size, 0 + 1, 
    none⟩ = some (.int .i64 No65) ∧ w540.cell? ⟨w.heap.size, 0 + 5, none⟩ = some (.slice Data64a Data64l Data64c) ∧ w540.cell? ⟨w.heap.size, 0 + 2, 
    none⟩ = some (.int .i64 Index63) ∧ w540.cell? ⟨w.heap.size, 0 + 4, none⟩ = some (.int .i64 Parts62) ∧ ∃ (s541a : Option Addr) (s541l s541c : Nat), 
    ∃ w542, Sem.run Try.prog (convert 47 47 (.slice (some ⟨w538.heap.size, 0, none⟩) 2 2)) w540 = .ok (.slice s541a s541l s541c) w542 ∧ 
    w542.cell? ⟨w.heap.size, 0 + 5, none⟩ = some (.slice Data68a Data68l Data68c) ∧ w542.cell? ⟨w.heap.size, 0 + 3, none⟩ = some (.int .i64 Era67) ∧ 
    w542.cell? ⟨w.heap.size, 0, none⟩ = some (.int .i64 Place66) ∧ w542.cell? ⟨w.heap.size, 0 + 1, none⟩ = some (.int .i64 No65) ∧ 
    w542.cell? ⟨w.heap.size, 0 + 5, none⟩ = some (.slice Data64a Data64l Data64c) ∧ w542.cell? ⟨w.heap.size, 0 + 2, none⟩ = some (.int .i64 Index63) ∧ 
    w542.cell? ⟨w.heap.size, 0 + 4, none⟩ = some (.int .i64 Parts62) ∧ ∀ w543, w543 = w542.alloc (.cells #[(.slice s541a s541l s541c), 
    (.slice r209a r209l r209c), (.slice r321a r321l r321c), (.slice r407a r407l r407c), (.slice r470a r470l r470c), (.slice r513a r513l r513c), 
    (.slice r539a r539l r539c), (.slice Data68a Data68l Data68c)] 47) → Calls Try.prog 63 #[(.slice (some ⟨w542.heap.size, 0, 
    none⟩) 8 8)] w543 (fun e544 w545 => ∃ (r546a : Option Addr) (r546l r546c : Nat), e544 = .returned (.slice r546a r546l r546c) ∧ ∃ n547 : Int, ∃ w548, 
    Sem.run Try.prog (Builtin.copy_ #[47, 47] 3 #[(.slice s23a s23l s23c), (.slice r546a r546l r546c)]) w545 = .ok (.int .i64 n547) w548 ∧ 
    J25  w548)))))))))))))))
theorem E_seg_Encode (a1 : Int) (a2 : Int) (a3 : Int) (a4 : Int) (a5 : Int) (a6a : Option Addr) (a6l a6c : Nat) (w : World) (R : Ending → World → Prop) : F_seg_Encode a1 a2 a3 a4 a5 a6a a6l a6c w R = fnVC Try.prog Try.f58 A_seg_Encode [(.agg #[(.int .i64 a1), (.int .i64 a2), (.int .i64 a3), (.int .i64 a4), (.int .i64 a5), (.slice a6a a6l a6c)])] w R := by kernel_rfl
theorem C_seg_Encode {a1 : Int} {a2 : Int} {a3 : Int} {a4 : Int} {a5 : Int} {a6a : Option Addr} {a6l a6c : Nat} {w : World} {R : Ending → World → Prop} (h : F_seg_Encode a1 a2 a3 a4 a5 a6a a6l a6c w R) : Calls Try.prog 58 #[(.agg #[(.int .i64 a1), (.int .i64 a2), (.int .i64 a3), (.int .i64 a4), (.int .i64 a5), (.slice a6a a6l a6c)])] w R := fnVC_calls Try.func58 (Eq.mp (E_seg_Encode a1 a2 a3 a4 a5 a6a a6l a6c w R) h)

/-! 59 (*pollard/disk.Disk).Write -/
def A_disk_Disk_Write : Ann := .keep [0, 1, 2] (.sh .bool (.keep [0, 1, 2, 8] (.split (.keep [6] (.done)) (.cut [(13, .bool)] [0, 1, 
    2] (.gsplit (.done) (.done)) (.split (.keep [6] (.done)) (.sh .bool (.keep [0, 1, 2, 22] (.split (.keep [6] (.done)) (.keep [0, 1, 2] (.loop [(1, 
    (.int .i64)), (2, .slc)] [0] (.keep [0, 1, 2, 32] (.split (.keep [0, 1, 2] (.sh (.int .i64) (.keep [0, 1, 2, 
    41] (.split (.keep [] (.keep [6] (.done))) (.keep [0, 1, 2] (.cut [] [0, 1, 2] (.sh (.int .i64) (.keep [0, 1, 2, 
    52] (.split (.sh (.int .i64) (.done)) (.done)))) (.sh (.int .i64) (.keep [0, 1, 2] (.sh (.arr 64) (.fb 71 false (.arr 65) (.sh (.arr 65) (.keep [0, 
    1, 2, 
    7] (.q 0 (.q 1 (.q 2 (.q 3 (.q 4 (.sh .slc (.q 5 (.sh (.arr 65) (.alt 6 (.fb 78 true .slc (.alt 7 (.sh .slc (.q 8 (.q 9 (.alt 10 (.fin (.keep [0, 1, 
    2, 7] (.q 0 (.q 1 (.q 2 (.q 3 (.sh .slc (.q 4 (.q 5 (.q 6 (.q 7 (.q 8 (.alt 9 (.sh (.int .i64) (.fin (.keep [0, 1, 
    2] (.q 0 (.q 1 (.q 2 (.q 3 (.q 4 (.q 5 (.fin (.done))))))))))) .stop))))))))))))) .stop)))) .stop)) .stop))))))))))))))))))))) (.keep [] (.keep [6] (.done)))))))))))))))
def F_disk_Disk_Write (a1 : Option Addr) (a2 : Int) (a3a : Option Addr) (a3l a3c : Nat) (w : World) (R : Ending → World → Prop) : Prop :=
    ∃ b4 o5, a1 = some ⟨b4, o5, none⟩ ∧ ∃ off6 : Bool, w.cell? ⟨b4, o5 + 4, none⟩ = some (.bool off6) ∧ (off6 = true → 
    R (.returned (.int .i64 (4 : Int))) w) ∧ (off6 = false → ∀ J7 : Bool → World → Prop, (∀ (x8 : Bool) (w9 : World), ((x8 = true → 
    R (.returned (.int .i64 (1 : Int))) w9) ∧ (x8 = false → (64 : Int) ≠ 0 ∧ ∀ n10 : Int, 
    n10 = (IntKind.wrap .i64 (Int.tdiv ((a3l : Nat) : Int) (64 : Int))) → Calls Try.prog 60 #[(.pointer a1), (.int .i64 a2), 
    (.int .i64 n10)] w9 (fun e11 w12 => ∃ r13 : Bool, e11 = .returned (.bool r13) ∧ ((!r13) = true → R (.returned (.int .i64 (3 : Int))) w12) ∧ 
    ((!r13) = false → ∃ (I14 : Int → Slc → World → Prop) (mu15 : Int → Slc → World → Nat), I14 a2 ⟨a3a, a3l, a3c⟩ w12 ∧ 
    ∀ (x16 : Int) (x17 : Slc) (w18 : World), I14 x16 x17 w18 → ((decide (((x17.len : Nat) : Int) > (0 : Int))) = true → ∃ b19 o20, a1 = some ⟨b19, o20, 
    none⟩ ∧ ∃ left21 : Int, w18.cell? ⟨b19, o20 + 3, none⟩ = some (.int .i64 left21) ∧ ((left21 == (0 : Int)) = true → ∃ b22 o23, a1 = some ⟨b22, o23, 
    none⟩ ∧ Wr w18 ⟨b22, o23 + 4, none⟩ ∧ ∀ w24, w24 = w18.setCell ⟨b22, o23 + 4, none⟩ (.bool true) → ∃ b25 o26, a1 = some ⟨b25, o26, none⟩ ∧ 
    Wr w24 ⟨b25, o26 + 3, none⟩ ∧ ∀ w27, w27 = w24.setCell ⟨b25, o26 + 3, none⟩ (.int .i64 (-1 : Int)) → R (.returned (.int .i64 (4 : Int))) w27) ∧ 
    ((left21 == (0 : Int)) = false → ∀ J28 : World → Prop, (∀ (w29 : World), (∃ b30 o31, a1 = some ⟨b30, o31, none⟩ ∧ ∃ writes32 : Int, w29.cell? ⟨b30, 
    o31 + 5, none⟩ = some (.int .i64 writes32) ∧ ∀ n33 : Int, n33 = (IntKind.wrap .i64 (writes32 + (1 : Int))) → ∃ b34 o35, a1 = some ⟨b34, o35, none⟩ ∧ 
    Wr w29 ⟨b34, o35 + 5, none⟩ ∧ ∀ w36, w36 = w29.setCell ⟨b34, o35 + 5, none⟩ (.int .i64 n33) → ∃ b37 o38, x17.a = some ⟨b37, o38, none⟩ ∧ 
    64 ≤ x17.len ∧ ∃ l39 : List Value, l39.length = 64 ∧ Rd w36 ⟨b37, o38, none⟩ l39 ∧ ∃ l40 : List Value, l40.length = 65 ∧ BuildRuns Try.prog 95 #[(0, 
    (.int .i64 x16)), (1, (.agg (List.toArray l39)))] (.agg (List.toArray l40)) ∧ ∀ w41, w41 = w36.alloc (.cells (zeroCellsOf Try.prog 95) 95) → 
    (Value.cells (.agg (List.toArray l40))).size = 65 ∧ (∀ u ∈ (Value.cells (.agg (List.toArray l40))).toList, WhenOne u True) ∧ (∀ i, i < 65 → 
    Wr w41 (Addr.add ⟨w36.heap.size, 0, none⟩ i)) ∧ (none : Option Nat) = none ∧ ∀ w42, 
    w42 = w41.setCells (w36.heap.size) (0) (Value.cells (.agg (List.toArray l40))).toList → ∃ b43 o44, a1 = some ⟨b43, o44, none⟩ ∧ 
    ∃ (waits45a : Option Addr) (waits45l waits45c : Nat), w42.drew.cell? ⟨b43, o44 + 2, none⟩ = some (.slice waits45a waits45l waits45c) ∧ 
    ∃ l46 : List Value, l46.length = 65 ∧ Rd w42.drew ⟨w36.heap.size, 0, none⟩ l46 ∧ ∃ (s48a : Option Addr) (s48l s48c : Nat), ∃ w49, 
    Sem.run Try.prog (Instr.buildSlice 90 1 #[(0, (.agg (List.toArray l46)))]) w42.drew = .ok (.slice s48a s48l s48c) w49 ∧ w49.cell? ⟨b43, o44 + 2, 
    none⟩ = some (.slice waits45a waits45l waits45c) ∧ ∃ (s50a : Option Addr) (s50l s50c : Nat), ∃ w51, Sem.run Try.prog (Builtin.append_ #[90, 
    90] 90 #[(.slice waits45a waits45l waits45c), (.slice s48a s48l s48c)]) w49 = .ok (.slice s50a s50l s50c) w51 ∧ ∃ b52 o53, a1 = some ⟨b52, o53, 
    none⟩ ∧ Wr w51 ⟨b52, o53 + 2, none⟩ ∧ ∀ w54, w54 = w51.setCell ⟨b52, o53 + 2, none⟩ (.slice s50a s50l s50c) → ∃ b55 o56, a1 = some ⟨b55, o56, none⟩ ∧ 
    ∃ (now57a : Option Addr) (now57l now57c : Nat), w54.drew.cell? ⟨b55, o56 + 1, none⟩ = some (.slice now57a now57l now57c) ∧ ∀ n58 : Int, 
    n58 = (IntKind.wrap .i64 (x16 * (64 : Int))) → 0 ≤ n58 ∧ n58 ≤ ((now57l : Nat) : Int) ∧ ∃ n59 : Int, ∃ w60, Sem.run Try.prog (Builtin.copy_ #[47, 
    47] 3 #[(.slice (cutBase now57a (Int.toNat n58) now57c 1) (now57l - (Int.toNat n58)) (now57c - (Int.toNat n58))), 
    (.slice (some (if 64 = 0 then ⟨w36.heap.size, 0 + 1, none⟩ else Addr.add ⟨w36.heap.size, 0 + 1, 
    none⟩ (0 * 1))) (64 - 0) (64 - 0))]) w54.drew = .ok (.int .i64 n59) w60 ∧ ∀ n61 : Int, n61 = (IntKind.wrap .i64 (x16 + (1 : Int))) → 0 ≤ (64 : Int) ∧ 
    (64 : Int) ≤ ((x17.len : Nat) : Int) ∧ I14 n61 ⟨(cutBase x17.a (Int.toNat (64 : Int)) x17.cap 1), (x17.len - (Int.toNat (64 : Int))), 
    (x17.cap - (Int.toNat (64 : Int)))⟩ w60.drew ∧ mu15 n61 ⟨(cutBase x17.a (Int.toNat (64 : Int)) x17.cap 1), (x17.len - (Int.toNat (64 : Int))), 
    (x17.cap - (Int.toNat (64 : Int)))⟩ w60.drew < mu15 x16 x17 w18) → J28  w29) → ∃ b62 o63, a1 = some ⟨b62, o63, none⟩ ∧ ∃ left64 : Int, 
    w18.cell? ⟨b62, o63 + 3, none⟩ = some (.int .i64 left64) ∧ ((decide (left64 > (0 : Int))) = true → ∃ b65 o66, a1 = some ⟨b65, o66, none⟩ ∧ 
    ∃ left67 : Int, w18.cell? ⟨b65, o66 + 3, none⟩ = some (.int .i64 left67) ∧ ∀ n68 : Int, n68 = (IntKind.wrap .i64 (left67 - (1 : Int))) → ∃ b69 o70, 
    a1 = some ⟨b69, o70, none⟩ ∧ Wr w18 ⟨b69, o70 + 3, none⟩ ∧ ∀ w71, w71 = w18.setCell ⟨b69, o70 + 3, none⟩ (.int .i64 n68) → J28  w71) ∧ 
    ((decide (left64 > (0 : Int))) = false → J28  w18))) ∧ ((decide (((x17.len : Nat) : Int) > (0 : Int))) = false → 
    R (.returned (.int .i64 (0 : Int))) w18))))) → J7 x8 w9) → ((decide (a2 < (0 : Int))) = true → J7 true w) ∧ ((decide (a2 < (0 : Int))) = false → 
    (64 : Int) ≠ 0 ∧ ∀ n72 : Int, n72 = (Int.tmod ((a3l : Nat) : Int) (64 : Int)) → J7 (n72 != (0 : Int)) w))
theorem E_disk_Disk_Write (a1 : Option Addr) (a2 : Int) (a3a : Option Addr) (a3l a3c : Nat) (w : World) (R : Ending → World → Prop) : F_disk_Disk_Write a1 a2 a3a a3l a3c w R = fnVC Try.prog Try.f59 A_disk_Disk_Write [(.pointer a1), (.int .i64 a2), (.slice a3a a3l a3c)] w R := by kernel_rfl
theorem C_disk_Disk_Write {a1 : Option Addr} {a2 : Int} {a3a : Option Addr} {a3l a3c : Nat} {w : World} {R : Ending → World → Prop} (h : F_disk_Disk_Write a1 a2 a3a a3l a3c w R) : Calls Try.prog 59 #[(.pointer a1), (.int .i64 a2), (.slice a3a a3l a3c)] w R := fnVC_calls Try.func59 (Eq.mp (E_disk_Disk_Write a1 a2 a3a a3l a3c w R) h)

/-! 60 (*pollard/disk.Disk).has -/
def A_disk_Disk_has : Ann := .keep [0, 1, 2] (.gsplit (.keep [6] (.done)) (.sh (.int .i64) (.gsplit (.sh (.int .i64) (.keep [6] (.done))) (.keep [6] (.done)))))
def F_disk_Disk_has (d1 : Option Addr) (vat2 : Int) (many3 : Int) (w : World) (R : Ending → World → Prop) : Prop :=
    ((many3 == (0 : Int)) = true → R (.returned (.bool true)) w) ∧ ((many3 == (0 : Int)) = false → 
    Calls Try.prog 35 #[(.pointer d1)] w (fun e4 w5 => ∃ r6 : Int, e4 = .returned (.int .i64 r6) ∧ ((decide (vat2 ≤ r6)) = true → 
    Calls Try.prog 35 #[(.pointer d1)] w5 (fun e7 w8 => ∃ r9 : Int, e7 = .returned (.int .i64 r9) ∧ ∀ n10 : Int, n10 = (IntKind.wrap .i64 (r9 - vat2)) → 
    R (.returned (.bool (decide (many3 ≤ n10)))) w8)) ∧ ((decide (vat2 ≤ r6)) = false → R (.returned (.bool false)) w5)))
theorem E_disk_Disk_has (d1 : Option Addr) (vat2 : Int) (many3 : Int) (w : World) (R : Ending → World → Prop) : F_disk_Disk_has d1 vat2 many3 w R = fnVC Try.prog Try.f60 A_disk_Disk_has [(.pointer d1), (.int .i64 vat2), (.int .i64 many3)] w R := by kernel_rfl
theorem C_disk_Disk_has {d1 : Option Addr} {vat2 : Int} {many3 : Int} {w : World} {R : Ending → World → Prop} (h : F_disk_Disk_has d1 vat2 many3 w R) : Calls Try.prog 60 #[(.pointer d1), (.int .i64 vat2), (.int .i64 many3)] w R := fnVC_calls Try.func60 (Eq.mp (E_disk_Disk_has d1 vat2 many3 w R) h)

/-! 61 pollard/seg.number -/
def A_seg_number : Ann := .keep [0] (.keep [0, 3] (.keep [3, 6, 7, 8] (.loop [(3, (.int .i64)), (8, (.int .i64))] [6, 7] (.keep [3, 6, 7, 8, 9] (.split (.keep [3, 6, 7, 
    8] (.sh (.int .u8) (.keep [3, 4, 5, 6, 7, 8] (.keep [3, 6, 7, 8] (.done))))) (.keep [3] (.keep [2] (.done))))))))
def F_seg_number (b1a : Option Addr) (b1l b1c : Nat) (w : World) (R : Ending → World → Prop) : Prop :=
    ∃ (I2 : Int → Int → World → Prop) (mu3 : Int → Int → World → Nat), I2 (0 : Int) (0 : Int) w ∧ ∀ (n4 : Int) (x5 : Int) (w6 : World), I2 n4 x5 w6 → 
    ((decide (x5 < ((b1l : Nat) : Int))) = true → ∃ b7 o8, b1a = some ⟨b7, o8, none⟩ ∧ 0 ≤ x5 ∧ x5 < ((b1l : Nat) : Int) ∧ ∃ n9 : Int, w6.cell? ⟨b7, 
    o8 + Int.toNat x5 * 1, none⟩ = some (.int .u8 n9) ∧ ∀ n10 : Int, n10 = (IntKind.wrap .i64 n9) → ∀ n11 : Int, 
    n11 = (IntKind.wrap .i64 ((8 : Int) * x5)) → 0 ≤ n11 ∧ ∀ n12 : Int, n12 = (IntKind.wrap .i64 (n10 * 2 ^ min (Int.toNat n11) (IntKind.bits .i64))) → 
    ∀ n13 : Int, n13 = (IntKind.wrap .i64 ((BitVec.ofInt (IntKind.bits .i64) n4 ||| BitVec.ofInt (IntKind.bits .i64) n12).toNat : Int)) → ∀ n14 : Int, 
    n14 = (IntKind.wrap .i64 (x5 + (1 : Int))) → I2 n13 n14 w6 ∧ mu3 n13 n14 w6 < mu3 n4 x5 w6) ∧ ((decide (x5 < ((b1l : Nat) : Int))) = false → 
    R (.returned (.int .i64 n4)) w6)
theorem E_seg_number (b1a : Option Addr) (b1l b1c : Nat) (w : World) (R : Ending → World → Prop) : F_seg_number b1a b1l b1c w R = fnVC Try.prog Try.f61 A_seg_number [(.slice b1a b1l b1c)] w R := by kernel_rfl
theorem C_seg_number {b1a : Option Addr} {b1l b1c : Nat} {w : World} {R : Ending → World → Prop} (h : F_seg_number b1a b1l b1c w R) : Calls Try.prog 61 #[(.slice b1a b1l b1c)] w R := fnVC_calls Try.func61 (Eq.mp (E_seg_number b1a b1l b1c w R) h)

/-! 62 bytes.Equal -/
def A_bytes_Equal : Ann := .keep [0, 1] (.fb 6 false .str (.fb 8 false .str (.keep [4] (.done))))
def F_bytes_Equal (a1a : Option Addr) (a1l a1c : Nat) (b2a : Option Addr) (b2l b2c : Nat) (w : World) (R : Ending → World → Prop) : Prop :=
    ∃ s3 : ByteArray, Sem.run Try.prog (convert 47 9 (.slice a1a a1l a1c)) w = .ok (.string s3) w ∧ ∃ s4 : ByteArray, 
    Sem.run Try.prog (convert 47 9 (.slice b2a b2l b2c)) w = .ok (.string s4) w ∧ R (.returned (.bool (s3.toList == s4.toList))) w
theorem E_bytes_Equal (a1a : Option Addr) (a1l a1c : Nat) (b2a : Option Addr) (b2l b2c : Nat) (w : World) (R : Ending → World → Prop) : F_bytes_Equal a1a a1l a1c b2a b2l b2c w R = fnVC Try.prog Try.f62 A_bytes_Equal [(.slice a1a a1l a1c), (.slice b2a b2l b2c)] w R := by kernel_rfl
theorem C_bytes_Equal {a1a : Option Addr} {a1l a1c : Nat} {b2a : Option Addr} {b2l b2c : Nat} {w : World} {R : Ending → World → Prop} (h : F_bytes_Equal a1a a1l a1c b2a b2l b2c w R) : Calls Try.prog 62 #[(.slice a1a a1l a1c), (.slice b2a b2l b2c)] w R := fnVC_calls Try.func62 (Eq.mp (E_bytes_Equal a1a a1l a1c b2a b2l b2c w R) h)

/-! 63 slices.Concat[[]byte,byte] -/
def A_slices_Concat_byte : Ann := .keep [0] (.keep [0, 3] (.keep [0, 3, 9, 10, 11] (.loop [(3, (.int .i64)), (11, (.int .i64))] [0, 9, 10] (.keep [0, 3, 9, 10, 11, 
    12] (.split (.keep [0, 3, 9, 10, 11] (.sh .slc (.keep [0, 3, 5, 9, 10, 11] (.keep [0, 3, 9, 10, 11] (.keep [0, 3, 9, 10, 11, 
    20] (.split (.done) (.keep [0, 3, 9, 10, 11] (.done)))))))) (.keep [0, 3] (.sh .slc (.keep [0, 6] (.keep [6, 25, 26, 27] (.loop [(6, .slc), (27, 
    (.int .i64))] [25, 26] (.keep [6, 25, 26, 27, 28] (.split (.keep [6, 25, 26, 27] (.sh .slc (.keep [6, 8, 25, 26, 27] (.sh .slc (.keep [6, 25, 26, 
    27] (.done)))))) (.keep [6] (.keep [2] (.done)))))))))))))))
def F_slices_Concat_byte (slices1a : Option Addr) (slices1l slices1c : Nat) (w : World) (R : Ending → World → Prop) : Prop :=
    ∃ (I2 : Int → Int → World → Prop) (mu3 : Int → Int → World → Nat), I2 (0 : Int) (0 : Int) w ∧ ∀ (size4 : Int) (x5 : Int) (w6 : World), 
    I2 size4 x5 w6 → ((decide (x5 < ((slices1l : Nat) : Int))) = true → ∃ b7 o8, slices1a = some ⟨b7, o8, none⟩ ∧ 0 ≤ x5 ∧ 
    x5 < ((slices1l : Nat) : Int) ∧ ∃ (s9a : Option Addr) (s9l s9c : Nat), w6.cell? ⟨b7, o8 + Int.toNat x5 * 1, none⟩ = some (.slice s9a s9l s9c) ∧ 
    ∀ n10 : Int, n10 = (IntKind.wrap .i64 (size4 + ((s9l : Nat) : Int))) → ((decide (n10 < (0 : Int))) = true → False) ∧ 
    ((decide (n10 < (0 : Int))) = false → ∀ n11 : Int, n11 = (IntKind.wrap .i64 (x5 + (1 : Int))) → I2 n10 n11 w6 ∧ mu3 n10 n11 w6 < mu3 size4 x5 w6)) ∧ 
    ((decide (x5 < ((slices1l : Nat) : Int))) = false → Calls Try.prog 66 #[(.slice none 0 0), 
    (.int .i64 size4)] w6 (fun e12 w13 => ∃ (r14a : Option Addr) (r14l r14c : Nat), e12 = .returned (.slice r14a r14l r14c) ∧ ∃ (I15 : Slc → Int → 
    World → Prop) (mu16 : Slc → Int → World → Nat), I15 ⟨r14a, r14l, r14c⟩ (0 : Int) w13 ∧ ∀ (newslice17 : Slc) (x18 : Int) (w19 : World), 
    I15 newslice17 x18 w19 → ((decide (x18 < ((slices1l : Nat) : Int))) = true → ∃ b20 o21, slices1a = some ⟨b20, o21, none⟩ ∧ 0 ≤ x18 ∧ 
    x18 < ((slices1l : Nat) : Int) ∧ ∃ (s22a : Option Addr) (s22l s22c : Nat), w19.cell? ⟨b20, o21 + Int.toNat x18 * 1, 
    none⟩ = some (.slice s22a s22l s22c) ∧ ∃ (s23a : Option Addr) (s23l s23c : Nat), ∃ w24, Sem.run Try.prog (Builtin.append_ #[47, 
    47] 47 #[(.slice newslice17.a newslice17.len newslice17.cap), (.slice s22a s22l s22c)]) w19 = .ok (.slice s23a s23l s23c) w24 ∧ ∀ n25 : Int, 
    n25 = (IntKind.wrap .i64 (x18 + (1 : Int))) → I15 ⟨s23a, s23l, s23c⟩ n25 w24 ∧ mu16 ⟨s23a, s23l, s23c⟩ n25 w24 < mu16 newslice17 x18 w19) ∧ 
    ((decide (x18 < ((slices1l : Nat) : Int))) = false → R (.returned (.slice newslice17.a newslice17.len newslice17.cap)) w19)))
theorem E_slices_Concat_byte (slices1a : Option Addr) (slices1l slices1c : Nat) (w : World) (R : Ending → World → Prop) : F_slices_Concat_byte slices1a slices1l slices1c w R = fnVC Try.prog Try.f63 A_slices_Concat_byte [(.slice slices1a slices1l slices1c)] w R := by kernel_rfl
theorem C_slices_Concat_byte {slices1a : Option Addr} {slices1l slices1c : Nat} {w : World} {R : Ending → World → Prop} (h : F_slices_Concat_byte slices1a slices1l slices1c w R) : Calls Try.prog 63 #[(.slice slices1a slices1l slices1c)] w R := fnVC_calls Try.func63 (Eq.mp (E_slices_Concat_byte slices1a slices1l slices1c w R) h)

/-! 64 pollard/seg.put -/
def A_seg_put : Ann := .keep [0, 1] (.sh .slc (.keep [0, 5] (.keep [0, 5, 10, 11] (.loop [(11, (.int .i64))] [0, 5, 10] (.keep [0, 5, 10, 11, 12] (.split (.keep [0, 5, 10, 
    11] (.keep [0, 5, 6, 10, 11] (.keep [0, 5, 10, 11] (.done)))) (.keep [5] (.keep [4] (.done)))))))))
def F_seg_put (n1 : Int) (size2 : Int) (w : World) (R : Ending → World → Prop) : Prop :=
    ∃ (s3a : Option Addr) (s3l s3c : Nat), ∃ w4, 
    Sem.run Try.prog (Instr.makeSlice 47 (.int .i64 size2) (.int .i64 size2)) w = .ok (.slice s3a s3l s3c) w4 ∧ ∃ (I5 : Int → World → Prop) (mu6 : Int → 
    World → Nat), I5 (0 : Int) w4 ∧ ∀ (x7 : Int) (w8 : World), I5 x7 w8 → ((decide (x7 < ((s3l : Nat) : Int))) = true → ∀ n9 : Int, 
    n9 = (IntKind.wrap .i64 ((8 : Int) * x7)) → 0 ≤ n9 ∧ ∀ n10 : Int, n10 = (Int.fdiv n1 (2 ^ min (Int.toNat n9) (IntKind.bits .i64))) → ∀ n11 : Int, 
    n11 = (IntKind.wrap .u8 n10) → ∃ b12 o13, s3a = some ⟨b12, o13, none⟩ ∧ 0 ≤ x7 ∧ x7 < ((s3l : Nat) : Int) ∧ Wr w8 ⟨b12, o13 + Int.toNat x7 * 1, 
    none⟩ ∧ ∀ w14, w14 = w8.setCell ⟨b12, o13 + Int.toNat x7 * 1, none⟩ (.int .u8 n11) → ∀ n15 : Int, n15 = (IntKind.wrap .i64 (x7 + (1 : Int))) → 
    I5 n15 w14 ∧ mu6 n15 w14 < mu6 x7 w8) ∧ ((decide (x7 < ((s3l : Nat) : Int))) = false → R (.returned (.slice s3a s3l s3c)) w8)
theorem E_seg_put (n1 : Int) (size2 : Int) (w : World) (R : Ending → World → Prop) : F_seg_put n1 size2 w R = fnVC Try.prog Try.f64 A_seg_put [(.int .i64 n1), (.int .i64 size2)] w R := by kernel_rfl
theorem C_seg_put {n1 : Int} {size2 : Int} {w : World} {R : Ending → World → Prop} (h : F_seg_put n1 size2 w R) : Calls Try.prog 64 #[(.int .i64 n1), (.int .i64 size2)] w R := fnVC_calls Try.func64 (Eq.mp (E_seg_put n1 size2 w R) h)

/-! 65 pollard/crc.Of -/
def A_crc_Of : Ann := .keep [0] (.sh (.int .u32) (.keep [2] (.done)))
def F_crc_Of (b1a : Option Addr) (b1l b1c : Nat) (w : World) (R : Ending → World → Prop) : Prop :=
    Calls Try.prog 67 #[(.int .u32 (0 : Int)), (.slice b1a b1l b1c)] w (fun e2 w3 => ∃ r4 : Int, e2 = .returned (.int .u32 r4) ∧ 
    R (.returned (.int .u32 r4)) w3)
theorem E_crc_Of (b1a : Option Addr) (b1l b1c : Nat) (w : World) (R : Ending → World → Prop) : F_crc_Of b1a b1l b1c w R = fnVC Try.prog Try.f65 A_crc_Of [(.slice b1a b1l b1c)] w R := by kernel_rfl
theorem C_crc_Of {b1a : Option Addr} {b1l b1c : Nat} {w : World} {R : Ending → World → Prop} (h : F_crc_Of b1a b1l b1c w R) : Calls Try.prog 65 #[(.slice b1a b1l b1c)] w R := fnVC_calls Try.func65 (Eq.mp (E_crc_Of b1a b1l b1c w R) h)

/-! 66 slices.Grow[[]byte,byte] -/
def A_slices_Grow_byte : Ann := .keep [0, 1] (.keep [0, 1, 6] (.split (.done) (.keep [0, 1] (.keep [0, 1] (.keep [0, 1, 
    16] (.split (.sh .slc (.keep [0] (.keep [4] (.done)))) (.keep [0] (.keep [4] (.done)))))))))
def F_slices_Grow_byte (s1a : Option Addr) (s1l s1c : Nat) (n2 : Int) (w : World) (R : Ending → World → Prop) : Prop :=
    ((decide (n2 < (0 : Int))) = true → False) ∧ ((decide (n2 < (0 : Int))) = false → ∀ n3 : Int, 
    n3 = (IntKind.wrap .i64 (((s1c : Nat) : Int) - ((s1l : Nat) : Int))) → ∀ n4 : Int, n4 = (IntKind.wrap .i64 (n2 - n3)) → 
    ((decide (n4 > (0 : Int))) = true → 0 ≤ ((s1c : Nat) : Int) ∧ ((s1c : Nat) : Int) ≤ ((s1c : Nat) : Int) ∧ ∃ (s5a : Option Addr) (s5l s5c : Nat), 
    ∃ w6, Sem.run Try.prog (Builtin.append_ #[47, 3] 47 #[(.slice (cutBase s1a 0 s1c 1) ((Int.toNat ((s1c : Nat) : Int)) - 0) (s1c - 0)), 
    (.int .i64 n4)]) w = .ok (.slice s5a s5l s5c) w6 ∧ 0 ≤ ((s1l : Nat) : Int) ∧ ((s1l : Nat) : Int) ≤ ((s5c : Nat) : Int) ∧ 
    R (.returned (.slice (cutBase s5a 0 s5c 1) ((Int.toNat ((s1l : Nat) : Int)) - 0) (s5c - 0))) w6) ∧ ((decide (n4 > (0 : Int))) = false → 
    R (.returned (.slice s1a s1l s1c)) w))
theorem E_slices_Grow_byte (s1a : Option Addr) (s1l s1c : Nat) (n2 : Int) (w : World) (R : Ending → World → Prop) : F_slices_Grow_byte s1a s1l s1c n2 w R = fnVC Try.prog Try.f66 A_slices_Grow_byte [(.slice s1a s1l s1c), (.int .i64 n2)] w R := by kernel_rfl
theorem C_slices_Grow_byte {s1a : Option Addr} {s1l s1c : Nat} {n2 : Int} {w : World} {R : Ending → World → Prop} (h : F_slices_Grow_byte s1a s1l s1c n2 w R) : Calls Try.prog 66 #[(.slice s1a s1l s1c), (.int .i64 n2)] w R := fnVC_calls Try.func66 (Eq.mp (E_slices_Grow_byte s1a s1l s1c n2 w R) h)

/-! 67 pollard/crc.Add -/
def A_crc_Add : Ann := .keep [0, 1] (.sh (.arr 16) (.sh (.arr 16) (.keep [0, 1, 5] (.keep [1, 5, 6] (.keep [5, 6, 12, 13, 14] (.loop [(6, (.int .u32)), (14, 
    (.int .i64))] [5, 12, 13] (.keep [5, 6, 12, 13, 14, 15] (.split (.keep [5, 6, 12, 13, 14] (.sh (.int .u8) (.keep [5, 6, 8, 12, 13, 14] (.keep [5, 6, 
    12, 13, 14] (.sh (.int .u32) (.keep [5, 6, 12, 13, 14] (.sh (.int .u32) (.keep [5, 6, 12, 13, 
    14] (.done))))))))) (.keep [6] (.keep [4] (.done)))))))))))
def F_crc_Add (sum1 : Int) (b2a : Option Addr) (b2l b2c : Nat) (w : World) (R : Ending → World → Prop) : Prop :=
    Calls Try.prog 68 #[] w (fun e3 w4 => ∃ r5 : List Value, r5.length = 16 ∧ e3 = .returned (.agg (List.toArray r5)) ∧ ∀ w6, 
    w6 = w4.alloc (.cells #[(.int .u32 (0 : Int)), (.int .u32 (0 : Int)), (.int .u32 (0 : Int)), (.int .u32 (0 : Int)), (.int .u32 (0 : Int)), 
    (.int .u32 (0 : Int)), (.int .u32 (0 : Int)), (.int .u32 (0 : Int)), (.int .u32 (0 : Int)), (.int .u32 (0 : Int)), (.int .u32 (0 : Int)), 
    (.int .u32 (0 : Int)), (.int .u32 (0 : Int)), (.int .u32 (0 : Int)), (.int .u32 (0 : Int)), (.int .u32 (0 : Int))] 136) → 
    (Value.cells (.agg (List.toArray r5))).size = 16 ∧ (∀ u ∈ (Value.cells (.agg (List.toArray r5))).toList, WhenOne u True) ∧ (∀ i, i < 16 → 
    Wr w6 (Addr.add ⟨w4.heap.size, 0, none⟩ i)) ∧ (none : Option Nat) = none ∧ ∀ w7, 
    w7 = w6.setCells (w4.heap.size) (0) (Value.cells (.agg (List.toArray r5))).toList → ∀ n8 : Int, 
    n8 = (IntKind.wrap .u32 ((BitVec.ofInt (IntKind.bits .u32) (if IntKind.signed .u32 = true then -1 else IntKind.max .u32) ^^^ BitVec.ofInt (IntKind.bits .u32) sum1).toNat : Int)) → 
    ∃ (I9 : Int → Int → World → Prop) (mu10 : Int → Int → World → Nat), I9 n8 (0 : Int) w7 ∧ ∀ (x11 : Int) (x12 : Int) (w13 : World), I9 x11 x12 w13 → 
    ((decide (x12 < ((b2l : Nat) : Int))) = true → ∃ b14 o15, b2a = some ⟨b14, o15, none⟩ ∧ 0 ≤ x12 ∧ x12 < ((b2l : Nat) : Int) ∧ ∃ n16 : Int, 
    w13.cell? ⟨b14, o15 + Int.toNat x12 * 1, none⟩ = some (.int .u8 n16) ∧ ∀ n17 : Int, n17 = (IntKind.wrap .u32 n16) → ∀ n18 : Int, 
    n18 = (IntKind.wrap .u32 ((BitVec.ofInt (IntKind.bits .u32) x11 ^^^ BitVec.ofInt (IntKind.bits .u32) n17).toNat : Int)) → ∀ n19 : Int, 
    n19 = (IntKind.wrap .u32 ((BitVec.ofInt (IntKind.bits .u32) n18 &&& BitVec.ofInt (IntKind.bits .u32) (15 : Int)).toNat : Int)) → 
    (none : Option Nat) = none ∧ 0 ≤ n19 ∧ n19 < ((16 : Nat) : Int) ∧ ∃ n22 : Int, w13.cell? ⟨w4.heap.size, 0 + Int.toNat n19 * 1, 
    none⟩ = some (.int .u32 n22) ∧ 0 ≤ (4 : Int) ∧ ∀ n23 : Int, n23 = (Int.fdiv n18 (2 ^ min (Int.toNat (4 : Int)) (IntKind.bits .u32))) → ∀ n24 : Int, 
    n24 = (IntKind.wrap .u32 ((BitVec.ofInt (IntKind.bits .u32) n22 ^^^ BitVec.ofInt (IntKind.bits .u32) n23).toNat : Int)) → ∀ n25 : Int, 
    n25 = (IntKind.wrap .u32 ((BitVec.ofInt (IntKind.bits .u32) n24 &&& BitVec.ofInt (IntKind.bits .u32) (15 : Int)).toNat : Int)) → 
    (none : Option Nat) = none ∧ 0 ≤ n25 ∧ n25 < ((16 : Nat) : Int) ∧ ∃ n28 : Int, w13.cell? ⟨w4.heap.size, 0 + Int.toNat n25 * 1, 
    none⟩ = some (.int .u32 n28) ∧ 0 ≤ (4 : Int) ∧ ∀ n29 : Int, n29 = (Int.fdiv n24 (2 ^ min (Int.toNat (4 : Int)) (IntKind.bits .u32))) → ∀ n30 : Int, 
    n30 = (IntKind.wrap .u32 ((BitVec.ofInt (IntKind.bits .u32) n28 ^^^ BitVec.ofInt (IntKind.bits .u32) n29).toNat : Int)) → ∀ n31 : Int, 
    n31 = (IntKind.wrap .i64 (x12 + (1 : Int))) → I9 n30 n31 w13 ∧ mu10 n30 n31 w13 < mu10 x11 x12 w13) ∧ ((decide (x12 < ((b2l : Nat) : Int))) = false → 
    ∀ n32 : Int, 
    n32 = (IntKind.wrap .u32 ((BitVec.ofInt (IntKind.bits .u32) (if IntKind.signed .u32 = true then -1 else IntKind.max .u32) ^^^ BitVec.ofInt (IntKind.bits .u32) x11).toNat : Int)) → 
    R (.returned (.int .u32 n32)) w13))
theorem E_crc_Add (sum1 : Int) (b2a : Option Addr) (b2l b2c : Nat) (w : World) (R : Ending → World → Prop) : F_crc_Add sum1 b2a b2l b2c w R = fnVC Try.prog Try.f67 A_crc_Add [(.int .u32 sum1), (.slice b2a b2l b2c)] w R := by kernel_rfl
theorem C_crc_Add {sum1 : Int} {b2a : Option Addr} {b2l b2c : Nat} {w : World} {R : Ending → World → Prop} (h : F_crc_Add sum1 b2a b2l b2c w R) : Calls Try.prog 67 #[(.int .u32 sum1), (.slice b2a b2l b2c)] w R := fnVC_calls Try.func67 (Eq.mp (E_crc_Add sum1 b2a b2l b2c w R) h)

/-! 68 pollard/crc.nibbles -/
def A_crc_nibbles : Ann := .keep [0] (.keep [0, 1] (.keep [0, 1, 5] (.loop [(5, (.int .i64))] [0, 1] (.keep [0, 1, 5, 6] (.split (.keep [0, 1, 5] (.keep [0, 1, 2, 5] (.keep [0, 
    1, 2, 3, 5] (.keep [0, 1, 2, 3, 5, 10] (.loop [(3, (.int .u32)), (10, (.int .i64))] [0, 1, 2, 5] (.keep [0, 1, 2, 3, 5, 10, 11] (.split (.keep [0, 1, 
    2, 3, 5, 10] (.keep [0, 1, 2, 3, 4, 5, 10] (.keep [0, 1, 2, 3, 4, 5, 10] (.keep [0, 1, 2, 3, 5, 10, 17] (.split (.keep [0, 1, 2, 3, 5, 
    10] (.done)) (.keep [0, 1, 2, 3, 5, 10] (.done))))))) (.keep [0, 1, 2, 3, 5] (.keep [0, 1, 5] (.done)))))))))) (.keep [0, 
    1] (.sh (.arr 16) (.sh (.arr 16) (.keep [0] (.sh (.arr 16) (.done)))))))))))
def F_crc_nibbles  (w : World) (R : Ending → World → Prop) : Prop :=
    ∀ w1, w1 = w.alloc (.cells #[(.int .u32 (0 : Int)), (.int .u32 (0 : Int)), (.int .u32 (0 : Int)), (.int .u32 (0 : Int)), (.int .u32 (0 : Int)), 
    (.int .u32 (0 : Int)), (.int .u32 (0 : Int)), (.int .u32 (0 : Int)), (.int .u32 (0 : Int)), (.int .u32 (0 : Int)), (.int .u32 (0 : Int)), 
    (.int .u32 (0 : Int)), (.int .u32 (0 : Int)), (.int .u32 (0 : Int)), (.int .u32 (0 : Int)), (.int .u32 (0 : Int))] 136) → ∀ w2, 
    w2 = w1.alloc (.cells #[(.int .u32 (0 : Int)), (.int .u32 (0 : Int)), (.int .u32 (0 : Int)), (.int .u32 (0 : Int)), (.int .u32 (0 : Int)), 
    (.int .u32 (0 : Int)), (.int .u32 (0 : Int)), (.int .u32 (0 : Int)), (.int .u32 (0 : Int)), (.int .u32 (0 : Int)), (.int .u32 (0 : Int)), 
    (.int .u32 (0 : Int)), (.int .u32 (0 : Int)), (.int .u32 (0 : Int)), (.int .u32 (0 : Int)), (.int .u32 (0 : Int))] 136) → ∃ (I3 : Int → World → 
    Prop) (mu4 : Int → World → Nat), I3 (0 : Int) w2 ∧ ∀ (x5 : Int) (w6 : World), I3 x5 w6 → ((decide (x5 < (16 : Int))) = true → ∀ n7 : Int, 
    n7 = (IntKind.wrap .u32 x5) → ∃ (I8 : Int → Int → World → Prop) (mu9 : Int → Int → World → Nat), I8 n7 (0 : Int) w6 ∧ 
    ∀ (x10 : Int) (x11 : Int) (w12 : World), I8 x10 x11 w12 → ((decide (x11 < (4 : Int))) = true → ∀ n13 : Int, 
    n13 = (IntKind.wrap .u32 ((BitVec.ofInt (IntKind.bits .u32) x10 &&& BitVec.ofInt (IntKind.bits .u32) (1 : Int)).toNat : Int)) → 0 ≤ (1 : Int) ∧ 
    ∀ n14 : Int, n14 = (Int.fdiv x10 (2 ^ min (Int.toNat (1 : Int)) (IntKind.bits .u32))) → ((n13 == (1 : Int)) = true → ∀ n15 : Int, 
    n15 = (IntKind.wrap .u32 ((BitVec.ofInt (IntKind.bits .u32) n14 ^^^ BitVec.ofInt (IntKind.bits .u32) (2197175160 : Int)).toNat : Int)) → ∀ n16 : Int, 
    n16 = (IntKind.wrap .i64 (x11 + (1 : Int))) → I8 n15 n16 w12 ∧ mu9 n15 n16 w12 < mu9 x10 x11 w12) ∧ ((n13 == (1 : Int)) = false → ∀ n17 : Int, 
    n17 = (IntKind.wrap .i64 (x11 + (1 : Int))) → I8 n14 n17 w12 ∧ mu9 n14 n17 w12 < mu9 x10 x11 w12)) ∧ ((decide (x11 < (4 : Int))) = false → 
    (none : Option Nat) = none ∧ 0 ≤ x5 ∧ x5 < ((16 : Nat) : Int) ∧ Wr w12 ⟨w1.heap.size, 0 + Int.toNat x5 * 1, none⟩ ∧ ∀ w20, 
    w20 = w12.setCell ⟨w1.heap.size, 0 + Int.toNat x5 * 1, none⟩ (.int .u32 x10) → ∀ n21 : Int, n21 = (IntKind.wrap .i64 (x5 + (1 : Int))) → I3 n21 w20 ∧ 
    mu4 n21 w20 < mu4 x5 w6)) ∧ ((decide (x5 < (16 : Int))) = false → ∃ l22 : List Value, l22.length = 16 ∧ Rd w6 ⟨w1.heap.size, 0, none⟩ l22 ∧ 
    (Value.cells (.agg (List.toArray l22))).size = 16 ∧ (∀ u ∈ (Value.cells (.agg (List.toArray l22))).toList, WhenOne u True) ∧ (∀ i, i < 16 → 
    Wr w6 (Addr.add ⟨w.heap.size, 0, none⟩ i)) ∧ (none : Option Nat) = none ∧ ∀ w23, 
    w23 = w6.setCells (w.heap.size) (0) (Value.cells (.agg (List.toArray l22))).toList → ∃ r24 : List Value, r24.length = 16 ∧ Rd w23 ⟨w.heap.size, 0, 
    none⟩ r24 ∧ R (.returned (.agg (List.toArray r24))) w23)
theorem E_crc_nibbles  (w : World) (R : Ending → World → Prop) : F_crc_nibbles  w R = fnVC Try.prog Try.f68 A_crc_nibbles [] w R := by kernel_rfl
theorem C_crc_nibbles  {w : World} {R : Ending → World → Prop} (h : F_crc_nibbles  w R) : Calls Try.prog 68 #[] w R := fnVC_calls Try.func68 (Eq.mp (E_crc_nibbles  w R) h)

end Go.Proofs
