import Derived.Test.YtmfafadchpglgaaKC

/- PRINTED BY vcgen.py: code with hints, the formula to show, the theorem; each check by the kernel. -/
namespace Go.Proofs.Ytmfafadchpglgaa

/- trellis/mulnat.trim -/
def d_mulnat_trim : Vd :=
  .seq (.ops [.op 0 ⟨none, some 2, .mov (.nil)⟩ false (.no)] [0, 2, 3, 15]) (.seq (.ops [.op 0 ⟨none, some 4, .mov (.t 0)⟩ false (.no), .op 1 ⟨none, some 5, .len (.t 4)⟩ false (.no), .op 2 ⟨none, some 3, .mov (.t 5)⟩ false (.no)] [0, 2, 3, 15]) (.seq (.block 0 (.loop ⟨[0], [], []⟩ [.t 3 (.int .i64)] (.seq (.seq (.ops [.op 0 ⟨none, some 6, .mov (.t 3)⟩ false (.no), .op 1 ⟨none, some 7, .bin .gtr (.t 6) (.i .i64 0)⟩ false (.sh (.one .val)), .op 2 ⟨none, some 8, .mov (.t 7)⟩ false (.no), .grp ⟨[0, 3], [], []⟩ [.t 15 (.bool)] [(3, ⟨some (8, true), some 9, .mov (.t 0)⟩, true, .no), (4, ⟨some (8, true), some 10, .mov (.t 3)⟩, false, .no), (5, ⟨some (8, true), some 11, .bin .sub (.t 10) (.i .i64 1)⟩, false, .sh (.one .val)), (6, ⟨some (8, true), some 12, .ia 1 (.t 9) (.t 11)⟩, false, .no), (7, ⟨some (8, true), some 13, .ldh none (.t 12)⟩, false, .sh (.one (.int .u64))), (8, ⟨some (8, true), some 14, .bin .eql (.t 13) (.i .u64 0)⟩, false, .sh (.one .val)), (9, ⟨none, some 15, .pick (.t 8) (.t 14) (.b false)⟩, false, .no)]] [0, 2, 3, 15]) (.cond (.t 15) (.skip) (.exit 0))) (.block 1 (.ops [.op 0 ⟨none, some 16, .mov (.t 3)⟩ false (.no), .op 1 ⟨none, some 17, .bin .sub (.t 16) (.i .i64 1)⟩ false (.sh (.one .val)), .op 2 ⟨none, some 3, .mov (.t 17)⟩ false (.no)] [0, 2, 3, 15]))))) (.seq (.ops [.op 0 ⟨none, some 18, .mov (.t 0)⟩ false (.no), .op 1 ⟨none, some 19, .mov (.t 3)⟩ false (.no), .op 2 ⟨none, some 20, .mov (.t 3)⟩ false (.no), .op 3 ⟨none, some 21, .sl 1 (.t 18) none (some (.t 19)) (some (.t 20))⟩ false (.no), .op 4 ⟨none, some 2, .mov (.t 21)⟩ false (.no)] [0, 2, 3, 15]) (.ret))))
def v_mulnat_trim (a : Sl) (h : Hp) (R : Value → Hp → Prop) : Prop :=
  ∃ I : Int → Hp → Prop, ∃ mu : Int → Hp → Nat, I (a.n : Int) h ∧ (∀ n : Int, ∀ h1 : Hp, I n h1 →
    ∀ J : Bool → Hp → Prop, (∀ x15 : Bool, ∀ h2 : Hp, (
      (x15 = true →
        ∀ n1 : Int, n1 = IntKind.i64.wrap (n - 1) →
        I n1 h2 ∧ mu n1 h2 < mu n h1
      ) ∧ (x15 = false →
        0 ≤ (0 : Int) ∧ (0 : Int) ≤ n ∧ n ≤ n ∧ n ≤ (a.c : Int) ∧
        R (.slice (sliceA a.a (0 : Int) n 1) ((n - (0 : Int)).toNat) ((n - (0 : Int)).toNat)) h2
      )
    ) → J x15 h2) →
    ((decide (0 < n)) = true →
    ∀ x11 : Int, x11 = IntKind.i64.wrap (n - 1) →
    0 ≤ x11 ∧ x11 < (a.n : Int) ∧ a.a.isSome = true ∧
    ∃ x13 : Int, hld h1 (elemA a.a x11 1) none = some (.int .u64 x13) ∧
    J (decide (x13 = 0)) h1
    ) ∧ ((decide (0 < n)) = false →
    J false h1
    )
  )
set_option maxRecDepth 100000 in
theorem t_mulnat_trim {a : Sl} {h : Hp} {R : Value → Hp → Prop} (hv : v_mulnat_trim a h R) : Tri Try.prog (.func (.func 80) #[] #[]) [a.v] h R :=
  tri_of_vc mixed Try.func80 (d := d_mulnat_trim) (RM := []) (rvs := [.tmp 2]) (args := [a.v]) (caps := []) (by kernel_rfl) Try.ntmps80 (V := v_mulnat_trim a h R) (by kernel_rfl) (by simp) hv

/- trellis/mulnat.rows -/
def d_mulnat_rows : Vd :=
  .seq (.ops [.op 0 ⟨none, some 14, .mov (.t 1)⟩ false (.no), .op 1 ⟨none, some 15, .len (.t 14)⟩ false (.no), .op 2 ⟨none, some 16, .mov (.i .i64 0)⟩ false (.no)] [0, 1, 2, 6, 7, 8, 9, 10, 11, 12, 13, 14, 15, 16, 17, 22, 23, 24, 25, 26]) (.block 0 (.loop ⟨[0, 2, 14, 15], [], []⟩ [.t 16 (.int .i64)] (.seq (.ops [.op 0 ⟨none, some 17, .bin .lss (.t 16) (.t 15)⟩ false (.sh (.one .val))] [0, 1, 2, 6, 7, 8, 9, 10, 11, 12, 13, 14, 15, 16, 17, 22, 23, 24, 25, 26]) (.seq (.cond (.t 17) (.skip) (.exit 0)) (.join ⟨[0, 2, 14, 15, 16], [], []⟩ [] (.block 1 (.seq (.ops [.op 0 ⟨none, some 18, .mov (.t 16)⟩ false (.no), .op 1 ⟨none, some 19, .ia 1 (.t 14) (.t 16)⟩ false (.no), .op 2 ⟨none, some 20, .ldh none (.t 19)⟩ false (.sh (.one (.int .u64))), .op 3 ⟨none, some 6, .mov (.t 18)⟩ false (.no), .op 4 ⟨none, some 7, .mov (.t 20)⟩ false (.no)] [0, 1, 2, 6, 7, 8, 9, 10, 11, 12, 13, 14, 15, 16, 17, 22, 23, 24, 25, 26]) (.seq (.seq (.ops [.op 0 ⟨none, some 21, .mov (.t 7)⟩ false (.no), .op 1 ⟨none, some 22, .bin .eql (.t 21) (.i .u64 0)⟩ false (.sh (.one .val))] [0, 1, 2, 6, 7, 8, 9, 10, 11, 12, 13, 14, 15, 16, 17, 22, 23, 24, 25, 26]) (.cond (.t 22) (.exit 1) (.skip))) (.seq (.ops [.op 0 ⟨none, some 8, .mov (.i .u64 0)⟩ false (.no)] [0, 1, 2, 6, 7, 8, 9, 10, 11, 12, 13, 14, 15, 16, 17, 22, 23, 24, 25, 26]) (.seq (.seq (.ops [.op 0 ⟨none, some 23, .mov (.t 2)⟩ false (.no), .op 1 ⟨none, some 24, .len (.t 23)⟩ false (.no), .op 2 ⟨none, some 25, .mov (.i .i64 0)⟩ false (.no)] [0, 1, 2, 6, 7, 8, 9, 10, 11, 12, 13, 14, 15, 16, 17, 22, 23, 24, 25, 26]) (.block 2 (.loop ⟨[0, 2, 6, 7, 14, 15, 16, 23, 24], [], []⟩ [.t 8 (.int .u64), .t 25 (.int .i64)] (.seq (.ops [.op 0 ⟨none, some 26, .bin .lss (.t 25) (.t 24)⟩ false (.sh (.one .val))] [0, 1, 2, 6, 7, 8, 9, 10, 11, 12, 13, 14, 15, 16, 17, 22, 23, 24, 25, 26]) (.seq (.cond (.t 26) (.skip) (.exit 2)) (.seq (.block 3 (.seq (.ops [.op 0 ⟨none, some 27, .mov (.t 25)⟩ false (.no), .op 1 ⟨none, some 28, .ia 1 (.t 23) (.t 25)⟩ false (.no), .op 2 ⟨none, some 29, .ldh none (.t 28)⟩ false (.sh (.one (.int .u64))), .op 3 ⟨none, some 9, .mov (.t 27)⟩ false (.no), .op 4 ⟨none, some 10, .mov (.t 29)⟩ false (.no)] [0, 1, 2, 6, 7, 8, 9, 10, 11, 12, 13, 14, 15, 16, 17, 22, 23, 24, 25, 26]) (.seq (.ops [.op 0 ⟨none, some 31, .mov (.t 7)⟩ false (.no), .op 1 ⟨none, some 32, .mov (.t 10)⟩ false (.no), .op 2 ⟨none, some 33, .call false (.f 92) [.t 31, .t 32]⟩ false (.sh (.tup [(none, .int .u64), (none, .int .u64)])), .op 3 ⟨none, some 30, .mov (.t 33)⟩ false (.no), .op 4 ⟨none, some 34, .ext (.t 30) 0⟩ false (.no), .op 5 ⟨none, some 35, .ext (.t 30) 1⟩ false (.no), .op 6 ⟨none, some 11, .mov (.t 34)⟩ false (.no), .op 7 ⟨none, some 12, .mov (.t 35)⟩ false (.no)] [0, 1, 2, 6, 7, 8, 9, 10, 11, 12, 13, 14, 15, 16, 17, 22, 23, 24, 25, 26]) (.seq (.ops [.op 0 ⟨none, some 13, .mov (.i .u64 0)⟩ false (.no)] [0, 1, 2, 6, 7, 8, 9, 10, 11, 12, 13, 14, 15, 16, 17, 22, 23, 24, 25, 26]) (.seq (.ops [.op 0 ⟨none, some 37, .mov (.t 12)⟩ false (.no), .op 1 ⟨none, some 38, .mov (.t 8)⟩ false (.no), .op 2 ⟨none, some 39, .call false (.f 90) [.t 37, .t 38, .i .u64 0]⟩ false (.sh (.tup [(none, .int .u64), (none, .int .u64)])), .op 3 ⟨none, some 36, .mov (.t 39)⟩ false (.no), .op 4 ⟨none, some 40, .ext (.t 36) 0⟩ false (.no), .op 5 ⟨none, some 41, .ext (.t 36) 1⟩ false (.no), .op 6 ⟨none, some 12, .mov (.t 40)⟩ false (.no), .op 7 ⟨none, some 13, .mov (.t 41)⟩ false (.no)] [0, 1, 2, 6, 7, 8, 9, 10, 11, 12, 13, 14, 15, 16, 17, 22, 23, 24, 25, 26]) (.seq (.ops [.op 0 ⟨none, some 42, .mov (.t 11)⟩ false (.no), .op 1 ⟨none, some 43, .mov (.t 13)⟩ false (.no), .op 2 ⟨none, some 44, .bin .add (.t 42) (.t 43)⟩ false (.sh (.one .val)), .op 3 ⟨none, some 11, .mov (.t 44)⟩ false (.no)] [0, 1, 2, 6, 7, 8, 9, 10, 11, 12, 13, 14, 15, 16, 17, 22, 23, 24, 25, 26]) (.seq (.ops [.op 0 ⟨none, some 46, .mov (.t 0)⟩ false (.no), .op 1 ⟨none, some 47, .mov (.t 6)⟩ false (.no), .op 2 ⟨none, some 48, .mov (.t 9)⟩ false (.no), .op 3 ⟨none, some 49, .bin .add (.t 47) (.t 48)⟩ false (.sh (.one .val)), .op 4 ⟨none, some 50, .mov (.t 0)⟩ false (.no), .op 5 ⟨none, some 51, .mov (.t 6)⟩ false (.no), .op 6 ⟨none, some 52, .mov (.t 9)⟩ false (.no), .op 7 ⟨none, some 53, .bin .add (.t 51) (.t 52)⟩ false (.sh (.one .val)), .op 8 ⟨none, some 54, .ia 1 (.t 50) (.t 53)⟩ false (.no), .op 9 ⟨none, some 55, .ldh none (.t 54)⟩ false (.sh (.one (.int .u64))), .op 10 ⟨none, some 56, .mov (.t 12)⟩ false (.no), .op 11 ⟨none, some 57, .call false (.f 90) [.t 55, .t 56, .i .u64 0]⟩ false (.sh (.tup [(none, .int .u64), (none, .int .u64)])), .op 12 ⟨none, some 45, .mov (.t 57)⟩ false (.no), .op 13 ⟨none, some 58, .ext (.t 45) 0⟩ false (.no), .op 14 ⟨none, some 59, .ext (.t 45) 1⟩ false (.no), .op 15 ⟨none, some 60, .ia 1 (.t 46) (.t 49)⟩ false (.no), .op 16 ⟨none, none, .sth 1 (.t 60) (.t 58)⟩ false (.sh (.one .val)), .op 17 ⟨none, some 13, .mov (.t 59)⟩ false (.no)] [0, 1, 2, 6, 7, 8, 9, 10, 11, 12, 13, 14, 15, 16, 17, 22, 23, 24, 25, 26]) (.ops [.op 0 ⟨none, some 61, .mov (.t 11)⟩ false (.no), .op 1 ⟨none, some 62, .mov (.t 13)⟩ false (.no), .op 2 ⟨none, some 63, .bin .add (.t 61) (.t 62)⟩ false (.sh (.one .val)), .op 3 ⟨none, some 8, .mov (.t 63)⟩ false (.no)] [0, 1, 2, 6, 7, 8, 9, 10, 11, 12, 13, 14, 15, 16, 17, 22, 23, 24, 25, 26])))))))) (.ops [.op 0 ⟨none, some 64, .bin .add (.t 25) (.i .i64 1)⟩ false (.sh (.one .val)), .op 1 ⟨none, some 25, .mov (.t 64)⟩ false (.no)] [0, 1, 2, 6, 7, 8, 9, 10, 11, 12, 13, 14, 15, 16, 17, 22, 23, 24, 25, 26]))))))) (.ops [.op 0 ⟨none, some 65, .mov (.t 0)⟩ false (.no), .op 1 ⟨none, some 66, .mov (.t 6)⟩ false (.no), .op 2 ⟨none, some 67, .mov (.t 2)⟩ false (.no), .op 3 ⟨none, some 68, .len (.t 67)⟩ false (.no), .op 4 ⟨none, some 69, .bin .add (.t 66) (.t 68)⟩ false (.sh (.one .val)), .op 5 ⟨none, some 70, .mov (.t 8)⟩ false (.no), .op 6 ⟨none, some 71, .ia 1 (.t 65) (.t 69)⟩ false (.no), .op 7 ⟨none, none, .sth 1 (.t 71) (.t 70)⟩ false (.sh (.one .val))] [0, 1, 2, 6, 7, 8, 9, 10, 11, 12, 13, 14, 15, 16, 17, 22, 23, 24, 25, 26])))))) (.ops [.op 0 ⟨none, some 72, .bin .add (.t 16) (.i .i64 1)⟩ false (.sh (.one .val)), .op 1 ⟨none, some 16, .mov (.t 72)⟩ false (.no)] [0, 1, 2, 6, 7, 8, 9, 10, 11, 12, 13, 14, 15, 16, 17, 22, 23, 24, 25, 26]))))))
def v_mulnat_rows (x0 : Sl) (x1 : Sl) (x2 : Sl) (h : Hp) (R : Value → Hp → Prop) : Prop :=
  ∃ I : Int → Hp → Prop, ∃ mu : Int → Hp → Nat, I 0 h ∧ (∀ x16 : Int, ∀ h1 : Hp, I x16 h1 →
    ((decide (x16 < (x1.n : Int))) = true →
      ∀ J : Hp → Prop, (∀ h2 : Hp, (
        ∀ x72 : Int, x72 = IntKind.i64.wrap (x16 + 1) →
        I x72 h2 ∧ mu x72 h2 < mu x16 h1
      ) → J h2) →
      0 ≤ x16 ∧ x16 < (x1.n : Int) ∧ x1.a.isSome = true ∧
      ∃ x20 : Int, hld h1 (elemA x1.a x16 1) none = some (.int .u64 x20) ∧
      ((decide (x20 = 0)) = true →
        J h1
      ) ∧ ((decide (x20 = 0)) = false →
        ∃ I1 : Int → Int → Hp → Prop, ∃ mu1 : Int → Int → Hp → Nat, I1 0 0 h1 ∧ (∀ x8 : Int, ∀ x25 : Int, ∀ h3 : Hp, I1 x8 x25 h3 →
          ((decide (x25 < (x2.n : Int))) = true →
            0 ≤ x25 ∧ x25 < (x2.n : Int) ∧ x2.a.isSome = true ∧
            ∃ x29 : Int, hld h3 (elemA x2.a x25 1) none = some (.int .u64 x29) ∧
            Tri Try.prog (.func (.func 92) #[] #[]) [.int .u64 x20, .int .u64 x29] h3 fun r h4 => ∃ x33a : Int, ∃ x33b : Int, r = .tuple #[.int .u64 x33a, .int .u64 x33b] ∧
            Tri Try.prog (.func (.func 90) #[] #[]) [.int .u64 x33b, .int .u64 x8, .int .u64 0] h4 fun r1 h5 => ∃ x39a : Int, ∃ x39b : Int, r1 = .tuple #[.int .u64 x39a, .int .u64 x39b] ∧
            ∀ x44 : Int, x44 = IntKind.u64.wrap (x33a + x39b) →
            ∀ x49 : Int, x49 = IntKind.i64.wrap (x16 + x25) →
            ∀ x53 : Int, x53 = IntKind.i64.wrap (x16 + x25) →
            0 ≤ x53 ∧ x53 < (x0.n : Int) ∧ x0.a.isSome = true ∧
            ∃ x55 : Int, hld h5 (elemA x0.a x53 1) none = some (.int .u64 x55) ∧
            Tri Try.prog (.func (.func 90) #[] #[]) [.int .u64 x55, .int .u64 x39a, .int .u64 0] h5 fun r2 h6 => ∃ x57a : Int, ∃ x57b : Int, r2 = .tuple #[.int .u64 x57a, .int .u64 x57b] ∧
            0 ≤ x49 ∧ x49 < (x0.n : Int) ∧ x0.a.isSome = true ∧
            ∃ h7 : Hp, hst h6 (elemA x0.a x49 1) [.int .u64 x57a] = some h7 ∧
            ∀ x63 : Int, x63 = IntKind.u64.wrap (x44 + x57b) →
            ∀ x64 : Int, x64 = IntKind.i64.wrap (x25 + 1) →
            I1 x63 x64 h7 ∧ mu1 x63 x64 h7 < mu1 x8 x25 h3
          ) ∧ ((decide (x25 < (x2.n : Int))) = false →
            ∀ x69 : Int, x69 = IntKind.i64.wrap (x16 + (x2.n : Int)) →
            0 ≤ x69 ∧ x69 < (x0.n : Int) ∧ x0.a.isSome = true ∧
            ∃ h8 : Hp, hst h3 (elemA x0.a x69 1) [.int .u64 x8] = some h8 ∧
            J h8
          )
        )
      )
    ) ∧ ((decide (x16 < (x1.n : Int))) = false →
      R (.tuple #[]) h1
    )
  )
set_option maxRecDepth 100000 in
theorem t_mulnat_rows {x0 : Sl} {x1 : Sl} {x2 : Sl} {h : Hp} {R : Value → Hp → Prop} (hv : v_mulnat_rows x0 x1 x2 h R) : Tri Try.prog (.func (.func 81) #[] #[]) [x0.v, x1.v, x2.v] h R :=
  tri_of_vc mixed Try.func81 (d := d_mulnat_rows) (RM := []) (rvs := []) (args := [x0.v, x1.v, x2.v]) (caps := []) (by kernel_rfl) Try.ntmps81 (V := v_mulnat_rows x0 x1 x2 h R) (by kernel_rfl) (by simp) hv

/- trellis/mulnat.addTo -/
def d_mulnat_addTo : Vd :=
  .seq (.ops [.op 0 ⟨none, some 4, .mov (.i .u64 0)⟩ false (.no)] [0, 1, 4, 5, 6, 8, 9, 10, 38]) (.seq (.seq (.ops [.op 0 ⟨none, some 7, .mov (.t 1)⟩ false (.no), .op 1 ⟨none, some 8, .len (.t 7)⟩ false (.no), .op 2 ⟨none, some 9, .mov (.i .i64 0)⟩ false (.no)] [0, 1, 4, 5, 6, 8, 9, 10, 38]) (.block 0 (.loop ⟨[0, 1, 8], [], []⟩ [.t 4 (.int .u64), .t 9 (.int .i64)] (.seq (.ops [.op 0 ⟨none, some 10, .bin .lss (.t 9) (.t 8)⟩ false (.sh (.one .val))] [0, 1, 4, 5, 6, 8, 9, 10, 38]) (.seq (.cond (.t 10) (.skip) (.exit 0)) (.seq (.block 1 (.seq (.ops [.op 0 ⟨none, some 11, .mov (.t 9)⟩ false (.no), .op 1 ⟨none, some 5, .mov (.t 11)⟩ false (.no)] [0, 1, 4, 5, 6, 8, 9, 10, 38]) (.ops [.op 0 ⟨none, some 13, .mov (.t 0)⟩ false (.no), .op 1 ⟨none, some 14, .mov (.t 5)⟩ false (.no), .op 2 ⟨none, some 15, .mov (.t 0)⟩ false (.no), .op 3 ⟨none, some 16, .mov (.t 5)⟩ false (.no), .op 4 ⟨none, some 17, .ia 1 (.t 15) (.t 16)⟩ false (.no), .op 6 ⟨none, some 19, .mov (.t 1)⟩ false (.no), .op 7 ⟨none, some 20, .mov (.t 5)⟩ false (.no), .op 8 ⟨none, some 21, .ia 1 (.t 19) (.t 20)⟩ false (.no), .op 10 ⟨none, some 23, .mov (.t 4)⟩ false (.no), .op 5 ⟨none, some 18, .ldh none (.t 17)⟩ false (.sh (.one (.int .u64))), .op 9 ⟨none, some 22, .ldh none (.t 21)⟩ false (.sh (.one (.int .u64))), .op 11 ⟨none, some 24, .call false (.f 90) [.t 18, .t 22, .t 23]⟩ false (.sh (.tup [(none, .int .u64), (none, .int .u64)])), .op 12 ⟨none, some 12, .mov (.t 24)⟩ false (.no), .op 13 ⟨none, some 25, .ext (.t 12) 0⟩ false (.no), .op 14 ⟨none, some 26, .ext (.t 12) 1⟩ false (.no), .op 15 ⟨none, some 27, .ia 1 (.t 13) (.t 14)⟩ false (.no), .op 16 ⟨none, none, .sth 1 (.t 27) (.t 25)⟩ false (.sh (.one .val)), .op 17 ⟨none, some 4, .mov (.t 26)⟩ false (.no)] [0, 1, 4, 5, 6, 8, 9, 10, 38]))) (.ops [.op 0 ⟨none, some 28, .bin .add (.t 9) (.i .i64 1)⟩ false (.sh (.one .val)), .op 1 ⟨none, some 9, .mov (.t 28)⟩ false (.no)] [0, 1, 4, 5, 6, 8, 9, 10, 38]))))))) (.seq (.ops [.op 0 ⟨none, some 29, .mov (.t 1)⟩ false (.no), .op 1 ⟨none, some 30, .len (.t 29)⟩ false (.no), .op 2 ⟨none, some 6, .mov (.t 30)⟩ false (.no)] [0, 1, 4, 5, 6, 8, 9, 10, 38]) (.block 2 (.loop ⟨[0], [], []⟩ [.t 4 (.int .u64), .t 6 (.int .i64)] (.seq (.seq (.ops [.op 0 ⟨none, some 31, .mov (.t 4)⟩ false (.no), .op 1 ⟨none, some 32, .bin .neq (.t 31) (.i .u64 0)⟩ false (.sh (.one .val)), .op 2 ⟨none, some 33, .mov (.t 32)⟩ false (.no), .grp ⟨[0, 4, 6], [], []⟩ [.t 38 (.bool)] [(3, ⟨some (33, true), some 34, .mov (.t 6)⟩, true, .no), (4, ⟨some (33, true), some 35, .mov (.t 0)⟩, false, .no), (5, ⟨some (33, true), some 36, .len (.t 35)⟩, false, .no), (6, ⟨some (33, true), some 37, .bin .lss (.t 34) (.t 36)⟩, false, .sh (.one .val)), (7, ⟨none, some 38, .pick (.t 33) (.t 37) (.b false)⟩, false, .no)]] [0, 1, 4, 5, 6, 8, 9, 10, 38]) (.cond (.t 38) (.skip) (.exit 2))) (.seq (.block 3 (.ops [.op 0 ⟨none, some 42, .mov (.t 0)⟩ false (.no), .op 1 ⟨none, some 43, .mov (.t 6)⟩ false (.no), .op 2 ⟨none, some 44, .mov (.t 0)⟩ false (.no), .op 3 ⟨none, some 45, .mov (.t 6)⟩ false (.no), .op 4 ⟨none, some 46, .ia 1 (.t 44) (.t 45)⟩ false (.no), .op 5 ⟨none, some 47, .ldh none (.t 46)⟩ false (.sh (.one (.int .u64))), .op 6 ⟨none, some 48, .mov (.t 4)⟩ false (.no), .op 7 ⟨none, some 49, .call false (.f 90) [.t 47, .i .u64 0, .t 48]⟩ false (.sh (.tup [(none, .int .u64), (none, .int .u64)])), .op 8 ⟨none, some 41, .mov (.t 49)⟩ false (.no), .op 9 ⟨none, some 50, .ext (.t 41) 0⟩ false (.no), .op 10 ⟨none, some 51, .ext (.t 41) 1⟩ false (.no), .op 11 ⟨none, some 52, .ia 1 (.t 42) (.t 43)⟩ false (.no), .op 12 ⟨none, none, .sth 1 (.t 52) (.t 50)⟩ false (.sh (.one .val)), .op 13 ⟨none, some 4, .mov (.t 51)⟩ false (.no)] [0, 1, 4, 5, 6, 8, 9, 10, 38])) (.ops [.op 0 ⟨none, some 39, .mov (.t 6)⟩ false (.no), .op 1 ⟨none, some 40, .bin .add (.t 39) (.i .i64 1)⟩ false (.sh (.one .val)), .op 2 ⟨none, some 6, .mov (.t 40)⟩ false (.no)] [0, 1, 4, 5, 6, 8, 9, 10, 38])))))))
def v_mulnat_addTo (z : Sl) (b : Sl) (h : Hp) (R : Value → Hp → Prop) : Prop :=
  ∃ I : Int → Int → Hp → Prop, ∃ mu : Int → Int → Hp → Nat, I 0 0 h ∧ (∀ c : Int, ∀ x9 : Int, ∀ h1 : Hp, I c x9 h1 →
    ((decide (x9 < (b.n : Int))) = true →
      0 ≤ x9 ∧ x9 < (z.n : Int) ∧ z.a.isSome = true ∧
      0 ≤ x9 ∧ x9 < (b.n : Int) ∧ b.a.isSome = true ∧
      ∃ x18 : Int, hld h1 (elemA z.a x9 1) none = some (.int .u64 x18) ∧
      ∃ x22 : Int, hld h1 (elemA b.a x9 1) none = some (.int .u64 x22) ∧
      Tri Try.prog (.func (.func 90) #[] #[]) [.int .u64 x18, .int .u64 x22, .int .u64 c] h1 fun r h2 => ∃ x24a : Int, ∃ x24b : Int, r = .tuple #[.int .u64 x24a, .int .u64 x24b] ∧
      0 ≤ x9 ∧ x9 < (z.n : Int) ∧ z.a.isSome = true ∧
      ∃ h3 : Hp, hst h2 (elemA z.a x9 1) [.int .u64 x24a] = some h3 ∧
      ∀ x28 : Int, x28 = IntKind.i64.wrap (x9 + 1) →
      I x24b x28 h3 ∧ mu x24b x28 h3 < mu c x9 h1
    ) ∧ ((decide (x9 < (b.n : Int))) = false →
      ∃ I1 : Int → Int → Hp → Prop, ∃ mu1 : Int → Int → Hp → Nat, I1 c (b.n : Int) h1 ∧ (∀ c1 : Int, ∀ i : Int, ∀ h4 : Hp, I1 c1 i h4 →
        ∀ J : Bool → Hp → Prop, (∀ x38 : Bool, ∀ h5 : Hp, (
          (x38 = true →
            0 ≤ i ∧ i < (z.n : Int) ∧ z.a.isSome = true ∧
            ∃ x47 : Int, hld h5 (elemA z.a i 1) none = some (.int .u64 x47) ∧
            Tri Try.prog (.func (.func 90) #[] #[]) [.int .u64 x47, .int .u64 0, .int .u64 c1] h5 fun r1 h6 => ∃ x49a : Int, ∃ x49b : Int, r1 = .tuple #[.int .u64 x49a, .int .u64 x49b] ∧
            0 ≤ i ∧ i < (z.n : Int) ∧ z.a.isSome = true ∧
            ∃ h7 : Hp, hst h6 (elemA z.a i 1) [.int .u64 x49a] = some h7 ∧
            ∀ i1 : Int, i1 = IntKind.i64.wrap (i + 1) →
            I1 x49b i1 h7 ∧ mu1 x49b i1 h7 < mu1 c1 i h4
          ) ∧ (x38 = false →
            R (.tuple #[]) h5
          )
        ) → J x38 h5) →
        ((!decide (c1 = 0)) = true →
        J (decide (i < (z.n : Int))) h4
        ) ∧ ((!decide (c1 = 0)) = false →
        J false h4
        )
      )
    )
  )
set_option maxRecDepth 100000 in
theorem t_mulnat_addTo {z : Sl} {b : Sl} {h : Hp} {R : Value → Hp → Prop} (hv : v_mulnat_addTo z b h R) : Tri Try.prog (.func (.func 82) #[] #[]) [z.v, b.v] h R :=
  tri_of_vc mixed Try.func82 (d := d_mulnat_addTo) (RM := []) (rvs := []) (args := [z.v, b.v]) (caps := []) (by kernel_rfl) Try.ntmps82 (V := v_mulnat_addTo z b h R) (by kernel_rfl) (by simp) hv

/- trellis/mulnat.subFrom -/
def d_mulnat_subFrom : Vd :=
  .seq (.ops [.op 0 ⟨none, some 4, .mov (.i .u64 0)⟩ false (.no)] [0, 1, 4, 5, 6, 8, 9, 10, 15, 21]) (.seq (.ops [.op 0 ⟨none, some 7, .mov (.t 0)⟩ false (.no), .op 1 ⟨none, some 8, .len (.t 7)⟩ false (.no), .op 2 ⟨none, some 9, .mov (.i .i64 0)⟩ false (.no)] [0, 1, 4, 5, 6, 8, 9, 10, 15, 21]) (.block 0 (.loop ⟨[0, 1, 8], [], []⟩ [.t 4 (.int .u64), .t 9 (.int .i64)] (.seq (.ops [.op 0 ⟨none, some 10, .bin .lss (.t 9) (.t 8)⟩ false (.sh (.one .val))] [0, 1, 4, 5, 6, 8, 9, 10, 15, 21]) (.seq (.cond (.t 10) (.skip) (.exit 0)) (.seq (.block 1 (.seq (.ops [.op 0 ⟨none, some 11, .mov (.t 9)⟩ false (.no), .op 1 ⟨none, some 5, .mov (.t 11)⟩ false (.no)] [0, 1, 4, 5, 6, 8, 9, 10, 15, 21]) (.seq (.ops [.op 0 ⟨none, some 6, .mov (.i .u64 0)⟩ false (.no)] [0, 1, 4, 5, 6, 8, 9, 10, 15, 21]) (.join ⟨[0, 1, 4, 5, 8, 9], [], []⟩ [.t 6 (.int .u64)] (.seq (.ops [.op 0 ⟨none, some 12, .mov (.t 5)⟩ false (.no), .op 1 ⟨none, some 13, .mov (.t 1)⟩ false (.no), .op 2 ⟨none, some 14, .len (.t 13)⟩ false (.no), .op 3 ⟨none, some 15, .bin .lss (.t 12) (.t 14)⟩ false (.sh (.one .val))] [0, 1, 4, 5, 6, 8, 9, 10, 15, 21]) (.cond (.t 15) (.ops [.op 0 ⟨none, some 16, .mov (.t 1)⟩ false (.no), .op 1 ⟨none, some 17, .mov (.t 5)⟩ false (.no), .op 2 ⟨none, some 18, .ia 1 (.t 16) (.t 17)⟩ false (.no), .op 3 ⟨none, some 19, .ldh none (.t 18)⟩ false (.sh (.one (.int .u64))), .op 4 ⟨none, some 6, .mov (.t 19)⟩ false (.no)] [0, 1, 4, 5, 6, 8, 9, 10, 15, 21]) (.seq (.ops [.op 0 ⟨none, some 20, .mov (.t 4)⟩ false (.no), .op 1 ⟨none, some 21, .bin .eql (.t 20) (.i .u64 0)⟩ false (.sh (.one .val))] [0, 1, 4, 5, 6, 8, 9, 10, 15, 21]) (.cond (.t 21) (.ret) (.skip))))) (.ops [.op 0 ⟨none, some 23, .mov (.t 0)⟩ false (.no), .op 1 ⟨none, some 24, .mov (.t 5)⟩ false (.no), .op 2 ⟨none, some 25, .mov (.t 0)⟩ false (.no), .op 3 ⟨none, some 26, .mov (.t 5)⟩ false (.no), .op 4 ⟨none, some 27, .ia 1 (.t 25) (.t 26)⟩ false (.no), .op 5 ⟨none, some 28, .ldh none (.t 27)⟩ false (.sh (.one (.int .u64))), .op 6 ⟨none, some 29, .mov (.t 6)⟩ false (.no), .op 7 ⟨none, some 30, .mov (.t 4)⟩ false (.no), .op 8 ⟨none, some 31, .call false (.f 91) [.t 28, .t 29, .t 30]⟩ false (.sh (.tup [(none, .int .u64), (none, .int .u64)])), .op 9 ⟨none, some 22, .mov (.t 31)⟩ false (.no), .op 10 ⟨none, some 32, .ext (.t 22) 0⟩ false (.no), .op 11 ⟨none, some 33, .ext (.t 22) 1⟩ false (.no), .op 12 ⟨none, some 34, .ia 1 (.t 23) (.t 24)⟩ false (.no), .op 13 ⟨none, none, .sth 1 (.t 34) (.t 32)⟩ false (.sh (.one .val)), .op 14 ⟨none, some 4, .mov (.t 33)⟩ false (.no)] [0, 1, 4, 5, 6, 8, 9, 10, 15, 21]))))) (.ops [.op 0 ⟨none, some 35, .bin .add (.t 9) (.i .i64 1)⟩ false (.sh (.one .val)), .op 1 ⟨none, some 9, .mov (.t 35)⟩ false (.no)] [0, 1, 4, 5, 6, 8, 9, 10, 15, 21])))))))
def v_mulnat_subFrom (z : Sl) (b : Sl) (h : Hp) (R : Value → Hp → Prop) : Prop :=
  ∃ I : Int → Int → Hp → Prop, ∃ mu : Int → Int → Hp → Nat, I 0 0 h ∧ (∀ c : Int, ∀ x9 : Int, ∀ h1 : Hp, I c x9 h1 →
    ((decide (x9 < (z.n : Int))) = true →
      ∀ J : Int → Hp → Prop, (∀ y : Int, ∀ h2 : Hp, (
        0 ≤ x9 ∧ x9 < (z.n : Int) ∧ z.a.isSome = true ∧
        ∃ x28 : Int, hld h2 (elemA z.a x9 1) none = some (.int .u64 x28) ∧
        Tri Try.prog (.func (.func 91) #[] #[]) [.int .u64 x28, .int .u64 y, .int .u64 c] h2 fun r h3 => ∃ x31a : Int, ∃ x31b : Int, r = .tuple #[.int .u64 x31a, .int .u64 x31b] ∧
        0 ≤ x9 ∧ x9 < (z.n : Int) ∧ z.a.isSome = true ∧
        ∃ h4 : Hp, hst h3 (elemA z.a x9 1) [.int .u64 x31a] = some h4 ∧
        ∀ x35 : Int, x35 = IntKind.i64.wrap (x9 + 1) →
        I x31b x35 h4 ∧ mu x31b x35 h4 < mu c x9 h1
      ) → J y h2) →
      ((decide (x9 < (b.n : Int))) = true →
        0 ≤ x9 ∧ x9 < (b.n : Int) ∧ b.a.isSome = true ∧
        ∃ x19 : Int, hld h1 (elemA b.a x9 1) none = some (.int .u64 x19) ∧
        J x19 h1
      ) ∧ ((decide (x9 < (b.n : Int))) = false →
        ((decide (c = 0)) = true →
          R (.tuple #[]) h1
        ) ∧ ((decide (c = 0)) = false →
          J 0 h1
        )
      )
    ) ∧ ((decide (x9 < (z.n : Int))) = false →
      R (.tuple #[]) h1
    )
  )
set_option maxRecDepth 100000 in
theorem t_mulnat_subFrom {z : Sl} {b : Sl} {h : Hp} {R : Value → Hp → Prop} (hv : v_mulnat_subFrom z b h R) : Tri Try.prog (.func (.func 94) #[] #[]) [z.v, b.v] h R :=
  tri_of_vc mixed Try.func94 (d := d_mulnat_subFrom) (RM := []) (rvs := []) (args := [z.v, b.v]) (caps := []) (by kernel_rfl) Try.ntmps94 (V := v_mulnat_subFrom z b h R) (by kernel_rfl) (by simp) hv

/- trellis/mulnat.sum -/
def d_mulnat_sum : Vd :=
  .seq (.ops [.op 0 ⟨none, some 4, .mov (.nil)⟩ false (.no)] [0, 1, 4, 5]) (.seq (.ops [.op 0 ⟨none, some 6, .mov (.t 0)⟩ false (.no), .op 1 ⟨none, some 7, .len (.t 6)⟩ false (.no), .op 2 ⟨none, some 8, .mov (.t 1)⟩ false (.no), .op 3 ⟨none, some 9, .len (.t 8)⟩ false (.no), .op 4 ⟨none, some 10, .mnmx true (.t 7) (.t 9)⟩ false (.no), .op 5 ⟨none, some 11, .bin .add (.t 10) (.i .i64 1)⟩ false (.sh (.one .val)), .op 6 ⟨none, some 12, .mk [.i .u64 0] 8 (.t 11) (.t 11)⟩ false (.sh (.one .val)), .op 7 ⟨none, some 5, .mov (.t 12)⟩ false (.no)] [0, 1, 4, 5]) (.seq (.ops [.op 0 ⟨none, some 13, .mov (.t 5)⟩ false (.no), .op 1 ⟨none, some 14, .mov (.t 0)⟩ false (.no), .op 2 ⟨none, some 15, .cpy 1 (.t 13) (.t 14)⟩ false (.sh (.one (.int .i64)))] [0, 1, 4, 5]) (.seq (.ops [.op 0 ⟨none, some 16, .mov (.t 5)⟩ false (.no), .op 1 ⟨none, some 17, .mov (.t 1)⟩ false (.no), .op 2 ⟨none, some 18, .call false (.f 82) [.t 16, .t 17]⟩ false (.sh (.tup []))] [0, 1, 4, 5]) (.seq (.ops [.op 0 ⟨none, some 19, .mov (.t 5)⟩ false (.no), .op 1 ⟨none, some 4, .mov (.t 19)⟩ false (.no)] [0, 1, 4, 5]) (.ret)))))
def v_mulnat_sum (a : Sl) (b : Sl) (h : Hp) (R : Value → Hp → Prop) : Prop :=
  ∀ x11 : Int, x11 = IntKind.i64.wrap ((mnmxI true (a.n : Int) (b.n : Int)) + 1) →
  0 ≤ x11 ∧ x11 ≤ x11 ∧ (8 : Nat) * x11 ≤ 281474976710656 ∧ x11 < 9223372036854775808 ∧ ∀ b1 : Nat, ∀ h1 : Hp, h b1 = none → h1 = h.up b1 ⟨mkCells [.int .u64 0] (Int.toNat x11 * 1), true⟩ →
  ∃ ys : List Value, firstOf h1 a.a (Nat.min a.n (Int.toNat x11)) 1 = some ys ∧ cpyRes h1 (some (blkA b1)) (Nat.min a.n (Int.toNat x11)) ys fun r h2 => ∃ x15 : Int, r = .int .i64 x15 ∧
  Tri Try.prog (.func (.func 82) #[] #[]) [.slice (some (blkA b1)) (Int.toNat x11) (Int.toNat x11), b.v] h2 fun r1 h3 => r1 = .tuple #[] ∧
  R (.slice (some (blkA b1)) (Int.toNat x11) (Int.toNat x11)) h3
set_option maxRecDepth 100000 in
theorem t_mulnat_sum {a : Sl} {b : Sl} {h : Hp} {R : Value → Hp → Prop} (hv : v_mulnat_sum a b h R) : Tri Try.prog (.func (.func 93) #[] #[]) [a.v, b.v] h R :=
  tri_of_vc mixed Try.func93 (d := d_mulnat_sum) (RM := []) (rvs := [.tmp 4]) (args := [a.v, b.v]) (caps := []) (by kernel_rfl) Try.ntmps93 (V := v_mulnat_sum a b h R) (by kernel_rfl) (by simp) hv

/- trellis/mulnat.product -/
def d_mulnat_product : Vd :=
  .seq (.ops [.op 0 ⟨none, some 4, .mov (.nil)⟩ false (.no)] [0, 1, 4, 5, 6, 7, 16, 29, 37, 47]) (.seq (.ops [.op 0 ⟨none, some 8, .mov (.t 0)⟩ false (.no), .op 1 ⟨none, some 9, .call false (.f 80) [.t 8]⟩ false (.sh (.one (.slice))), .op 2 ⟨none, some 10, .mov (.t 1)⟩ false (.no), .op 3 ⟨none, some 11, .call false (.f 80) [.t 10]⟩ false (.sh (.one (.slice))), .op 4 ⟨none, some 0, .mov (.t 9)⟩ false (.no), .op 5 ⟨none, some 1, .mov (.t 11)⟩ false (.no)] [0, 1, 4, 5, 6, 7, 16, 29, 37, 47]) (.join ⟨[], [], []⟩ [.t 0 (.slice), .t 1 (.slice)] (.seq (.ops [.op 0 ⟨none, some 12, .mov (.t 0)⟩ false (.no), .op 1 ⟨none, some 13, .len (.t 12)⟩ false (.no), .op 2 ⟨none, some 14, .mov (.t 1)⟩ false (.no), .op 3 ⟨none, some 15, .len (.t 14)⟩ false (.no), .op 4 ⟨none, some 16, .bin .lss (.t 13) (.t 15)⟩ false (.sh (.one .val))] [0, 1, 4, 5, 6, 7, 16, 29, 37, 47]) (.cond (.t 16) (.ops [.op 0 ⟨none, some 17, .mov (.t 1)⟩ false (.no), .op 1 ⟨none, some 18, .mov (.t 0)⟩ false (.no), .op 2 ⟨none, some 0, .mov (.t 17)⟩ false (.no), .op 3 ⟨none, some 1, .mov (.t 18)⟩ false (.no)] [0, 1, 4, 5, 6, 7, 16, 29, 37, 47]) (.skip))) (.seq (.ops [.op 0 ⟨none, some 19, .mov (.t 0)⟩ false (.no), .op 1 ⟨none, some 20, .len (.t 19)⟩ false (.no), .op 2 ⟨none, some 21, .mov (.t 1)⟩ false (.no), .op 3 ⟨none, some 22, .len (.t 21)⟩ false (.no), .op 4 ⟨none, some 23, .bin .add (.t 20) (.t 22)⟩ false (.sh (.one .val)), .op 5 ⟨none, some 24, .mk [.i .u64 0] 8 (.t 23) (.t 23)⟩ false (.sh (.one .val)), .op 6 ⟨none, some 5, .mov (.t 24)⟩ false (.no)] [0, 1, 4, 5, 6, 7, 16, 29, 37, 47]) (.join ⟨[5], [], []⟩ [] (.block 0 (.seq (.ops [.op 0 ⟨none, some 30, .mov (.t 1)⟩ false (.no), .op 1 ⟨none, some 31, .len (.t 30)⟩ false (.no), .op 2 ⟨none, some 32, .bin .lss (.t 31) (.i .i64 24)⟩ false (.sh (.one .val)), .op 3 ⟨none, some 29, .mov (.t 32)⟩ false (.no)] [0, 1, 4, 5, 6, 7, 16, 29, 37, 47]) (.cond (.t 29) (.ops [.op 0 ⟨none, some 33, .mov (.t 5)⟩ false (.no), .op 1 ⟨none, some 34, .mov (.t 0)⟩ false (.no), .op 2 ⟨none, some 35, .mov (.t 1)⟩ false (.no), .op 3 ⟨none, some 36, .call false (.f 81) [.t 33, .t 34, .t 35]⟩ false (.sh (.tup []))] [0, 1, 4, 5, 6, 7, 16, 29, 37, 47]) (.seq (.ops [.op 0 ⟨none, some 38, .mov (.t 0)⟩ false (.no), .op 1 ⟨none, some 39, .len (.t 38)⟩ false (.no), .op 2 ⟨none, some 40, .mov (.t 1)⟩ false (.no), .op 3 ⟨none, some 41, .len (.t 40)⟩ false (.no), .op 4 ⟨none, some 42, .bin .mul (.i .i64 2) (.t 41)⟩ false (.sh (.one .val)), .op 5 ⟨none, some 43, .bin .geq (.t 39) (.t 42)⟩ false (.sh (.one .val)), .op 6 ⟨none, some 37, .mov (.t 43)⟩ false (.no)] [0, 1, 4, 5, 6, 7, 16, 29, 37, 47]) (.cond (.t 37) (.seq (.ops [.op 0 ⟨none, some 6, .mov (.i .i64 0)⟩ false (.no)] [0, 1, 4, 5, 6, 7, 16, 29, 37, 47]) (.block 1 (.loop ⟨[0, 1, 5], [], []⟩ [.t 6 (.int .i64)] (.seq (.seq (.ops [.op 0 ⟨none, some 44, .mov (.t 6)⟩ false (.no), .op 1 ⟨none, some 45, .mov (.t 0)⟩ false (.no), .op 2 ⟨none, some 46, .len (.t 45)⟩ false (.no), .op 3 ⟨none, some 47, .bin .lss (.t 44) (.t 46)⟩ false (.sh (.one .val))] [0, 1, 4, 5, 6, 7, 16, 29, 37, 47]) (.cond (.t 47) (.skip) (.exit 1))) (.seq (.block 2 (.seq (.ops [.op 0 ⟨none, some 52, .mov (.t 6)⟩ false (.no), .op 1 ⟨none, some 53, .mov (.t 1)⟩ false (.no), .op 2 ⟨none, some 54, .len (.t 53)⟩ false (.no), .op 3 ⟨none, some 55, .bin .add (.t 52) (.t 54)⟩ false (.sh (.one .val)), .op 4 ⟨none, some 56, .mov (.t 0)⟩ false (.no), .op 5 ⟨none, some 57, .len (.t 56)⟩ false (.no), .op 6 ⟨none, some 58, .mnmx false (.t 55) (.t 57)⟩ false (.no), .op 7 ⟨none, some 7, .mov (.t 58)⟩ false (.no)] [0, 1, 4, 5, 6, 7, 16, 29, 37, 47]) (.ops [.op 0 ⟨none, some 59, .mov (.t 5)⟩ false (.no), .op 1 ⟨none, some 60, .mov (.t 6)⟩ false (.no), .op 2 ⟨none, some 61, .sl 1 (.t 59) (some (.t 60)) none none⟩ false (.no), .op 3 ⟨none, some 62, .mov (.t 0)⟩ false (.no), .op 4 ⟨none, some 63, .mov (.t 6)⟩ false (.no), .op 5 ⟨none, some 64, .mov (.t 7)⟩ false (.no), .op 6 ⟨none, some 65, .mov (.t 7)⟩ false (.no), .op 7 ⟨none, some 66, .sl 1 (.t 62) (some (.t 63)) (some (.t 64)) (some (.t 65))⟩ false (.no), .op 8 ⟨none, some 67, .mov (.t 1)⟩ false (.no), .op 9 ⟨none, some 68, .call false (.f 63) [.t 66, .t 67]⟩ false (.sh (.one (.slice))), .op 10 ⟨none, some 69, .call false (.f 80) [.t 68]⟩ false (.sh (.one (.slice))), .op 11 ⟨none, some 70, .call false (.f 82) [.t 61, .t 69]⟩ false (.sh (.tup []))] [0, 1, 4, 5, 6, 7, 16, 29, 37, 47]))) (.ops [.op 0 ⟨none, some 48, .mov (.t 6)⟩ false (.no), .op 1 ⟨none, some 49, .mov (.t 1)⟩ false (.no), .op 2 ⟨none, some 50, .len (.t 49)⟩ false (.no), .op 3 ⟨none, some 51, .bin .add (.t 48) (.t 50)⟩ false (.sh (.one .val)), .op 4 ⟨none, some 6, .mov (.t 51)⟩ false (.no)] [0, 1, 4, 5, 6, 7, 16, 29, 37, 47])))))) (.ops [.op 0 ⟨none, some 25, .mov (.t 5)⟩ false (.no), .op 1 ⟨none, some 26, .mov (.t 0)⟩ false (.no), .op 2 ⟨none, some 27, .mov (.t 1)⟩ false (.no), .op 3 ⟨none, some 28, .call false (.f 83) [.t 25, .t 26, .t 27]⟩ false (.sh (.tup []))] [0, 1, 4, 5, 6, 7, 16, 29, 37, 47])))))) (.seq (.ops [.op 0 ⟨none, some 71, .mov (.t 5)⟩ false (.no), .op 1 ⟨none, some 4, .mov (.t 71)⟩ false (.no)] [0, 1, 4, 5, 6, 7, 16, 29, 37, 47]) (.ret))))))
def v_mulnat_product (x0 : Sl) (x1 : Sl) (h : Hp) (R : Value → Hp → Prop) : Prop :=
  Tri Try.prog (.func (.func 80) #[] #[]) [x0.v] h fun r h1 => ∃ x9 : Sl, r = x9.v ∧
  Tri Try.prog (.func (.func 80) #[] #[]) [x1.v] h1 fun r1 h2 => ∃ x11 : Sl, r1 = x11.v ∧
  ∀ J : Sl → Sl → Hp → Prop, (∀ x01 : Sl, ∀ x1x : Sl, ∀ h3 : Hp, (
    ∀ x23 : Int, x23 = IntKind.i64.wrap ((x01.n : Int) + (x1x.n : Int)) →
    0 ≤ x23 ∧ x23 ≤ x23 ∧ (8 : Nat) * x23 ≤ 281474976710656 ∧ x23 < 9223372036854775808 ∧ ∀ b : Nat, ∀ h4 : Hp, h3 b = none → h4 = h3.up b ⟨mkCells [.int .u64 0] (Int.toNat x23 * 1), true⟩ →
    ∀ J1 : Hp → Prop, (∀ h5 : Hp, (
      R (.slice (some (blkA b)) (Int.toNat x23) (Int.toNat x23)) h5
    ) → J1 h5) →
    ((decide ((x1x.n : Int) < 24)) = true →
      Tri Try.prog (.func (.func 81) #[] #[]) [.slice (some (blkA b)) (Int.toNat x23) (Int.toNat x23), x01.v, x1x.v] h4 fun r2 h6 => r2 = .tuple #[] ∧
      J1 h6
    ) ∧ ((decide ((x1x.n : Int) < 24)) = false →
      ∀ x42 : Int, x42 = IntKind.i64.wrap ((2 : Int) * (x1x.n : Int)) →
      ((decide (x42 ≤ (x01.n : Int))) = true →
        ∃ I : Int → Hp → Prop, ∃ mu : Int → Hp → Nat, I 0 h4 ∧ (∀ x6 : Int, ∀ h7 : Hp, I x6 h7 →
          ((decide (x6 < (x01.n : Int))) = true →
            ∀ x55 : Int, x55 = IntKind.i64.wrap (x6 + (x1x.n : Int)) →
            0 ≤ x6 ∧ x6 ≤ (Int.toNat x23 : Int) ∧ (Int.toNat x23 : Int) ≤ (Int.toNat x23 : Int) ∧ (Int.toNat x23 : Int) ≤ (Int.toNat x23 : Int) ∧
            0 ≤ x6 ∧ x6 ≤ (mnmxI false x55 (x01.n : Int)) ∧ (mnmxI false x55 (x01.n : Int)) ≤ (mnmxI false x55 (x01.n : Int)) ∧ (mnmxI false x55 (x01.n : Int)) ≤ (x01.c : Int) ∧
            Tri Try.prog (.func (.func 63) #[] #[]) [.slice (sliceA x01.a x6 (mnmxI false x55 (x01.n : Int)) 1) (((mnmxI false x55 (x01.n : Int)) - x6).toNat) (((mnmxI false x55 (x01.n : Int)) - x6).toNat), x1x.v] h7 fun r3 h8 => ∃ x68 : Sl, r3 = x68.v ∧
            Tri Try.prog (.func (.func 80) #[] #[]) [x68.v] h8 fun r4 h9 => ∃ x69 : Sl, r4 = x69.v ∧
            Tri Try.prog (.func (.func 82) #[] #[]) [.slice (sliceA (some (blkA b)) x6 (Int.toNat x23 : Int) 1) (((Int.toNat x23 : Int) - x6).toNat) (((Int.toNat x23 : Int) - x6).toNat), x69.v] h9 fun r5 h10 => r5 = .tuple #[] ∧
            ∀ x51 : Int, x51 = IntKind.i64.wrap (x6 + (x1x.n : Int)) →
            I x51 h10 ∧ mu x51 h10 < mu x6 h7
          ) ∧ ((decide (x6 < (x01.n : Int))) = false →
            J1 h7
          )
        )
      ) ∧ ((decide (x42 ≤ (x01.n : Int))) = false →
        Tri Try.prog (.func (.func 83) #[] #[]) [.slice (some (blkA b)) (Int.toNat x23) (Int.toNat x23), x01.v, x1x.v] h4 fun r6 h11 => r6 = .tuple #[] ∧
        J1 h11
      )
    )
  ) → J x01 x1x h3) →
  ((decide ((x9.n : Int) < (x11.n : Int))) = true →
    J x11 x9 h2
  ) ∧ ((decide ((x9.n : Int) < (x11.n : Int))) = false →
    J x9 x11 h2
  )
set_option maxRecDepth 100000 in
theorem t_mulnat_product {x0 : Sl} {x1 : Sl} {h : Hp} {R : Value → Hp → Prop} (hv : v_mulnat_product x0 x1 h R) : Tri Try.prog (.func (.func 63) #[] #[]) [x0.v, x1.v] h R :=
  tri_of_vc mixed Try.func63 (d := d_mulnat_product) (RM := []) (rvs := [.tmp 4]) (args := [x0.v, x1.v]) (caps := []) (by kernel_rfl) Try.ntmps63 (V := v_mulnat_product x0 x1 h R) (by kernel_rfl) (by simp) hv

/- trellis/mulnat.halves -/
def d_mulnat_halves : Vd :=
  .seq (.ops [.op 0 ⟨none, some 14, .mov (.t 1)⟩ false (.no), .op 1 ⟨none, some 15, .len (.t 14)⟩ false (.no), .op 2 ⟨none, some 16, .bin .add (.t 15) (.i .i64 1)⟩ false (.sh (.one .val)), .op 3 ⟨none, some 17, .bin .quo (.t 16) (.i .i64 2)⟩ false (.sh (.one .val)), .op 4 ⟨none, some 6, .mov (.t 17)⟩ false (.no)] [0, 1, 2, 6, 7, 8, 9, 10, 11, 12, 13]) (.seq (.ops [.op 0 ⟨none, some 18, .mov (.t 1)⟩ false (.no), .op 1 ⟨none, some 19, .mov (.t 6)⟩ false (.no), .op 2 ⟨none, some 20, .mov (.t 6)⟩ false (.no), .op 3 ⟨none, some 21, .sl 1 (.t 18) none (some (.t 19)) (some (.t 20))⟩ false (.no), .op 4 ⟨none, some 22, .mov (.t 1)⟩ false (.no), .op 5 ⟨none, some 23, .mov (.t 6)⟩ false (.no), .op 6 ⟨none, some 24, .sl 1 (.t 22) (some (.t 23)) none none⟩ false (.no), .op 7 ⟨none, some 7, .mov (.t 21)⟩ false (.no), .op 8 ⟨none, some 8, .mov (.t 24)⟩ false (.no)] [0, 1, 2, 6, 7, 8, 9, 10, 11, 12, 13]) (.seq (.ops [.op 0 ⟨none, some 25, .mov (.t 2)⟩ false (.no), .op 1 ⟨none, some 26, .mov (.t 6)⟩ false (.no), .op 2 ⟨none, some 27, .mov (.t 6)⟩ false (.no), .op 3 ⟨none, some 28, .sl 1 (.t 25) none (some (.t 26)) (some (.t 27))⟩ false (.no), .op 4 ⟨none, some 29, .mov (.t 2)⟩ false (.no), .op 5 ⟨none, some 30, .mov (.t 6)⟩ false (.no), .op 6 ⟨none, some 31, .sl 1 (.t 29) (some (.t 30)) none none⟩ false (.no), .op 7 ⟨none, some 9, .mov (.t 28)⟩ false (.no), .op 8 ⟨none, some 10, .mov (.t 31)⟩ false (.no)] [0, 1, 2, 6, 7, 8, 9, 10, 11, 12, 13]) (.seq (.ops [.op 0 ⟨none, some 32, .mov (.t 7)⟩ false (.no), .op 1 ⟨none, some 33, .mov (.t 9)⟩ false (.no), .op 2 ⟨none, some 34, .call false (.f 63) [.t 32, .t 33]⟩ false (.sh (.one (.slice))), .op 3 ⟨none, some 35, .call false (.f 80) [.t 34]⟩ false (.sh (.one (.slice))), .op 4 ⟨none, some 11, .mov (.t 35)⟩ false (.no)] [0, 1, 2, 6, 7, 8, 9, 10, 11, 12, 13]) (.seq (.ops [.op 0 ⟨none, some 36, .mov (.t 8)⟩ false (.no), .op 1 ⟨none, some 37, .mov (.t 10)⟩ false (.no), .op 2 ⟨none, some 38, .call false (.f 63) [.t 36, .t 37]⟩ false (.sh (.one (.slice))), .op 3 ⟨none, some 39, .call false (.f 80) [.t 38]⟩ false (.sh (.one (.slice))), .op 4 ⟨none, some 12, .mov (.t 39)⟩ false (.no)] [0, 1, 2, 6, 7, 8, 9, 10, 11, 12, 13]) (.seq (.ops [.op 0 ⟨none, some 40, .mov (.t 7)⟩ false (.no), .op 1 ⟨none, some 41, .mov (.t 8)⟩ false (.no), .op 2 ⟨none, some 42, .call false (.f 93) [.t 40, .t 41]⟩ false (.sh (.one (.slice))), .op 3 ⟨none, some 43, .mov (.t 9)⟩ false (.no), .op 4 ⟨none, some 44, .mov (.t 10)⟩ false (.no), .op 5 ⟨none, some 45, .call false (.f 93) [.t 43, .t 44]⟩ false (.sh (.one (.slice))), .op 6 ⟨none, some 46, .call false (.f 63) [.t 42, .t 45]⟩ false (.sh (.one (.slice))), .op 7 ⟨none, some 13, .mov (.t 46)⟩ false (.no)] [0, 1, 2, 6, 7, 8, 9, 10, 11, 12, 13]) (.seq (.ops [.op 0 ⟨none, some 47, .mov (.t 13)⟩ false (.no), .op 1 ⟨none, some 48, .mov (.t 11)⟩ false (.no), .op 2 ⟨none, some 49, .call false (.f 94) [.t 47, .t 48]⟩ false (.sh (.tup []))] [0, 1, 2, 6, 7, 8, 9, 10, 11, 12, 13]) (.seq (.ops [.op 0 ⟨none, some 50, .mov (.t 13)⟩ false (.no), .op 1 ⟨none, some 51, .mov (.t 12)⟩ false (.no), .op 2 ⟨none, some 52, .call false (.f 94) [.t 50, .t 51]⟩ false (.sh (.tup []))] [0, 1, 2, 6, 7, 8, 9, 10, 11, 12, 13]) (.seq (.ops [.op 0 ⟨none, some 53, .mov (.t 0)⟩ false (.no), .op 1 ⟨none, some 54, .mov (.t 11)⟩ false (.no), .op 2 ⟨none, some 55, .cpy 1 (.t 53) (.t 54)⟩ false (.sh (.one (.int .i64)))] [0, 1, 2, 6, 7, 8, 9, 10, 11, 12, 13]) (.seq (.ops [.op 0 ⟨none, some 56, .mov (.t 0)⟩ false (.no), .op 1 ⟨none, some 57, .mov (.t 6)⟩ false (.no), .op 2 ⟨none, some 58, .bin .mul (.i .i64 2) (.t 57)⟩ false (.sh (.one .val)), .op 3 ⟨none, some 59, .sl 1 (.t 56) (some (.t 58)) none none⟩ false (.no), .op 4 ⟨none, some 60, .mov (.t 12)⟩ false (.no), .op 5 ⟨none, some 61, .call false (.f 82) [.t 59, .t 60]⟩ false (.sh (.tup []))] [0, 1, 2, 6, 7, 8, 9, 10, 11, 12, 13]) (.ops [.op 0 ⟨none, some 62, .mov (.t 0)⟩ false (.no), .op 1 ⟨none, some 63, .mov (.t 6)⟩ false (.no), .op 2 ⟨none, some 64, .sl 1 (.t 62) (some (.t 63)) none none⟩ false (.no), .op 3 ⟨none, some 65, .mov (.t 13)⟩ false (.no), .op 4 ⟨none, some 66, .call false (.f 80) [.t 65]⟩ false (.sh (.one (.slice))), .op 5 ⟨none, some 67, .call false (.f 82) [.t 64, .t 66]⟩ false (.sh (.tup []))] [0, 1, 2, 6, 7, 8, 9, 10, 11, 12, 13]))))))))))
def v_mulnat_halves (x0 : Sl) (x1 : Sl) (x2 : Sl) (h : Hp) (R : Value → Hp → Prop) : Prop :=
  ∀ x16 : Int, x16 = IntKind.i64.wrap ((x1.n : Int) + 1) →
  (2 : Int) ≠ 0 ∧
  ∀ x17 : Int, x17 = IntKind.i64.wrap (x16.tdiv (2 : Int)) →
  0 ≤ (0 : Int) ∧ (0 : Int) ≤ x17 ∧ x17 ≤ x17 ∧ x17 ≤ (x1.c : Int) ∧
  0 ≤ x17 ∧ x17 ≤ (x1.n : Int) ∧ (x1.n : Int) ≤ (x1.c : Int) ∧ (x1.c : Int) ≤ (x1.c : Int) ∧
  0 ≤ (0 : Int) ∧ (0 : Int) ≤ x17 ∧ x17 ≤ x17 ∧ x17 ≤ (x2.c : Int) ∧
  0 ≤ x17 ∧ x17 ≤ (x2.n : Int) ∧ (x2.n : Int) ≤ (x2.c : Int) ∧ (x2.c : Int) ≤ (x2.c : Int) ∧
  Tri Try.prog (.func (.func 63) #[] #[]) [.slice (sliceA x1.a (0 : Int) x17 1) ((x17 - (0 : Int)).toNat) ((x17 - (0 : Int)).toNat), .slice (sliceA x2.a (0 : Int) x17 1) ((x17 - (0 : Int)).toNat) ((x17 - (0 : Int)).toNat)] h fun r h1 => ∃ x34 : Sl, r = x34.v ∧
  Tri Try.prog (.func (.func 80) #[] #[]) [x34.v] h1 fun r1 h2 => ∃ x35 : Sl, r1 = x35.v ∧
  Tri Try.prog (.func (.func 63) #[] #[]) [.slice (sliceA x1.a x17 (x1.c : Int) 1) (((x1.n : Int) - x17).toNat) (((x1.c : Int) - x17).toNat), .slice (sliceA x2.a x17 (x2.c : Int) 1) (((x2.n : Int) - x17).toNat) (((x2.c : Int) - x17).toNat)] h2 fun r2 h3 => ∃ x38 : Sl, r2 = x38.v ∧
  Tri Try.prog (.func (.func 80) #[] #[]) [x38.v] h3 fun r3 h4 => ∃ x39 : Sl, r3 = x39.v ∧
  Tri Try.prog (.func (.func 93) #[] #[]) [.slice (sliceA x1.a (0 : Int) x17 1) ((x17 - (0 : Int)).toNat) ((x17 - (0 : Int)).toNat), .slice (sliceA x1.a x17 (x1.c : Int) 1) (((x1.n : Int) - x17).toNat) (((x1.c : Int) - x17).toNat)] h4 fun r4 h5 => ∃ x42 : Sl, r4 = x42.v ∧
  Tri Try.prog (.func (.func 93) #[] #[]) [.slice (sliceA x2.a (0 : Int) x17 1) ((x17 - (0 : Int)).toNat) ((x17 - (0 : Int)).toNat), .slice (sliceA x2.a x17 (x2.c : Int) 1) (((x2.n : Int) - x17).toNat) (((x2.c : Int) - x17).toNat)] h5 fun r5 h6 => ∃ x45 : Sl, r5 = x45.v ∧
  Tri Try.prog (.func (.func 63) #[] #[]) [x42.v, x45.v] h6 fun r6 h7 => ∃ x46 : Sl, r6 = x46.v ∧
  Tri Try.prog (.func (.func 94) #[] #[]) [x46.v, x35.v] h7 fun r7 h8 => r7 = .tuple #[] ∧
  Tri Try.prog (.func (.func 94) #[] #[]) [x46.v, x39.v] h8 fun r8 h9 => r8 = .tuple #[] ∧
  ∃ ys : List Value, firstOf h9 x35.a (Nat.min x35.n x0.n) 1 = some ys ∧ cpyRes h9 x0.a (Nat.min x35.n x0.n) ys fun r9 h10 => ∃ x55 : Int, r9 = .int .i64 x55 ∧
  ∀ x58 : Int, x58 = IntKind.i64.wrap ((2 : Int) * x17) →
  0 ≤ x58 ∧ x58 ≤ (x0.n : Int) ∧ (x0.n : Int) ≤ (x0.c : Int) ∧ (x0.c : Int) ≤ (x0.c : Int) ∧
  Tri Try.prog (.func (.func 82) #[] #[]) [.slice (sliceA x0.a x58 (x0.c : Int) 1) (((x0.n : Int) - x58).toNat) (((x0.c : Int) - x58).toNat), x39.v] h10 fun r10 h11 => r10 = .tuple #[] ∧
  0 ≤ x17 ∧ x17 ≤ (x0.n : Int) ∧ (x0.n : Int) ≤ (x0.c : Int) ∧ (x0.c : Int) ≤ (x0.c : Int) ∧
  Tri Try.prog (.func (.func 80) #[] #[]) [x46.v] h11 fun r11 h12 => ∃ x66 : Sl, r11 = x66.v ∧
  Tri Try.prog (.func (.func 82) #[] #[]) [.slice (sliceA x0.a x17 (x0.c : Int) 1) (((x0.n : Int) - x17).toNat) (((x0.c : Int) - x17).toNat), x66.v] h12 fun r12 h13 => r12 = .tuple #[] ∧
  R (.tuple #[]) h13
set_option maxRecDepth 100000 in
theorem t_mulnat_halves {x0 : Sl} {x1 : Sl} {x2 : Sl} {h : Hp} {R : Value → Hp → Prop} (hv : v_mulnat_halves x0 x1 x2 h R) : Tri Try.prog (.func (.func 83) #[] #[]) [x0.v, x1.v, x2.v] h R :=
  tri_of_vc mixed Try.func83 (d := d_mulnat_halves) (RM := []) (rvs := []) (args := [x0.v, x1.v, x2.v]) (caps := []) (by kernel_rfl) Try.ntmps83 (V := v_mulnat_halves x0 x1 x2 h R) (by kernel_rfl) (by simp) hv

/- trellis/mulnat.Mul -/
def d_mulnat_Mul : Vd :=
  .seq (.ops [.op 0 ⟨none, some 4, .mov (.nil)⟩ false (.no)] [0, 1, 4]) (.seq (.ops [.op 0 ⟨none, some 5, .mov (.t 0)⟩ false (.no), .op 1 ⟨none, some 6, .mov (.t 1)⟩ false (.no), .op 2 ⟨none, some 7, .call false (.f 63) [.t 5, .t 6]⟩ false (.sh (.one (.slice))), .op 3 ⟨none, some 8, .call false (.f 35) [.t 7]⟩ false (.sh (.one (.slice))), .op 4 ⟨none, some 4, .mov (.t 8)⟩ false (.no)] [0, 1, 4]) (.ret))
def v_mulnat_Mul (a : Sl) (b : Sl) (h : Hp) (R : Value → Hp → Prop) : Prop :=
  Tri Try.prog (.func (.func 63) #[] #[]) [a.v, b.v] h fun r h1 => ∃ x7 : Sl, r = x7.v ∧
  Tri Try.prog (.func (.func 35) #[] #[]) [x7.v] h1 fun r1 h2 => ∃ x8 : Sl, r1 = x8.v ∧
  R (x8.v) h2
set_option maxRecDepth 100000 in
theorem t_mulnat_Mul {a : Sl} {b : Sl} {h : Hp} {R : Value → Hp → Prop} (hv : v_mulnat_Mul a b h R) : Tri Try.prog (.func (.func 36) #[] #[]) [a.v, b.v] h R :=
  tri_of_vc mixed Try.func36 (d := d_mulnat_Mul) (RM := []) (rvs := [.tmp 4]) (args := [a.v, b.v]) (caps := []) (by kernel_rfl) Try.ntmps36 (V := v_mulnat_Mul a b h R) (by kernel_rfl) (by simp) hv

end Go.Proofs.Ytmfafadchpglgaa

/- mulnat: adding to words in place, taking from them. -/
namespace Go.Proofs.Ytmfafadchpglgaa
set_option maxRecDepth 20000

theorem up_self {h : Hp} {k : Nat} {x : Blk} (hk : h k = some x) : h.up k x = h := by
  funext j; unfold Hp.up; split
  · subst_vars; exact hk.symm
  · rfl

theorem drop_cons {zs : List Nat} {i : Nat} (h : i < zs.length) : zs.drop i = zs.getD i 0 :: zs.drop (i + 1) := by
  rw [List.drop_eq_getElem_cons h]; simp [List.getD, h]

theorem mulnat_addTo {h : Hp} {k zc : Nat} {pre zs post ys : List Nat} {b : Sl} (hk : h k = some ⟨(pre ++ zs ++ post).map uw, true⟩) (hzl : ∀ w ∈ zs, w < B) (gb : Ws (h.del k) b ys)
    (hl : ys.length ≤ zs.length) (hn : zs.length < 1099511627776) (hf : vl zs + vl ys < B ^ zs.length) :
    Tri Try.prog (.func (.func 82) #[] #[]) [Sl.v ⟨some ⟨k, pre.length, none⟩, zs.length, zc⟩, b.v] h
      fun v h' => v = .tuple #[] ∧ ∃ zs', h' = h.up k ⟨(pre ++ zs' ++ post).map uw, true⟩ ∧ zs'.length = zs.length ∧ (∀ w ∈ zs', w < B) ∧ vl zs' = vl zs + vl ys := by
  have hB : B = 18446744073709551616 := rfl
  have hbn := gb.len
  refine t_mulnat_addTo (z := ⟨some ⟨k, pre.length, none⟩, zs.length, zc⟩) ?_
  -- one digit
  have step : ∀ (ds : List Nat) (c y : Nat), ds.length < zs.length → c ≤ 1 → (∀ w ∈ ds, w < B) → y < B →
      ∀ (V : Nat), vl ds + B ^ ds.length * c = vl (zs.take ds.length) + V →
      (∀ w ∈ ds ++ [(zs.getD ds.length 0 + y + c) % B], w < B) ∧ (zs.getD ds.length 0 + y + c) / B ≤ 1 ∧
      vl (ds ++ [(zs.getD ds.length 0 + y + c) % B]) + B ^ (ds.length + 1) * ((zs.getD ds.length 0 + y + c) / B) = vl (zs.take (ds.length + 1)) + (V + B ^ ds.length * y) := by
    intro ds c y hd hc hlt hy V hv
    have hx : zs.getD ds.length 0 < B := by simp [List.getD, hd]; exact hzl _ (List.getElem_mem hd)
    refine ⟨?_, Nat.lt_succ_iff.1 (Nat.div_lt_of_lt_mul (by omega)), ?_⟩
    · intro z hz
      rw [List.mem_append, List.mem_singleton] at hz
      rcases hz with h | rfl
      · exact hlt z h
      · exact Nat.mod_lt _ (by decide)
    · rw [vl_snoc, vl_take_succ, Nat.pow_succ]
      exact add_step (Nat.mod_add_div _ _) hv
  refine ⟨fun c i h1 => ∃ (ds : List Nat) (cc : Nat), i = ds.length ∧ ds.length ≤ ys.length ∧ c = cc ∧ cc ≤ 1 ∧ h1 = h.up k ⟨(pre ++ (ds ++ zs.drop ds.length) ++ post).map uw, true⟩ ∧ (∀ w ∈ ds, w < B) ∧
      vl ds + B ^ ds.length * cc = vl (zs.take ds.length) + vl (ys.take ds.length), fun _ i _ => ys.length - i.toNat, ⟨[], 0, rfl, by simp, rfl, by omega, by simpa using (up_self hk).symm, by simp, by simp [vl]⟩, ?_⟩
  rintro c i h1 ⟨ds, cc, rfl, hd, rfl, hcc, rfl, hlt, hv⟩
  refine ⟨fun hi => ?_, fun hi => ?_⟩
  · simp only [decide_eq_true_eq] at hi
    have hi' : ds.length < ys.length := by omega
    have hdz : ds.length < zs.length := by omega
    have hget : (pre ++ (ds ++ zs.drop ds.length) ++ post).getD (pre.length + (ds.length : Int).toNat) 0 = zs.getD ds.length 0 := by
      rw [Int.toNat_natCast, getD_mid rfl (by simp; omega), drop_cons hdz]; rfl
    have hlen : pre.length + (ds.length : Int).toNat < (pre ++ (ds ++ zs.drop ds.length) ++ post).length := by simp; omega
    have gb' := gb.le (Hp.del_le_up h k ⟨(pre ++ (ds ++ zs.drop ds.length) ++ post).map uw, true⟩)
    have hld1 := ld_in (j := (ds.length : Int)) (up_get h k ⟨(pre ++ (ds ++ zs.drop ds.length) ++ post).map uw, true⟩) hlen
    rw [hget] at hld1
    refine ⟨by omega, by dsimp only; omega, rfl, by omega, by omega, gb.isS (by omega), _, hld1, _, gb'.ld (by omega) (by omega), ?_⟩
    simp only [Int.toNat_natCast]
    refine (bits_Add64 _ _ _ hcc).mono ?_
    rintro _ h7 ⟨rfl, rfl⟩
    refine ⟨_, _, rfl, by omega, by omega, rfl, _, st_in (up_get _ _ _) hlen, ?_⟩
    intro x28 e
    rw [i64w (by omega) (by omega)] at e
    subst e
    obtain ⟨s1, s2, s3⟩ := step ds cc (ys.getD ds.length 0) hdz hcc hlt (gb.getD_lt _) _ hv
    refine ⟨⟨ds ++ [(zs.getD ds.length 0 + ys.getD ds.length 0 + cc) % B], _, by simp, by simp; omega, rfl, s2, ?_, s1, ?_⟩, by omega⟩
    · rw [Hp.up_up, Int.toNat_natCast, drop_cons hdz, set_mid]; simp
    · rw [List.length_append, List.length_singleton, vl_take_succ ys]; exact s3
  · simp only [decide_eq_false_iff_not] at hi
    have hdy : ds.length = ys.length := by omega
    have hv0 : vl ds + B ^ ds.length * cc = vl (zs.take ds.length) + vl ys := by rw [hv, hdy, List.take_length]
    refine ⟨fun c i h1 => ∃ (ds : List Nat) (cc : Nat), i = ds.length ∧ ds.length ≤ zs.length ∧ c = cc ∧ cc ≤ 1 ∧ h1 = h.up k ⟨(pre ++ (ds ++ zs.drop ds.length) ++ post).map uw, true⟩ ∧ (∀ w ∈ ds, w < B) ∧
        vl ds + B ^ ds.length * cc = vl (zs.take ds.length) + vl ys, fun _ i _ => zs.length - i.toNat, ⟨ds, cc, by omega, by omega, rfl, hcc, rfl, hlt, hv0⟩, ?_⟩
    clear hv0 hdy hi hv hlt hcc hd
    rintro c i h1 ⟨ds, cc, rfl, hd, rfl, hcc, rfl, hlt, hv⟩ J hJ
    have key : ∀ x, (x = true ↔ cc ≠ 0 ∧ ds.length < zs.length) → J x (h.up k ⟨(pre ++ (ds ++ zs.drop ds.length) ++ post).map uw, true⟩) := by
      intro x hx
      refine hJ x _ ⟨fun e => ?_, fun e => ?_⟩
      · obtain ⟨_, hdz⟩ := hx.1 e
        have hget : (pre ++ (ds ++ zs.drop ds.length) ++ post).getD (pre.length + (ds.length : Int).toNat) 0 = zs.getD ds.length 0 := by
          rw [Int.toNat_natCast, getD_mid rfl (by simp; omega), drop_cons hdz]; rfl
        have hlen : pre.length + (ds.length : Int).toNat < (pre ++ (ds ++ zs.drop ds.length) ++ post).length := by simp; omega
        have hld1 := ld_in (j := (ds.length : Int)) (up_get h k ⟨(pre ++ (ds ++ zs.drop ds.length) ++ post).map uw, true⟩) hlen
        rw [hget] at hld1
        refine ⟨by omega, by dsimp only; omega, rfl, _, hld1, (bits_Add64 _ 0 _ hcc).mono ?_⟩
        rintro _ h7 ⟨rfl, rfl⟩
        refine ⟨_, _, rfl, by omega, by dsimp only; omega, rfl, _, st_in (up_get _ _ _) hlen, ?_⟩
        intro x28 e
        rw [i64w (by omega) (by omega)] at e
        subst e
        obtain ⟨s1, s2, s3⟩ := step ds cc 0 hdz hcc hlt (by decide) _ hv
        refine ⟨⟨ds ++ [(zs.getD ds.length 0 + 0 + cc) % B], _, by simp, by simp; omega, rfl, s2, ?_, s1, ?_⟩, by dsimp only; omega⟩
        · rw [Hp.up_up, Int.toNat_natCast, drop_cons hdz, set_mid]; simp
        · rw [List.length_append, List.length_singleton, s3]; simp
      · refine ⟨rfl, ds ++ zs.drop ds.length, rfl, by simp; omega, ?_, ?_⟩
        · intro w hw
          rw [List.mem_append] at hw
          rcases hw with h | h
          · exact hlt w h
          · exact hzl w (List.mem_of_mem_drop h)
        · have hc0 : cc = 0 := by
            rcases Nat.eq_zero_or_pos cc with h0 | h0
            · exact h0
            · exfalso
              have hnot : ¬ ds.length < zs.length := fun hlt' => by
                have := hx.2 ⟨by omega, hlt'⟩
                rw [e] at this; cases this
              have hzz : ds.length = zs.length := by omega
              have h1 : cc = 1 := by omega
              rw [hzz, List.take_length, h1] at hv
              omega
          subst hc0
          rw [vl_append]
          have := vl_split zs ds.length
          omega
    refine ⟨fun hc => ?_, fun hc => ?_⟩
    · simp only [Bool.not_eq_true', decide_eq_false_iff_not] at hc
      refine key _ ?_
      simp only [decide_eq_true_eq]
      constructor
      · intro h; exact ⟨by omega, by omega⟩
      · intro h; omega
    · simp only [Bool.not_eq_false', decide_eq_true_eq] at hc
      exact key _ (by simp; omega)

theorem sliceA_front {a : Option Addr} {m : Int} {sz : Nat} : sliceA a 0 m sz = a := by
  cases a with
  | none => unfold sliceA; split <;> rfl
  | some a => exact sliceA_zero

theorem mulnat_trim {h : Hp} {a : Sl} {ws : List Nat} (g : Ws h a ws) (hl : ws.length < 4611686018427387904) : Tri Try.prog (.func (.func 80) #[] #[]) [a.v] h fun v h' => h' = h ∧ v = Sl.v ⟨a.a, sz ws, sz ws⟩ := by
  refine t_mulnat_trim ?_
  have hn := g.len
  have hcap := g.cap
  refine ⟨fun n h1 => h1 = h ∧ 0 ≤ n ∧ n ≤ ws.length ∧ ∀ i, n.toNat ≤ i → ws.getD i 0 = 0, fun n _ => n.toNat, ⟨rfl, by omega, by omega, fun i hi => ?_⟩, ?_⟩
  · have : ws.length ≤ i := by omega
    simp [List.getD, List.getElem?_eq_none this]
  · rintro n h1 ⟨rfl, h0, h2, h3⟩ J hJ
    have key : ∀ x, (x = true ↔ 0 < n ∧ ws.getD (n - 1).toNat 0 = 0) → J x h1 := by
      intro x hx
      refine hJ x h1 ⟨fun e n1 e1 => ?_, fun e => ?_⟩
      · obtain ⟨p1, p2⟩ := hx.1 e
        rw [i64w (by omega) (by omega)] at e1
        refine ⟨⟨rfl, by omega, by omega, fun i hi => ?_⟩, by dsimp only; omega⟩
        by_cases hin : n.toNat ≤ i
        · exact h3 i hin
        · have : i = (n - 1).toNat := by omega
          rw [this]; exact p2
      · refine ⟨by omega, by omega, by omega, by omega, rfl, ?_⟩
        have : n.toNat = sz ws := sz_unique h3 (fun hp hz => by
          have e2 : (n - 1).toNat = n.toNat - 1 := by omega
          have := hx.2 ⟨by omega, by rw [e2]; exact hz⟩
          rw [e] at this; cases this)
        rw [sliceA_front, Int.sub_zero, this]
        rfl
    refine ⟨fun hc x11 e1 => ?_, fun hc => ?_⟩
    · simp only [decide_eq_true_eq] at hc
      rw [i64w (by omega) (by omega)] at e1
      subst e1
      refine ⟨by omega, by omega, g.isS (by omega), _, g.ld (by omega) (by omega), key _ ?_⟩
      simp only [decide_eq_true_eq]
      constructor
      · intro h; exact ⟨hc, by omega⟩
      · intro h; omega
    · simp only [decide_eq_false_iff_not] at hc
      exact key _ (by simp; omega)

theorem mulnat_subFrom {h : Hp} {k zc : Nat} {pre zs post ys : List Nat} {b : Sl} (hk : h k = some ⟨(pre ++ zs ++ post).map uw, true⟩) (hzl : ∀ w ∈ zs, w < B) (gb : Ws (h.del k) b ys)
    (hn : zs.length < 1099511627776) (hyn : ys.length < 1099511627776) (hf : vl ys ≤ vl zs) :
    Tri Try.prog (.func (.func 94) #[] #[]) [Sl.v ⟨some ⟨k, pre.length, none⟩, zs.length, zc⟩, b.v] h
      fun v h' => v = .tuple #[] ∧ ∃ zs', h' = h.up k ⟨(pre ++ zs' ++ post).map uw, true⟩ ∧ zs'.length = zs.length ∧ (∀ w ∈ zs', w < B) ∧ vl zs' = vl zs - vl ys := by
  have hB : B = 18446744073709551616 := rfl
  have hbn := gb.len
  refine t_mulnat_subFrom (z := ⟨some ⟨k, pre.length, none⟩, zs.length, zc⟩) ?_
  refine ⟨fun c i h1 => ∃ (ds : List Nat) (cc : Nat), i = ds.length ∧ ds.length ≤ zs.length ∧ c = cc ∧ cc ≤ 1 ∧ h1 = h.up k ⟨(pre ++ (ds ++ zs.drop ds.length) ++ post).map uw, true⟩ ∧ (∀ w ∈ ds, w < B) ∧
      vl ds + vl (ys.take ds.length) = vl (zs.take ds.length) + B ^ ds.length * cc, fun _ i _ => zs.length - i.toNat, ⟨[], 0, rfl, by simp, rfl, by omega, by simpa using (up_self hk).symm, by simp, by simp [vl]⟩, ?_⟩
  rintro c i h1 ⟨ds, cc, rfl, hd, rfl, hcc, rfl, hlt, hv⟩
  have hmem : ∀ w ∈ ds ++ zs.drop ds.length, w < B := by
    intro w hw
    rw [List.mem_append] at hw
    rcases hw with h | h
    · exact hlt w h
    · exact hzl w (List.mem_of_mem_drop h)
  refine ⟨fun hi J hJ => ?_, fun hi => ?_⟩
  · simp only [decide_eq_true_eq] at hi
    have hdz : ds.length < zs.length := by omega
    have hget : (pre ++ (ds ++ zs.drop ds.length) ++ post).getD (pre.length + (ds.length : Int).toNat) 0 = zs.getD ds.length 0 := by
      rw [Int.toNat_natCast, getD_mid rfl (by simp; omega), drop_cons hdz]; rfl
    have hlen : pre.length + (ds.length : Int).toNat < (pre ++ (ds ++ zs.drop ds.length) ++ post).length := by simp; omega
    have gb' := gb.le (Hp.del_le_up h k ⟨(pre ++ (ds ++ zs.drop ds.length) ++ post).map uw, true⟩)
    have hld1 := ld_in (j := (ds.length : Int)) (up_get h k ⟨(pre ++ (ds ++ zs.drop ds.length) ++ post).map uw, true⟩) hlen
    rw [hget] at hld1
    have k1 : ∀ w : Int, w = (ys.getD ds.length 0 : Nat) → J w (h.up k ⟨(pre ++ (ds ++ zs.drop ds.length) ++ post).map uw, true⟩) := by
      rintro w rfl
      refine hJ _ _ ⟨by omega, by dsimp only; omega, rfl, _, hld1, (bits_Sub64 _ _ _ hcc).mono ?_⟩
      rintro _ h7 ⟨rfl, rfl⟩
      refine ⟨_, _, rfl, by omega, by dsimp only; omega, rfl, _, st_in (up_get _ _ _) hlen, ?_⟩
      intro x28 e
      rw [i64w (by omega) (by omega)] at e
      subst e
      have hx1 : zs.getD ds.length 0 < B := by simp [List.getD, hdz]; exact hzl _ (List.getElem_mem hdz)
      have hx2 := gb.getD_lt ds.length
      refine ⟨⟨ds ++ [(zs.getD ds.length 0 + B - ys.getD ds.length 0 - cc) % B], _, by simp, by simp; omega, rfl, by split <;> omega, ?_, ?_, ?_⟩, by dsimp only; omega⟩
      · rw [Hp.up_up, Int.toNat_natCast, drop_cons hdz, set_mid]; simp
      · intro z hz
        rw [List.mem_append, List.mem_singleton] at hz
        rcases hz with h | rfl
        · exact hlt z h
        · exact Nat.mod_lt _ (by decide)
      · rw [vl_snoc, List.length_append, List.length_singleton, vl_take_succ, vl_take_succ, Nat.pow_succ]
        refine sub_step ?_ hv
        generalize zs.getD ds.length 0 = x at *
        generalize ys.getD ds.length 0 = y at *
        split
        · rw [Nat.mod_eq_of_lt (by omega)]; omega
        · have : x + B - y - cc = (x - y - cc) + B := by omega
          rw [this, Nat.add_mod_right, Nat.mod_eq_of_lt (by omega)]; omega
    refine ⟨fun hm => ?_, fun hm => ⟨fun hc => ?_, fun hc => ?_⟩⟩
    · simp only [decide_eq_true_eq] at hm
      exact ⟨by omega, by omega, gb.isS (by omega), _, gb'.ld (by omega) (by omega), k1 _ (by simp)⟩
    · simp only [decide_eq_true_eq] at hc
      simp only [decide_eq_false_iff_not] at hm
      have hc0 : cc = 0 := by omega
      subst hc0
      refine ⟨rfl, _, rfl, by simp; omega, hmem, ?_⟩
      rw [List.take_of_length_le (by omega : ys.length ≤ ds.length)] at hv
      rw [vl_append]
      have := vl_split zs ds.length
      omega
    · simp only [decide_eq_false_iff_not] at hm
      refine k1 0 ?_
      simp [List.getD, List.getElem?_eq_none (by omega : ys.length ≤ ds.length)]
  · simp only [decide_eq_false_iff_not] at hi
    have hdz : ds.length = zs.length := by omega
    refine ⟨rfl, _, rfl, by simp; omega, hmem, ?_⟩
    rw [hdz, List.take_length] at hv
    rw [hdz, List.drop_length, List.append_nil]
    have h1 := vl_lt hlt
    rw [hdz] at h1
    have h2 := vl_split ys zs.length
    have h3 := vl_lt hzl
    have h4 : vl (ys.drop zs.length) = 0 := by
      rcases Nat.eq_zero_or_pos (vl (ys.drop zs.length)) with h | h
      · exact h
      · have : B ^ zs.length * 1 ≤ B ^ zs.length * vl (ys.drop zs.length) := Nat.mul_le_mul_left _ h
        omega
    rw [h4] at h2
    have h5 : cc = 0 := by
      rcases Nat.eq_zero_or_pos cc with h | h
      · exact h
      · have : cc = 1 := by omega
        subst this
        omega
    subst h5
    omega

end Go.Proofs.Ytmfafadchpglgaa

/- mulnat: the product word by word. -/
namespace Go.Proofs.Ytmfafadchpglgaa
set_option maxRecDepth 20000

theorem mul_step {x y z c : Nat} (hx : x < B) (hy : y < B) (hz : z < B) (hc : c < B) :
    (x * y / B + (x * y % B + c + 0) / B) + (z + (x * y % B + c + 0) % B + 0) / B < B ∧
    (z + (x * y % B + c + 0) % B + 0) % B + B * ((x * y / B + (x * y % B + c + 0) / B) + (z + (x * y % B + c + 0) % B + 0) / B) = z + x * y + c := by
  simp only [B] at *
  have hp : x * y ≤ 18446744073709551615 * 18446744073709551615 := Nat.mul_le_mul (by omega) (by omega)
  generalize x * y = p at *
  omega

theorem rows_step {p q V D x Y c y : Nat} (hv : V + p * c = D + x * Y) {z' c' z : Nat} (e : z' + q * c' = z + x * y + c) : (V + p * z') + p * q * c' = (D + p * z) + x * (Y + p * y) := by
  have := congrArg (p * ·) e
  simp only [Nat.mul_add] at this
  rw [Nat.mul_add, Nat.mul_assoc]
  have h1 : x * (p * y) = p * (x * y) := Nat.mul_left_comm _ _ _
  omega

theorem vl_replicate_zero (n : Nat) : vl (List.replicate n 0) = 0 := by
  induction n with
  | zero => rfl
  | succ n ih => rw [List.replicate_succ]; simp [vl, ih]

theorem mulnat_rows {h : Hp} {k zc n : Nat} {pre post xs ys : List Nat} {a b : Sl} (hk : h k = some ⟨(pre ++ List.replicate n 0 ++ post).map uw, true⟩) (ga : Ws (h.del k) a xs) (gb : Ws (h.del k) b ys)
    (hl : xs.length + ys.length ≤ n) (hn : n < 1099511627776) :
    Tri Try.prog (.func (.func 81) #[] #[]) [Sl.v ⟨some ⟨k, pre.length, none⟩, n, zc⟩, a.v, b.v] h
      fun v h' => v = .tuple #[] ∧ ∃ zs', h' = h.up k ⟨(pre ++ zs' ++ post).map uw, true⟩ ∧ zs'.length = n ∧ (∀ w ∈ zs', w < B) ∧ vl zs' = vl xs * vl ys := by
  have hB : B = 18446744073709551616 := rfl
  have han := ga.len
  have hbn := gb.len
  refine t_mulnat_rows (x0 := ⟨some ⟨k, pre.length, none⟩, n, zc⟩) ?_
  refine ⟨fun i h1 => ∃ (I : Nat) (zs : List Nat), i = I ∧ I ≤ xs.length ∧ zs.length = I + ys.length ∧ (∀ w ∈ zs, w < B) ∧ vl zs = vl (xs.take I) * vl ys ∧
      h1 = h.up k ⟨(pre ++ (zs ++ List.replicate (n - (I + ys.length)) 0) ++ post).map uw, true⟩, fun i _ => xs.length - i.toNat,
    ⟨0, List.replicate ys.length 0, rfl, by omega, by simp, ?_, ?_, ?_⟩, ?_⟩
  · intro w hw; rw [List.eq_of_mem_replicate hw]; decide
  · rw [vl_replicate_zero]; simp [vl]
  · rw [List.replicate_append_replicate, show ys.length + (n - (0 + ys.length)) = n by omega]; exact (up_self hk).symm
  rintro _ h1 ⟨I, zs, rfl, hI, hzl, hzlt, hv, rfl⟩
  refine ⟨fun hi J hJ => ?_, fun hi => ?_⟩
  · simp only [decide_eq_true_eq] at hi
    have hI' : I < xs.length := by omega
    have ga' := fun x => ga.le (Hp.del_le_up h k x)
    have gb' := fun x => gb.le (Hp.del_le_up h k x)
    obtain ⟨m, hm⟩ : ∃ m, n - (I + ys.length) = m + 1 := ⟨n - (I + ys.length) - 1, by omega⟩
    have hm2 : n - (I + 1 + ys.length) = m := by omega
    have key : ∀ (zs' : List Nat), zs'.length = I + 1 + ys.length → (∀ w ∈ zs', w < B) → vl zs' = vl (xs.take (I + 1)) * vl ys → J (h.up k ⟨(pre ++ (zs' ++ List.replicate m 0) ++ post).map uw, true⟩) := by
      intro zs' q1 q2 q3
      refine hJ _ fun x72 e => ?_
      rw [i64w (by omega) (by omega)] at e
      subst e
      exact ⟨⟨I + 1, zs', by omega, by omega, q1, q2, q3, by rw [hm2]⟩, by dsimp only; omega⟩
    refine ⟨by omega, by omega, ga.isS (by omega), _, (ga' _).ld (by omega) (by omega), ?_⟩
    rw [Int.toNat_natCast, hm]
    have hxs := vl_take_succ xs I
    refine ⟨fun hx => ?_, fun hx => ?_⟩
    · simp only [decide_eq_true_eq] at hx
      have hx0 : xs.getD I 0 = 0 := by omega
      have := key (zs ++ [0]) (by simp; omega) (fun w hw => by
        rw [List.mem_append, List.mem_singleton] at hw
        rcases hw with h | rfl
        · exact hzlt w h
        · decide) (by rw [vl_snoc, hxs, hx0, hv]; simp)
      rw [List.replicate_succ]
      simpa using this
    · simp only [decide_eq_false_iff_not] at hx
      generalize hX : xs.getD I 0 = x at *
      have hxB : x < B := by rw [← hX]; exact ga.getD_lt I
      refine ⟨fun c j h3 => ∃ (ds : List Nat) (cc : Nat), j = ds.length ∧ ds.length ≤ ys.length ∧ c = cc ∧ cc < B ∧ (∀ w ∈ ds, w < B) ∧
        h3 = h.up k ⟨(pre ++ ((zs.take I ++ ds) ++ ((zs.drop I).drop ds.length ++ List.replicate (m + 1) 0)) ++ post).map uw, true⟩ ∧
        vl ds + B ^ ds.length * cc = vl ((zs.drop I).take ds.length) + x * vl (ys.take ds.length), fun _ j _ => ys.length - j.toNat,
        ⟨[], 0, rfl, by simp, rfl, by decide, by simp, ?_, by simp [vl]⟩, ?_⟩
      · simp only [List.append_nil, List.length_nil, List.drop_zero]
        rw [← List.append_assoc (zs.take I), List.take_append_drop]
      rintro _ _ h3 ⟨ds, cc, rfl, hd, rfl, hcc, hlt, rfl, hvd⟩
      have htk : (zs.take I).length = I := by simp; omega
      have hdp : (zs.drop I).length = ys.length := by simp; omega
      have hpos : (zs.take I ++ ds).length = I + ds.length := by simp; omega
      refine ⟨fun hj => ?_, fun hj => ?_⟩
      · simp only [decide_eq_true_eq] at hj
        have hj' : ds.length < ys.length := by omega
        have hyB := gb.getD_lt ds.length
        refine ⟨by omega, by omega, gb.isS (by omega), _, (gb' _).ld (by omega) (by omega), ?_⟩
        rw [Int.toNat_natCast]
        generalize hY : ys.getD ds.length 0 = y at *
        refine (bits_Mul64 x y hxB hyB).mono ?_
        rintro _ _ ⟨rfl, rfl⟩
        refine ⟨_, _, rfl, (bits_Add64 _ _ 0 (by decide)).mono ?_⟩
        rintro _ _ ⟨rfl, rfl⟩
        refine ⟨_, _, rfl, ?_⟩
        have hdc : (zs.drop I).drop ds.length = (zs.drop I).getD ds.length 0 :: (zs.drop I).drop (ds.length + 1) := drop_cons (by omega)
        have hzB : (zs.drop I).getD ds.length 0 < B := by
          have hlt' : ds.length < (zs.drop I).length := by omega
          simp only [List.getD, List.getElem?_eq_getElem hlt', Option.getD_some]
          exact hzlt _ (List.mem_of_mem_drop (List.getElem_mem hlt'))
        generalize hZ : (zs.drop I).getD ds.length 0 = z at *
        obtain ⟨ms1, ms2⟩ := mul_step hxB hyB hzB hcc
        intro x44 e44 x49 e49 x53 e53
        rw [i64w (by omega) (by omega)] at e49 e53
        have ms0 : x * y / B + (x * y % B + cc + 0) / B < 18446744073709551616 := Nat.lt_of_le_of_lt (Nat.le_add_right _ _) ms1
        rw [← Int.natCast_add, wrapM, Nat.mod_eq_of_lt ms0] at e44
        subst e44 e49 e53
        have hat : ((I : Int) + (ds.length : Int)).toNat = (zs.take I ++ ds).length := by omega
        have hlen : pre.length + ((I : Int) + (ds.length : Int)).toNat < (pre ++ ((zs.take I ++ ds) ++ ((zs.drop I).drop ds.length ++ List.replicate (m + 1) 0)) ++ post).length := by
          rw [hat]; simp [hdc]
        have hld := ld_in (j := (I : Int) + (ds.length : Int)) (up_get h k ⟨(pre ++ ((zs.take I ++ ds) ++ ((zs.drop I).drop ds.length ++ List.replicate (m + 1) 0)) ++ post).map uw, true⟩) hlen
        have hget : (pre ++ ((zs.take I ++ ds) ++ ((zs.drop I).drop ds.length ++ List.replicate (m + 1) 0)) ++ post).getD (pre.length + ((I : Int) + (ds.length : Int)).toNat) 0 = z := by
          rw [hat, getD_mid rfl (by simp [hdc]), hdc]; rfl
        rw [hget] at hld
        refine ⟨by omega, by dsimp only; omega, rfl, _, hld, (bits_Add64 _ _ 0 (by decide)).mono ?_⟩
        rintro _ _ ⟨rfl, rfl⟩
        refine ⟨_, _, rfl, by omega, by dsimp only; omega, rfl, _, st_in (up_get _ _ _) hlen, ?_⟩
        intro x63 e63 x64 e64
        rw [i64w (by omega) (by omega)] at e64
        rw [← Int.natCast_add, wrapM, Nat.mod_eq_of_lt ms1] at e63
        subst e63 e64
        refine ⟨⟨ds ++ [(z + (x * y % B + cc + 0) % B + 0) % B], (x * y / B + (x * y % B + cc + 0) / B) + (z + (x * y % B + cc + 0) % B + 0) / B, by simp, by simp; omega, by omega, ms1, ?_, ?_, ?_⟩, by dsimp only; omega⟩
        · intro w hw
          rw [List.mem_append, List.mem_singleton] at hw
          rcases hw with h | rfl
          · exact hlt w h
          · exact Nat.mod_lt _ (by decide)
        · rw [Hp.up_up, hat, hdc, List.cons_append, set_mid]
          simp [List.append_assoc]
        · rw [vl_snoc, List.length_append, List.length_singleton, vl_take_succ, vl_take_succ, Nat.pow_succ, hZ, hY]
          exact rows_step hvd ms2
      · simp only [decide_eq_false_iff_not] at hj
        have hdy : ds.length = ys.length := by omega
        intro x69 e69
        rw [i64w (by omega) (by omega)] at e69
        subst e69
        have hdr : (zs.drop I).drop ds.length = [] := List.drop_of_length_le (by omega)
        rw [hdr, List.nil_append, List.replicate_succ]
        have hat : ((I : Int) + (b.n : Int)).toNat = (zs.take I ++ ds).length := by omega
        have hlen : pre.length + ((I : Int) + (b.n : Int)).toNat < (pre ++ ((zs.take I ++ ds) ++ (0 :: List.replicate m 0)) ++ post).length := by
          rw [hat]; simp
        refine ⟨by omega, by dsimp only; omega, rfl, _, st_in (up_get _ _ _) hlen, ?_⟩
        rw [Hp.up_up, hat, set_mid]
        refine key (zs.take I ++ ds ++ [cc]) (by simp; omega) ?_ ?_
        · intro w hw
          rw [List.mem_append, List.mem_append, List.mem_singleton] at hw
          rcases hw with (h | h) | rfl
          · exact hzlt w (List.mem_of_mem_take h)
          · exact hlt w h
          · exact hcc
        · rw [vl_snoc, vl_append, htk, hpos, Nat.pow_add, hxs]
          rw [hdy, List.take_length, List.take_of_length_le (by omega)] at hvd
          have h1 := vl_split zs I
          have h2 : B ^ I * (vl ds + B ^ ys.length * cc) = B ^ I * (vl (zs.drop I) + x * vl ys) := by rw [hvd]
          rw [Nat.mul_add, Nat.mul_add] at h2
          rw [hdy, Nat.mul_assoc, Nat.add_mul, ← hv, h1, Nat.mul_assoc]
          omega
  · simp only [decide_eq_false_iff_not] at hi
    have hIx : I = xs.length := by omega
    refine ⟨rfl, _, rfl, by simp; omega, ?_, ?_⟩
    · intro w hw
      rw [List.mem_append] at hw
      rcases hw with h | h
      · exact hzlt w h
      · rw [List.eq_of_mem_replicate h]; decide
    · rw [vl_append, vl_replicate_zero, hv, hIx, List.take_length]; simp

end Go.Proofs.Ytmfafadchpglgaa

/- mulnat: sums; products by halves. -/
namespace Go.Proofs.Ytmfafadchpglgaa
set_option maxRecDepth 20000

theorem mnmx_max (a b : Nat) : mnmxI true (a : Int) (b : Int) = ((max a b : Nat) : Int) := by
  unfold mnmxI; simp only [if_true]; split <;> omega
theorem mnmx_min (a b : Int) : mnmxI false a b = min a b := by
  unfold mnmxI; simp only [Bool.false_eq_true, if_false]; split <;> omega

/-- Words copied to the front of a block of zeros. -/
theorem setAt_front {xs : List Nat} {n : Nat} (h : xs.length ≤ n) : setAt ((List.replicate n 0).map uw) 0 (xs.map uw) = (xs ++ List.replicate (n - xs.length) 0).map uw := by
  simp only [setAt, List.take_zero, List.nil_append, Nat.zero_add, List.length_map, List.map_append]
  rw [← List.map_drop, List.drop_replicate]

theorem mulnat_sum {h : Hp} {a b : Sl} {xs ys : List Nat} (ga : Ws h a xs) (gb : Ws h b ys) (hx : xs.length < 1000000000000) (hy : ys.length < 1000000000000) :
    Tri Try.prog (.func (.func 93) #[] #[]) [a.v, b.v] h
      fun v h' => ∃ (k : Nat) (zs : List Nat), v = Sl.v ⟨some (blkA k), zs.length, zs.length⟩ ∧ h k = none ∧ h' = h.up k ⟨zs.map uw, true⟩ ∧ zs.length = max xs.length ys.length + 1 ∧ (∀ w ∈ zs, w < B) ∧ vl zs = vl xs + vl ys := by
  have hB : B = 18446744073709551616 := rfl
  refine t_mulnat_sum ?_
  intro x11 e
  rw [ga.len, gb.len, mnmx_max, i64w (by omega) (by omega)] at e
  obtain ⟨n, hn⟩ : ∃ n : Nat, n = max xs.length ys.length + 1 := ⟨_, rfl⟩
  have en : x11 = (n : Int) := by omega
  clear e
  subst en
  refine ⟨by omega, by omega, by omega, by omega, ?_⟩
  rintro k h1 hk rfl
  rw [Int.toNat_natCast, mkZ]
  have hle : h.le (h.up k ⟨(List.replicate n 0).map uw, true⟩) := Hp.le_up _ hk
  have hm : Nat.min a.n n = xs.length := by rw [ga.len]; exact Nat.min_eq_left (by omega)
  rw [hm]
  refine ⟨_, (ga.le hle).first (Nat.le_refl _), ?_⟩
  rw [List.take_length]
  simp only [cpyRes]
  rw [hst_at (up_get _ _ _) (by simp; omega), setAt_front (by omega), Hp.up_up]
  refine ⟨_, rfl, ?_⟩
  have hlen : (xs ++ List.replicate (n - xs.length) 0).length = n := by simp; omega
  have hvl : vl (xs ++ List.replicate (n - xs.length) 0) = vl xs := by rw [vl_append, vl_replicate_zero]; simp
  have hdel : (h.up k ⟨(xs ++ List.replicate (n - xs.length) 0).map uw, true⟩).del k = h.del k := Hp.del_up _ _ _
  have hnk : h.le (h.del k) := Hp.le_del (Hp.le_refl h) hk
  have hadd := mulnat_addTo (h := h.up k ⟨(xs ++ List.replicate (n - xs.length) 0).map uw, true⟩) (k := k) (zc := n) (pre := []) (zs := xs ++ List.replicate (n - xs.length) 0) (post := []) (ys := ys) (b := b)
    (by rw [up_get]; simp) (by
      intro w hw
      rw [List.mem_append] at hw
      rcases hw with h | h
      · exact ga.lt w h
      · rw [List.eq_of_mem_replicate h]; decide) (by rw [hdel]; exact gb.le hnk) (by omega) (by omega) (by
      rw [hvl, hlen, hn, Nat.pow_succ]
      have h1 := vl_lt ga.lt
      have h2 := vl_lt gb.lt
      have h3 : B ^ xs.length ≤ B ^ max xs.length ys.length := Nat.pow_le_pow_right (by decide) (Nat.le_max_left _ _)
      have h4 : B ^ ys.length ≤ B ^ max xs.length ys.length := Nat.pow_le_pow_right (by decide) (Nat.le_max_right _ _)
      have h5 : B ^ max xs.length ys.length * 2 ≤ B ^ max xs.length ys.length * B := Nat.mul_le_mul_left _ (by decide)
      omega)
  rw [hlen] at hadd
  refine hadd.mono ?_
  rintro _ h3 ⟨rfl, zs', rfl, q1, q2, q3⟩
  refine ⟨rfl, k, zs', ?_, hk, ?_, by omega, q2, by rw [q3, hvl]⟩
  · simp only [Sl.v]; rw [q1]
  · rw [Hp.up_up]; simp

/-- A part of a list of words. -/
theorem Ws.slice {h : Hp} {a : Sl} {xs : List Nat} (g : Ws h a xs) {l e m : Int} {c : Nat} (h0 : 0 ≤ l) (h1 : l ≤ e) (h2 : e ≤ xs.length) (hm : e ≤ m) (hc : (e - l).toNat ≤ c) :
    Ws h ⟨sliceA a.a l m 1, (e - l).toNat, c⟩ ((xs.drop l.toNat).take (e - l).toNat) := by
  refine ⟨⟨by simp; omega, fun hne => ?_⟩, fun w hw => g.lt w (List.mem_of_mem_drop (List.mem_of_mem_take hw)), hc⟩
  have hlt : l < e := by
    rcases Int.lt_or_le l e with h | h
    · exact h
    · exfalso; apply hne
      have : (e - l).toNat = 0 := by omega
      rw [this]; simp
  have hx : xs ≠ [] := by intro hx; subst hx; simp at h2; omega
  obtain ⟨k, off, b, e1, e2, e3, e4⟩ := g.seg.mem (by simpa using hx)
  refine ⟨k, off + l.toNat, b, ?_, e2, ?_, ?_⟩
  · unfold sliceA
    rw [if_neg (by omega), e1, Option.map_some, add_none, Nat.mul_one]
  · simp at e3 ⊢; omega
  · have hl : (((xs.drop l.toNat).take (e - l).toNat).map uw).length = (e - l).toNat := by simp; omega
    rw [hl, List.map_take, List.map_drop, ← e4, List.drop_take, List.take_take, List.drop_drop]
    congr 1
    simp
    omega

end Go.Proofs.Ytmfafadchpglgaa

/- mulnat: product and halves. -/
namespace Go.Proofs.Ytmfafadchpglgaa
set_option maxRecDepth 20000

/-- A product's words, in a new block. -/
def ProdR (h h' : Hp) (v : Value) (len x : Nat) : Prop :=
  ∃ (k : Nat) (zs : List Nat), v = Sl.v ⟨some (blkA k), zs.length, zs.length⟩ ∧ h k = none ∧ h' k = some ⟨zs.map uw, true⟩ ∧ zs.length = len ∧ (∀ w ∈ zs, w < B) ∧ vl zs = x

def ProdOk (N : Nat) : Prop := ∀ {h : Hp} {a b : Sl} {xs ys : List Nat}, Ws h a xs → Ws h b ys → xs.length + ys.length < N →
  Tri Try.prog (.func (.func 63) #[] #[]) [a.v, b.v] h fun v h' => h.le h' ∧ ProdR h h' v (sz xs + sz ys) (vl xs * vl ys)

theorem half_math {a0 a1 b0 b1 p : Nat} : (a0 + a1) * (b0 + b1) - a0 * b0 - a1 * b1 = a0 * b1 + a1 * b0 ∧ a0 * b0 ≤ (a0 + a1) * (b0 + b1) ∧ a1 * b1 ≤ (a0 + a1) * (b0 + b1) - a0 * b0 ∧
    (a0 + p * a1) * (b0 + p * b1) = a0 * b0 + p * (p * (a1 * b1)) + p * (a0 * b1 + a1 * b0) := by
  have e : (a0 + a1) * (b0 + b1) = a0 * b0 + a0 * b1 + (a1 * b0 + a1 * b1) := by rw [Nat.add_mul, Nat.mul_add, Nat.mul_add]
  refine ⟨by omega, by omega, by omega, ?_⟩
  rw [Nat.add_mul, Nat.mul_add, Nat.mul_add, Nat.mul_add]
  have h1 : a0 * (p * b1) = p * (a0 * b1) := Nat.mul_left_comm _ _ _
  have h2 : p * a1 * b0 = p * (a1 * b0) := Nat.mul_assoc _ _ _
  have h3 : p * a1 * (p * b1) = p * (p * (a1 * b1)) := by rw [Nat.mul_assoc, Nat.mul_left_comm a1 p b1]
  omega

theorem Ws.trim {h : Hp} {a : Sl} {ws : List Nat} (g : Ws h a ws) : Ws h ⟨a.a, sz ws, sz ws⟩ (wd (vl ws)) := by
  have hs := sz_le ws
  rw [← take_sz g.lt]
  refine ⟨⟨by simp; omega, fun hne => ?_⟩, fun w hw => g.lt w (List.mem_of_mem_take hw), Nat.le_refl _⟩
  have hx : ws ≠ [] := by intro hx; subst hx; simp at hne
  obtain ⟨k, off, b, e1, e2, e3, e4⟩ := g.seg.mem (by simpa using hx)
  have hl : ((ws.take (sz ws)).map uw).length = sz ws := by simp; omega
  refine ⟨k, off, b, e1, e2, by simp at e3 ⊢; omega, ?_⟩
  rw [hl, List.map_take, ← e4, List.take_take]
  congr 1
  simp; omega

theorem lt_app {a b : List Nat} (ha : ∀ w ∈ a, w < B) (hb : ∀ w ∈ b, w < B) : ∀ w ∈ a ++ b, w < B := by
  intro w hw; rw [List.mem_append] at hw; exact hw.elim (ha w) (hb w)
theorem lt_rep (n : Nat) : ∀ w ∈ List.replicate n 0, w < B := by
  intro w hw; rw [List.eq_of_mem_replicate hw]; decide
theorem lt_take {a : List Nat} (h : ∀ w ∈ a, w < B) (n : Nat) : ∀ w ∈ a.take n, w < B := fun w hw => h w (List.mem_of_mem_take hw)
theorem lt_drop {a : List Nat} (h : ∀ w ∈ a, w < B) (n : Nat) : ∀ w ∈ a.drop n, w < B := fun w hw => h w (List.mem_of_mem_drop hw)

/-- A list of words lies beside another block. -/
theorem Ws.del {h : Hp} {j k off n c : Nat} {ws : List Nat} (g : Ws h ⟨some ⟨j, off, none⟩, n, c⟩ ws) (hj : j ≠ k) : Ws (h.del k) ⟨some ⟨j, off, none⟩, n, c⟩ ws := by
  refine ⟨⟨g.seg.len, fun hne => ?_⟩, g.lt, g.cap⟩
  obtain ⟨k', off', b, e1, e2, e3⟩ := g.seg.mem hne
  cases e1
  exact ⟨j, off, b, rfl, by unfold Hp.del; rw [if_neg hj]; exact e2, e3⟩

theorem Hp.none_of_le {h h' : Hp} {k : Nat} (hl : h.le h') (hk : h' k = none) : h k = none := by
  cases e : h k with
  | none => rfl
  | some x => rw [hl _ _ e] at hk; cases hk

end Go.Proofs.Ytmfafadchpglgaa

/- mulnat.halves. -/
namespace Go.Proofs.Ytmfafadchpglgaa
set_option maxRecDepth 20000

theorem sliceA_mid {k : Nat} {l m : Int} (h : l ≠ m) : sliceA (some (blkA k)) l m 1 = some ⟨k, l.toNat, none⟩ := by
  unfold sliceA
  rw [if_neg (fun e => h e.symm), Option.map_some, add_none]
  simp

set_option maxHeartbeats 2000000 in
theorem halves_of {N : Nat} (IH : ProdOk N) {h : Hp} {k : Nat} {a b : Sl} {xs ys : List Nat} (hk : h k = some ⟨(List.replicate (xs.length + ys.length) 0).map uw, true⟩) (ga : Ws (h.del k) a xs) (gb : Ws (h.del k) b ys)
    (h1 : ys.length ≤ xs.length) (h2 : xs.length < 2 * ys.length) (h3 : 24 ≤ ys.length) (hN : xs.length + ys.length ≤ N) (hn : N < 1000000000000) :
    Tri Try.prog (.func (.func 83) #[] #[]) [Sl.v ⟨some (blkA k), xs.length + ys.length, xs.length + ys.length⟩, a.v, b.v] h
      fun v h' => v = .tuple #[] ∧ (h.del k).le h' ∧ ∃ zs', h' k = some ⟨zs'.map uw, true⟩ ∧ zs'.length = xs.length + ys.length ∧ (∀ w ∈ zs', w < B) ∧ vl zs' = vl xs * vl ys := by
  have hB : B = 18446744073709551616 := rfl
  have han := ga.len
  have hbn := gb.len
  have hac := ga.cap
  have hbc := gb.cap
  have ga0 := ga.le (Hp.del_le h k)
  have gb0 := gb.le (Hp.del_le h k)
  refine t_mulnat_halves (x0 := ⟨some (blkA k), xs.length + ys.length, xs.length + ys.length⟩) ?_
  intro x16 e16
  rw [i64w (by omega) (by omega)] at e16
  refine ⟨by decide, fun x17 e17 => ?_⟩
  obtain ⟨m, hm⟩ : ∃ m : Nat, m = (xs.length + 1) / 2 := ⟨_, rfl⟩
  have e17' : x17 = (m : Int) := by
    rw [Int.tdiv_eq_ediv_of_nonneg (by omega), i64w (by omega) (by omega)] at e17
    omega
  clear e17
  subst e17'
  refine ⟨by omega, by omega, by omega, by omega, by omega, by omega, by omega, by omega, by omega, by omega, by omega, by omega, by omega, by omega, by omega, by omega, ?_⟩
  -- the four parts
  have pa0 := ga0.slice (l := 0) (e := (m : Int)) (m := (m : Int)) (c := ((m : Int) - 0).toNat) (by omega) (by omega) (by omega) (by omega) (Nat.le_refl _)
  have pb0 := gb0.slice (l := 0) (e := (m : Int)) (m := (m : Int)) (c := ((m : Int) - 0).toNat) (by omega) (by omega) (by omega) (by omega) (Nat.le_refl _)
  have pa1 := ga0.slice (l := (m : Int)) (e := (a.n : Int)) (m := (a.c : Int)) (c := ((a.c : Int) - m).toNat) (by omega) (by omega) (by omega) (by omega) (by omega)
  have pb1 := gb0.slice (l := (m : Int)) (e := (b.n : Int)) (m := (b.c : Int)) (c := ((b.c : Int) - m).toNat) (by omega) (by omega) (by omega) (by omega) (by omega)
  have q1 : (xs.drop (0 : Int).toNat).take ((m : Int) - 0).toNat = xs.take m := by simp
  have q2 : (ys.drop (0 : Int).toNat).take ((m : Int) - 0).toNat = ys.take m := by simp
  have q3 : (xs.drop (m : Int).toNat).take ((a.n : Int) - m).toNat = xs.drop m := by rw [Int.toNat_natCast, List.take_of_length_le (by simp; omega)]
  have q4 : (ys.drop (m : Int).toNat).take ((b.n : Int) - m).toNat = ys.drop m := by rw [Int.toNat_natCast, List.take_of_length_le (by simp; omega)]
  rw [q1] at pa0
  rw [q2] at pb0
  rw [q3] at pa1
  rw [q4] at pb1
  -- low
  refine (IH pa0 pb0 (by simp; omega)).mono ?_
  rintro _ w1 ⟨l1, k1, z1, rfl, n1, hz1, c1, t1, v1⟩
  have s1 := sz_le (xs.take m)
  have s1' := sz_le (ys.take m)
  have s2 := sz_le (xs.drop m)
  have s2' := sz_le (ys.drop m)
  simp only [List.length_take, List.length_drop] at s1 s1' s2 s2'
  have g1 := Ws.blk (c := z1.length) hz1 t1 (Nat.le_refl _)
  refine ⟨_, rfl, (mulnat_trim g1 (by omega)).mono ?_⟩
  rintro _ w1 ⟨rfl, rfl⟩
  have low := g1.trim
  rw [v1] at low
  refine ⟨_, rfl, ?_⟩
  -- high
  refine (IH (pa1.le l1) (pb1.le l1) (by simp; omega)).mono ?_
  rintro _ w3 ⟨l3, k3, z3, rfl, n3, hz3, c3, t3, v3⟩
  have g3 := Ws.blk (c := z3.length) hz3 t3 (Nat.le_refl _)
  refine ⟨_, rfl, (mulnat_trim g3 (by omega)).mono ?_⟩
  rintro _ w3 ⟨rfl, rfl⟩
  have high := g3.trim
  rw [v3] at high
  refine ⟨_, rfl, ?_⟩
  -- the sums
  refine (mulnat_sum ((pa0.le l1).le l3) ((pa1.le l1).le l3) (by simp; omega) (by simp; omega)).mono ?_
  rintro _ w5 ⟨k5, z5, rfl, n5, rfl, c5, t5, v5⟩
  refine ⟨_, rfl, ?_⟩
  have l5 : w3.le (w3.up k5 ⟨z5.map uw, true⟩) := Hp.le_up _ n5
  refine (mulnat_sum (((pb0.le l1).le l3).le l5) (((pb1.le l1).le l3).le l5) (by simp; omega) (by simp; omega)).mono ?_
  rintro _ w6 ⟨k6, z6, rfl, n6, hw6, c6, t6, v6⟩
  refine ⟨_, rfl, ?_⟩
  have l6 : (w3.up k5 ⟨z5.map uw, true⟩).le w6 := by rw [hw6]; exact Hp.le_up _ n6
  have g5 := (Ws.blk (c := z5.length) (up_get w3 k5 ⟨z5.map uw, true⟩) t5 (Nat.le_refl _)).le l6
  have g6 : Ws w6 ⟨some (blkA k6), z6.length, z6.length⟩ z6 := Ws.blk (by rw [hw6]; exact up_get _ _ _) t6 (Nat.le_refl _)
  -- the middle
  simp only [List.length_take, List.length_drop] at c5 c6
  refine (IH g5 g6 (by omega)).mono ?_
  rintro _ w7 ⟨l7, k7, z7, rfl, n7, hz7, c7, t7, v7⟩
  refine ⟨_, rfl, ?_⟩
  have L36 : w3.le w6 := Hp.le_trans l5 l6
  have L16 : w1.le w6 := Hp.le_trans l3 L36
  have Lh6 : h.le w6 := Hp.le_trans l1 L16
  have D3 : w3.le (w7.del k7) := Hp.le_del (Hp.le_trans L36 l7) (Hp.none_of_le L36 n7)
  have D1 : w1.le (w7.del k7) := Hp.le_del (Hp.le_trans L16 l7) (Hp.none_of_le L16 n7)
  have Dh : h.le (w7.del k7) := Hp.le_del (Hp.le_trans Lh6 l7) (Hp.none_of_le Lh6 n7)
  generalize hA0 : vl (xs.take m) = A0 at *
  generalize hA1 : vl (xs.drop m) = A1 at *
  generalize hB0 : vl (ys.take m) = B0 at *
  generalize hB1 : vl (ys.drop m) = B1 at *
  rw [v5, v6] at v7
  obtain ⟨hm1, hm2, hm3, hm4⟩ := half_math (a0 := A0) (a1 := A1) (b0 := B0) (b1 := B1) (p := B ^ m)
  have sz5 := sz_le z5
  have sz6 := sz_le z6
  have hsub1 := mulnat_subFrom (h := w7) (k := k7) (zc := z7.length) (pre := []) (zs := z7) (post := []) (b := ⟨some (blkA k1), sz z1, sz z1⟩) (by simpa using hz7) t7 (low.le D1) (by omega)
    (by have := low.len; simp only at this; have := sz_le z1; omega) (by rw [vl_wd, v7]; exact hm2)
  refine hsub1.mono ?_
  rintro _ w8 ⟨rfl, z8, rfl, c8, t8, v8⟩
  refine ⟨rfl, ?_⟩
  rw [vl_wd, v7] at v8
  have hsub2 := mulnat_subFrom (h := w7.up k7 ⟨([] ++ z8 ++ []).map uw, true⟩) (k := k7) (zc := z7.length) (pre := []) (zs := z8) (post := []) (b := ⟨some (blkA k3), sz z3, sz z3⟩) (up_get _ _ _) t8
    (by rw [Hp.del_up]; exact high.le D3) (by omega) (by have := high.len; simp only at this; have := sz_le z3; omega) (by rw [vl_wd, v8]; exact hm3)
  rw [c8] at hsub2
  refine hsub2.mono ?_
  rintro _ w9 ⟨rfl, z9, rfl, c9, t9, v9⟩
  refine ⟨rfl, ?_⟩
  rw [vl_wd, v8, hm1] at v9
  rw [Hp.up_up]
  simp only [List.nil_append, List.append_nil]
  have D1' := Hp.le_trans D1 (Hp.del_le_up w7 k7 ⟨z9.map uw, true⟩)
  have D3' := Hp.le_trans D3 (Hp.del_le_up w7 k7 ⟨z9.map uw, true⟩)
  have Dh' := Hp.le_trans Dh (Hp.del_le_up w7 k7 ⟨z9.map uw, true⟩)
  have hk7 := up_get w7 k7 ⟨z9.map uw, true⟩
  have hk9 := Dh' _ _ hk
  generalize hw9 : w7.up k7 ⟨z9.map uw, true⟩ = w9 at *
  have lowW := low.le D1'
  have highW := high.le D3'
  have hll : sz z1 = (wd (A0 * B0)).length := low.len
  have hhl : sz z3 = (wd (A1 * B1)).length := high.len
  have sz1 := sz_le z1
  have sz3 := sz_le z3
  have hmin : Nat.min (sz z1) (xs.length + ys.length) = sz z1 := Nat.min_eq_left (by omega)
  rw [hmin]
  refine ⟨_, lowW.first (m := sz z1) (by omega), ?_⟩
  rw [List.take_of_length_le (by omega)]
  simp only [cpyRes]
  rw [hst_at hk9 (by simp; omega), setAt_front (by omega)]
  refine ⟨_, rfl, fun x58 e58 => ?_⟩
  rw [i64w (by omega) (by omega)] at e58
  subst e58
  refine ⟨by omega, by omega, by omega, by omega, ?_⟩
  obtain ⟨n, hnn⟩ : ∃ n, n = xs.length + ys.length := ⟨_, rfl⟩
  have hrep : wd (A0 * B0) ++ List.replicate (xs.length + ys.length - (wd (A0 * B0)).length) 0 = (wd (A0 * B0) ++ List.replicate (2 * m - sz z1) 0) ++ List.replicate (n - 2 * m) 0 := by
    rw [List.append_assoc, List.replicate_append_replicate]
    congr 2
    omega
  rw [hrep]
  have hpl : (wd (A0 * B0) ++ List.replicate (2 * m - sz z1) 0).length = 2 * m := by rw [List.length_append, List.length_replicate]; omega
  have hpv : vl (wd (A0 * B0) ++ List.replicate (2 * m - sz z1) 0) = A0 * B0 := by rw [vl_append, vl_replicate_zero, vl_wd]; simp
  have hplt : ∀ w ∈ wd (A0 * B0) ++ List.replicate (2 * m - sz z1) 0, w < B := lt_app (wd_lt _) (lt_rep _)
  generalize hP : wd (A0 * B0) ++ List.replicate (2 * m - sz z1) 0 = P at *
  have bA1 : A1 < B ^ (xs.length - m) := by have := vl_lt (fun w hw => ga.lt w (List.mem_of_mem_drop (i := m) hw)); rw [hA1, List.length_drop] at this; exact this
  have bB1 : B1 < B ^ (ys.length - m) := by have := vl_lt (fun w hw => gb.lt w (List.mem_of_mem_drop (i := m) hw)); rw [hB1, List.length_drop] at this; exact this
  have hAB1 : A1 * B1 < B ^ (n - 2 * m) := by
    have e : n - 2 * m = (xs.length - m) + (ys.length - m) := by omega
    rw [e, Nat.pow_add]; exact Nat.mul_lt_mul'' bA1 bB1
  have hwl1 : (wd (A1 * B1)).length ≤ n - 2 * m := wl_le hAB1
  rw [sliceA_mid (by omega)]
  have e1 : ((2 : Int) * (m : Int)).toNat = 2 * m := by omega
  have e2 : (((xs.length + ys.length : Nat) : Int) - (2 : Int) * (m : Int)).toNat = n - 2 * m := by omega
  rw [e1, e2]
  have d3 : k3 ≠ k := fun e => by rw [e, l1 _ _ hk] at n3; cases n3
  have d7 : k7 ≠ k := fun e => by rw [e, Lh6 _ _ hk] at n7; cases n7
  have hadd1 := mulnat_addTo (h := w9.up k ⟨(P ++ List.replicate (n - 2 * m) 0).map uw, true⟩) (k := k) (zc := n - 2 * m) (pre := P) (zs := List.replicate (n - 2 * m) 0) (post := []) (ys := wd (A1 * B1)) (b := ⟨some (blkA k3), sz z3, sz z3⟩)
    (by rw [up_get]; simp) (lt_rep _) (by rw [Hp.del_up]; exact highW.del d3) (by simpa using hwl1) (by simp; omega) (by rw [vl_replicate_zero, vl_wd, List.length_replicate]; omega)
  rw [hpl, List.length_replicate] at hadd1
  refine hadd1.mono ?_
  rintro _ w10 ⟨rfl, zs1, rfl, c10, t10, v10⟩
  rw [vl_replicate_zero, vl_wd, Nat.zero_add] at v10
  refine ⟨rfl, by omega, by omega, by omega, by omega, ?_⟩
  rw [Hp.up_up, List.append_nil]
  obtain ⟨W, hW⟩ : ∃ W, W = P ++ zs1 := ⟨_, rfl⟩
  have hWl : W.length = n := by rw [hW, List.length_append]; omega
  have hWt : ∀ w ∈ W, w < B := by rw [hW]; exact lt_app hplt t10
  have hWv : vl W = A0 * B0 + B ^ (2 * m) * (A1 * B1) := by rw [hW, vl_append, hpl, hpv, v10]
  rw [← hW]
  have g9 : Ws (w9.up k ⟨W.map uw, true⟩) ⟨some (blkA k7), z7.length, z7.length⟩ z9 := by
    rw [show z7.length = z9.length by omega]; exact Ws.blk (by rw [Hp.up_other _ _ d7]; exact hk7) t9 (Nat.le_refl _)
  refine (mulnat_trim g9 (by omega)).mono ?_
  rintro _ w11 ⟨rfl, rfl⟩
  refine ⟨_, rfl, ?_⟩
  have mid := g9.trim
  rw [v9] at mid
  rw [sliceA_mid (by omega)]
  have e3 : ((m : Int)).toNat = m := by omega
  have e4 : (((xs.length + ys.length : Nat) : Int) - (m : Int)).toNat = n - m := by omega
  rw [e3, e4]
  have hsp := vl_split W m
  have htot : vl W + B ^ m * (A0 * B1 + A1 * B0) = vl xs * vl ys := by
    rw [vl_split xs m, vl_split ys m, hA0, hA1, hB0, hB1, hm4, hWv, Nat.two_mul, Nat.pow_add, Nat.mul_assoc]
  have hlt : vl xs * vl ys < B ^ n := by rw [hnn, Nat.pow_add]; exact Nat.mul_lt_mul'' (vl_lt ga.lt) (vl_lt gb.lt)
  have hbound : vl (W.drop m) + (A0 * B1 + A1 * B0) < B ^ (n - m) := by
    have : B ^ m * (vl (W.drop m) + (A0 * B1 + A1 * B0)) < B ^ m * B ^ (n - m) := by
      rw [← Nat.pow_add, show m + (n - m) = n by omega, Nat.mul_add]; omega
    exact Nat.lt_of_mul_lt_mul_left this
  have hwm : (wd (A0 * B1 + A1 * B0)).length ≤ n - m := wl_le (by omega)
  have hadd2 := mulnat_addTo (h := w9.up k ⟨W.map uw, true⟩) (k := k) (zc := n - m) (pre := W.take m) (zs := W.drop m) (post := []) (ys := wd (A0 * B1 + A1 * B0)) (b := ⟨some (blkA k7), sz z9, sz z9⟩)
    (by rw [up_get]; simp) (lt_drop hWt m) (mid.del d7) (by rw [List.length_drop, hWl]; exact hwm) (by rw [List.length_drop]; omega) (by rw [vl_wd, List.length_drop, hWl]; exact hbound)
  rw [List.length_take, List.length_drop, Nat.min_eq_left (by omega), hWl] at hadd2
  refine hadd2.mono ?_
  rintro _ w12 ⟨rfl, zs2, rfl, c12, t12, v12⟩
  rw [vl_wd] at v12
  refine ⟨rfl, (by first | rfl | trivial), ?_, W.take m ++ zs2, ?_, ?_, lt_app (lt_take hWt m) t12, ?_⟩
  · rw [Hp.up_up]; exact Hp.le_trans (Hp.del_mono Dh' k) (Hp.del_le_up _ _ _)
  · rw [up_get, List.append_nil]
  · rw [List.length_append, List.length_take, c12]; omega
  · rw [vl_append, List.length_take, Nat.min_eq_left (by omega), v12, Nat.mul_add]; omega

end Go.Proofs.Ytmfafadchpglgaa

/- mulnat.product, mulnat.Mul. -/
namespace Go.Proofs.Ytmfafadchpglgaa
set_option maxRecDepth 20000

theorem sliceA_off {k : Nat} {l m : Int} {off : Nat} (h : l ≠ m ∨ l = 0) : sliceA (some ⟨k, off, none⟩) l m 1 = some ⟨k, off + l.toNat, none⟩ := by
  unfold sliceA
  split
  · rename_i e
    rcases h with h | h
    · exact absurd e.symm h
    · subst h; simp
  · rw [Option.map_some, add_none]; simp

theorem vl_take_part (xs : List Nat) (i m : Nat) : vl (xs.take (i + m)) = vl (xs.take i) + B ^ i * vl ((xs.drop i).take m) := by
  by_cases h : i ≤ xs.length
  · rw [List.take_add, vl_append, List.length_take, Nat.min_eq_left h]
  · rw [List.take_of_length_le (by omega), List.take_of_length_le (by omega), List.drop_of_length_le (by omega)]
    simp [vl]

set_option maxHeartbeats 2000000 in
theorem product_step {N : Nat} (IH : ProdOk N) (hN : N < 1000000000000) : ProdOk (N + 1) := by
  have hB : B = 18446744073709551616 := rfl
  intro h a b xs ys ga gb hl
  refine t_mulnat_product ((mulnat_trim ga (by omega)).mono ?_)
  rintro _ _ ⟨rfl, rfl⟩
  refine ⟨_, rfl, (mulnat_trim gb (by omega)).mono ?_⟩
  rintro _ h0 ⟨rfl, rfl⟩
  refine ⟨_, rfl, ?_⟩
  have hsx := sz_le xs
  have hsy := sz_le ys
  intro J hJ
  have main : ∀ (a1 b1 : Sl) (us ws : List Nat), Ws h0 a1 us → Ws h0 b1 ws → us.length + ws.length ≤ N → ws.length ≤ us.length → us.length + ws.length = sz xs + sz ys → vl us * vl ws = vl xs * vl ys → J a1 b1 h0 := by
    intro a1 b1 us ws g1 g2 hu hw hs ht
    have hn1 := g1.len
    have hn2 := g2.len
    refine hJ a1 b1 h0 fun x23 e23 => ?_
    obtain ⟨n, hn⟩ : ∃ n, n = us.length + ws.length := ⟨_, rfl⟩
    have e23' : x23 = (n : Int) := by rw [e23, i64w (by omega) (by omega)]; omega
    clear e23
    subst e23'
    refine ⟨by omega, by omega, by omega, by omega, ?_⟩
    rintro k h4 hk rfl
    rw [Int.toNat_natCast, mkZ]
    have hle0 : h0.le (h0.del k) := Hp.le_del (Hp.le_refl h0) hk
    have hdel : ∀ x, h0.le ((h0.up k x).del k) := fun x => by rw [Hp.del_up]; exact hle0
    intro J1 hJ1
    have fin : ∀ (h5 : Hp) (zs : List Nat), h0.le h5 → h5 k = some ⟨zs.map uw, true⟩ → zs.length = n → (∀ w ∈ zs, w < B) → vl zs = vl us * vl ws → J1 h5 := by
      intro h5 zs q1 q2 q3 q4 q5
      exact hJ1 h5 ⟨q1, k, zs, by rw [q3]; rfl, hk, q2, by rw [q3, hn, hs], q4, by rw [q5, ht]⟩
    have hul : ∀ x, h0.le (h0.up k x) := fun x => Hp.le_up _ hk
    refine ⟨fun hc => ?_, fun hc => ?_⟩
    · refine (mulnat_rows (h := h0.up k ⟨(List.replicate n 0).map uw, true⟩) (k := k) (zc := n) (n := n) (pre := []) (post := []) (a := a1) (b := b1) (xs := us) (ys := ws) (by rw [up_get]; simp) (g1.le (hdel _)) (g2.le (hdel _)) (by omega) (by omega)).mono ?_
      rintro _ h6 ⟨rfl, zs', rfl, q1, q2, q3⟩
      rw [Hp.up_up]
      exact ⟨rfl, fin _ zs' (hul _) (by rw [up_get]; simp) q1 q2 q3⟩
    · simp only [decide_eq_false_iff_not] at hc
      have hw24 : 24 ≤ ws.length := by omega
      intro x42 e42
      rw [i64w (by omega) (by omega)] at e42
      subst e42
      refine ⟨fun hd => ?_, fun hd => ?_⟩
      · simp only [decide_eq_true_eq] at hd
        have h2w : 2 * ws.length ≤ us.length := by omega
        refine ⟨fun x6 h7 => ∃ (i : Nat) (zs : List Nat), x6 = i ∧ i ≤ us.length + ws.length ∧ h0.le h7 ∧ h7 k = some ⟨zs.map uw, true⟩ ∧ zs.length = n ∧ (∀ w ∈ zs, w < B) ∧ vl zs = vl (us.take i) * vl ws, fun x6 _ => us.length - x6.toNat,
          ⟨0, List.replicate n 0, rfl, by omega, hul _, up_get _ _ _, by simp, lt_rep _, by rw [vl_replicate_zero]; simp [vl]⟩, ?_⟩
        rintro _ h7 ⟨i, zs, rfl, hi, q1, q2, q3, q4, q5⟩
        refine ⟨fun he => ?_, fun he => ?_⟩
        · simp only [decide_eq_true_eq] at he
          have hi' : i < us.length := by omega
          intro x55 e55
          rw [i64w (by omega) (by omega)] at e55
          obtain ⟨e, heq⟩ : ∃ e : Nat, e = min (i + ws.length) us.length := ⟨_, rfl⟩
          have hm : mnmxI false x55 (a1.n : Int) = (e : Int) := by rw [mnmx_min, e55, hn1, hn2]; omega
          rw [hm]
          have hcap := g1.cap
          refine ⟨by omega, by omega, by omega, by omega, by omega, by omega, by omega, by omega, ?_⟩
          have pa := (g1.le q1).slice (l := (i : Int)) (e := (e : Int)) (m := (e : Int)) (c := ((e : Int) - i).toNat) (by omega) (by omega) (by omega) (by omega) (Nat.le_refl _)
          have pq : (us.drop (i : Int).toNat).take ((e : Int) - i).toNat = (us.drop i).take ws.length := by
            have e1 : (i : Int).toNat = i := by omega
            have e2 : ((e : Int) - i).toNat = e - i := by omega
            rw [e1, e2]
            rcases Nat.le_total (i + ws.length) us.length with h | h
            · congr 1; omega
            · rw [List.take_of_length_le (by simp; omega), List.take_of_length_le (by simp; omega)]
          rw [pq] at pa
          have hpl : ((us.drop i).take ws.length).length ≤ ws.length := by simp; omega
          refine (IH pa (g2.le q1) (by omega)).mono ?_
          rintro _ w1 ⟨l1, k1, z1, rfl, n1, hz1, c1, t1, v1⟩
          refine ⟨_, rfl, ?_⟩
          have b1 := Ws.blk (c := z1.length) hz1 t1 (Nat.le_refl _)
          have sz1 := sz_le ((us.drop i).take ws.length)
          have sz2 := sz_le ws
          refine (mulnat_trim b1 (by omega)).mono ?_
          rintro _ w1 ⟨rfl, rfl⟩
          refine ⟨_, rfl, ?_⟩
          have gt := b1.trim
          rw [v1] at gt
          have d1 : k1 ≠ k := fun e => by rw [e, q2] at n1; cases n1
          rw [sliceA_off (k := k) (off := 0) (l := (i : Int)) (m := (n : Int)) (Or.inl (by omega))]
          have e1 : 0 + (i : Int).toNat = i := by omega
          have e2 : ((n : Int) - (i : Int)).toNat = n - i := by omega
          rw [e1, e2]
          generalize hU : vl ((us.drop i).take ws.length) = U at *
          have hstep : vl (us.take (i + ws.length)) = vl (us.take i) + B ^ i * U := by rw [vl_take_part, hU]
          have htot : vl zs + B ^ i * (U * vl ws) = vl (us.take (i + ws.length)) * vl ws := by rw [hstep, q5, Nat.add_mul, Nat.mul_assoc]
          have hlt : vl (us.take (i + ws.length)) * vl ws < B ^ n := by
            rw [hn, Nat.pow_add]
            exact Nat.mul_lt_mul'' (Nat.lt_of_lt_of_le (vl_lt (lt_take g1.lt _)) (Nat.pow_le_pow_right (by decide) (by simp; omega))) (vl_lt g2.lt)
          have hbound : vl (zs.drop i) + U * vl ws < B ^ (n - i) := by
            have : B ^ i * (vl (zs.drop i) + U * vl ws) < B ^ i * B ^ (n - i) := by
              rw [← Nat.pow_add, show i + (n - i) = n by omega, Nat.mul_add]
              have := vl_split zs i
              omega
            exact Nat.lt_of_mul_lt_mul_left this
          have hadd := mulnat_addTo (h := w1) (k := k) (zc := n - i) (pre := zs.take i) (zs := zs.drop i) (post := []) (ys := wd (U * vl ws)) (b := ⟨some (blkA k1), sz z1, sz z1⟩)
            (by rw [l1 _ _ q2]; simp) (lt_drop q4 i) (gt.del d1) (by rw [List.length_drop, q3]; exact wl_le (by omega)) (by rw [List.length_drop]; omega) (by rw [vl_wd, List.length_drop, q3]; exact hbound)
          rw [List.length_take, List.length_drop, q3, Nat.min_eq_left (by omega)] at hadd
          refine hadd.mono ?_
          rintro _ w2 ⟨rfl, z2, rfl, c2, t2, v2⟩
          refine ⟨rfl, fun x51 e51 => ?_⟩
          rw [i64w (by omega) (by omega)] at e51
          rw [vl_wd] at v2
          refine ⟨⟨i + ws.length, zs.take i ++ z2, by omega, by omega, le_up_of_none hk (Hp.le_trans q1 l1), by rw [up_get, List.append_nil], by rw [List.length_append, List.length_take, c2]; omega, lt_app (lt_take q4 i) t2, ?_⟩, by dsimp only; omega⟩
          rw [vl_append, List.length_take, Nat.min_eq_left (by omega), v2, Nat.mul_add, ← htot]
          have := vl_split zs i
          omega
        · simp only [decide_eq_false_iff_not] at he
          exact fin h7 zs q1 q2 q3 q4 (by rw [q5, List.take_of_length_le (by omega)])
      · simp only [decide_eq_false_iff_not] at hd
        have hh := halves_of IH (h := h0.up k ⟨(List.replicate n 0).map uw, true⟩) (k := k) (a := a1) (b := b1) (xs := us) (ys := ws) (by rw [up_get, hn]) (g1.le (hdel _)) (g2.le (hdel _)) hw (by omega) hw24 hu (by omega)
        rw [← hn] at hh
        refine hh.mono ?_
        rintro _ h6 ⟨rfl, q0, zs', q1, q2, q3, q4⟩
        exact ⟨rfl, fin h6 zs' (Hp.le_trans (hdel _) q0) q1 (by omega) q3 q4⟩
  have gx := ga.trim
  have gy := gb.trim
  have lx : (wd (vl xs)).length = sz xs := by have := gx.len; simp only at this; omega
  have ly : (wd (vl ys)).length = sz ys := by have := gy.len; simp only at this; omega
  refine ⟨fun hc => ?_, fun hc => ?_⟩
  · simp only [decide_eq_true_eq] at hc
    exact main _ _ _ _ gy gx (by omega) (by omega) (by omega) (by rw [vl_wd, vl_wd, Nat.mul_comm])
  · simp only [decide_eq_false_iff_not] at hc
    exact main _ _ _ _ gx gy (by omega) (by omega) (by omega) (by rw [vl_wd, vl_wd])

theorem product_ok : ∀ N, N ≤ 1000000000000 → ProdOk N
  | 0, _ => fun _ _ h => by omega
  | N + 1, h => product_step (product_ok N (by omega)) (by omega)

theorem mulnat_Mul {h : Hp} {a b : Sl} {xs ys : List Nat} (ga : Ws h a xs) (gb : Ws h b ys) (hl : xs.length + ys.length < 1000000000000) :
    Tri Try.prog (.func (.func 36) #[] #[]) [a.v, b.v] h fun v h' => h.le h' ∧ ∃ s : Sl, v = s.v ∧ NatR h h' s (vl xs * vl ys) := by
  refine t_mulnat_Mul ((product_ok _ (Nat.le_refl _) ga gb hl).mono ?_)
  rintro _ w1 ⟨l1, k1, z1, rfl, n1, hz1, c1, t1, v1⟩
  have b1 := Ws.blk (c := z1.length) hz1 t1 (Nat.le_refl _)
  have sz1 := sz_le xs
  have sz2 := sz_le ys
  refine ⟨_, rfl, (nat_Least b1 (by omega)).mono ?_⟩
  rintro _ w2 ⟨l2, s, rfl, hr⟩
  refine ⟨_, rfl, Hp.le_trans l1 l2, s, rfl, ?_⟩
  rw [v1] at hr
  exact Own.ge hr l1

end Go.Proofs.Ytmfafadchpglgaa
