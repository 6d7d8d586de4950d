import Derived.Test.YtmfafadchpglgaaKC
import Derived.Test.YtmfafadchpglgaaKD

/- PRINTED BY vcgen.py: code with hints, the formula to show, the theorem; each check by the kernel. -/
namespace Go.Proofs.Ytmfafadchpglgaa

/- trellis/divnat.shifted -/
def d_divnat_shifted : Vd :=
  .seq (.ops [.op 0 ⟨none, some 6, .mov (.nil)⟩ false (.no)] [0, 1, 2, 6, 7, 8, 9, 10, 14, 15, 16, 21, 35]) (.seq (.ops [.op 0 ⟨none, some 11, .mov (.t 2)⟩ false (.no), .op 1 ⟨none, some 12, .mk [.i .u64 0] 8 (.t 11) (.t 11)⟩ false (.sh (.one .val)), .op 2 ⟨none, some 7, .mov (.t 12)⟩ false (.no)] [0, 1, 2, 6, 7, 8, 9, 10, 14, 15, 16, 21, 35]) (.seq (.ops [.op 0 ⟨none, some 8, .mov (.i .u64 0)⟩ false (.no)] [0, 1, 2, 6, 7, 8, 9, 10, 14, 15, 16, 21, 35]) (.seq (.seq (.ops [.op 0 ⟨none, some 13, .mov (.t 7)⟩ false (.no), .op 1 ⟨none, some 14, .len (.t 13)⟩ false (.no), .op 2 ⟨none, some 15, .mov (.i .i64 0)⟩ false (.no)] [0, 1, 2, 6, 7, 8, 9, 10, 14, 15, 16, 21, 35]) (.block 0 (.loop ⟨[0, 1, 7, 14], [], []⟩ [.t 8 (.int .u64), .t 15 (.int .i64)] (.seq (.ops [.op 0 ⟨none, some 16, .bin .lss (.t 15) (.t 14)⟩ false (.sh (.one .val))] [0, 1, 2, 6, 7, 8, 9, 10, 14, 15, 16, 21, 35]) (.seq (.cond (.t 16) (.skip) (.exit 0)) (.join ⟨[0, 1, 7, 14, 15], [], []⟩ [.t 8 (.int .u64)] (.block 1 (.seq (.ops [.op 0 ⟨none, some 17, .mov (.t 15)⟩ false (.no), .op 1 ⟨none, some 9, .mov (.t 17)⟩ false (.no)] [0, 1, 2, 6, 7, 8, 9, 10, 14, 15, 16, 21, 35]) (.seq (.ops [.op 0 ⟨none, some 10, .mov (.i .u64 0)⟩ false (.no)] [0, 1, 2, 6, 7, 8, 9, 10, 14, 15, 16, 21, 35]) (.join ⟨[0, 1, 7, 8, 9, 14, 15], [], []⟩ [.t 10 (.int .u64)] (.seq (.ops [.op 0 ⟨none, some 18, .mov (.t 9)⟩ false (.no), .op 1 ⟨none, some 19, .mov (.t 0)⟩ false (.no), .op 2 ⟨none, some 20, .len (.t 19)⟩ false (.no), .op 3 ⟨none, some 21, .bin .lss (.t 18) (.t 20)⟩ false (.sh (.one .val))] [0, 1, 2, 6, 7, 8, 9, 10, 14, 15, 16, 21, 35]) (.cond (.t 21) (.ops [.op 0 ⟨none, some 22, .mov (.t 0)⟩ false (.no), .op 1 ⟨none, some 23, .mov (.t 9)⟩ false (.no), .op 2 ⟨none, some 24, .ia 1 (.t 22) (.t 23)⟩ false (.no), .op 3 ⟨none, some 25, .ldh none (.t 24)⟩ false (.sh (.one (.int .u64))), .op 4 ⟨none, some 10, .mov (.t 25)⟩ false (.no)] [0, 1, 2, 6, 7, 8, 9, 10, 14, 15, 16, 21, 35]) (.skip))) (.seq (.ops [.op 0 ⟨none, some 26, .mov (.t 7)⟩ false (.no), .op 1 ⟨none, some 27, .mov (.t 9)⟩ false (.no), .op 2 ⟨none, some 28, .mov (.t 10)⟩ false (.no), .op 3 ⟨none, some 29, .mov (.t 1)⟩ false (.no), .op 4 ⟨none, some 30, .bin .shl (.t 28) (.t 29)⟩ false (.sh (.one .val)), .op 5 ⟨none, some 31, .mov (.t 8)⟩ false (.no), .op 6 ⟨none, some 32, .bin .or (.t 30) (.t 31)⟩ false (.sh (.one .val)), .op 7 ⟨none, some 33, .ia 1 (.t 26) (.t 27)⟩ false (.no), .op 8 ⟨none, none, .sth 1 (.t 33) (.t 32)⟩ false (.sh (.one .val))] [0, 1, 2, 6, 7, 8, 9, 10, 14, 15, 16, 21, 35]) (.seq (.ops [.op 0 ⟨none, some 8, .mov (.i .u64 0)⟩ false (.no)] [0, 1, 2, 6, 7, 8, 9, 10, 14, 15, 16, 21, 35]) (.seq (.ops [.op 0 ⟨none, some 34, .mov (.t 1)⟩ false (.no), .op 1 ⟨none, some 35, .bin .gtr (.t 34) (.i .u64 0)⟩ false (.sh (.one .val))] [0, 1, 2, 6, 7, 8, 9, 10, 14, 15, 16, 21, 35]) (.cond (.t 35) (.ops [.op 0 ⟨none, some 36, .mov (.t 10)⟩ false (.no), .op 1 ⟨none, some 37, .mov (.t 1)⟩ false (.no), .op 2 ⟨none, some 38, .bin .sub (.i .u64 64) (.t 37)⟩ false (.sh (.one .val)), .op 3 ⟨none, some 39, .bin .shr (.t 36) (.t 38)⟩ false (.sh (.one .val)), .op 4 ⟨none, some 8, .mov (.t 39)⟩ false (.no)] [0, 1, 2, 6, 7, 8, 9, 10, 14, 15, 16, 21, 35]) (.skip))))))))) (.ops [.op 0 ⟨none, some 40, .bin .add (.t 15) (.i .i64 1)⟩ false (.sh (.one .val)), .op 1 ⟨none, some 15, .mov (.t 40)⟩ false (.no)] [0, 1, 2, 6, 7, 8, 9, 10, 14, 15, 16, 21, 35]))))))) (.seq (.ops [.op 0 ⟨none, some 41, .mov (.t 7)⟩ false (.no), .op 1 ⟨none, some 6, .mov (.t 41)⟩ false (.no)] [0, 1, 2, 6, 7, 8, 9, 10, 14, 15, 16, 21, 35]) (.ret)))))
def v_divnat_shifted (l : Sl) (s : Int) (n : Int) (h : Hp) (R : Value → Hp → Prop) : Prop :=
  0 ≤ n ∧ n ≤ n ∧ (8 : Nat) * n ≤ 281474976710656 ∧ n < 9223372036854775808 ∧ ∀ b : Nat, ∀ h1 : Hp, h b = none → h1 = h.up b ⟨mkCells [.int .u64 0] (Int.toNat n * 1), true⟩ →
  ∃ I : Int → Int → Hp → Prop, ∃ mu : Int → Int → Hp → Nat, I 0 0 h1 ∧ (∀ carry : Int, ∀ x15 : Int, ∀ h2 : Hp, I carry x15 h2 →
    ((decide (x15 < (Int.toNat n : Int))) = true →
      ∀ J : Int → Hp → Prop, (∀ carry1 : Int, ∀ h3 : Hp, (
        ∀ x40 : Int, x40 = IntKind.i64.wrap (x15 + 1) →
        I carry1 x40 h3 ∧ mu carry1 x40 h3 < mu carry x15 h2
      ) → J carry1 h3) →
      ∀ J1 : Int → Hp → Prop, (∀ w : Int, ∀ h4 : Hp, (
        (0 : Int) ≤ s ∧
        ∀ x30 : Int, x30 = IntKind.u64.wrap (w * 2 ^ (min (Int.toNat s) IntKind.u64.bits)) →
        ∀ x32 : Int, x32 = IntKind.u64.wrap (((BitVec.ofInt IntKind.u64.bits x30 ||| BitVec.ofInt IntKind.u64.bits carry).toNat : Int)) →
        0 ≤ x15 ∧ x15 < (Int.toNat n : Int) ∧ (some (blkA b)).isSome = true ∧
        ∃ h5 : Hp, hst h4 (elemA (some (blkA b)) x15 1) [.int .u64 x32] = some h5 ∧
        ((decide (0 < s)) = true →
          ∀ x38 : Int, x38 = IntKind.u64.wrap ((64 : Int) - s) →
          (0 : Int) ≤ x38 ∧
          ∀ carry2 : Int, carry2 = Int.fdiv w (2 ^ (min (Int.toNat x38) IntKind.u64.bits)) →
          J carry2 h5
        ) ∧ ((decide (0 < s)) = false →
          J 0 h5
        )
      ) → J1 w h4) →
      ((decide (x15 < (l.n : Int))) = true →
        0 ≤ x15 ∧ x15 < (l.n : Int) ∧ l.a.isSome = true ∧
        ∃ x25 : Int, hld h2 (elemA l.a x15 1) none = some (.int .u64 x25) ∧
        J1 x25 h2
      ) ∧ ((decide (x15 < (l.n : Int))) = false →
        J1 0 h2
      )
    ) ∧ ((decide (x15 < (Int.toNat n : Int))) = false →
      R (.slice (some (blkA b)) (Int.toNat n) (Int.toNat n)) h2
    )
  )
set_option maxRecDepth 100000 in
theorem t_divnat_shifted {l : Sl} {s : Int} {n : Int} {h : Hp} {R : Value → Hp → Prop} (hv : v_divnat_shifted l s n h R) : Tri Try.prog (.func (.func 101) #[] #[]) [l.v, .int .u64 s, .int .i64 n] h R :=
  tri_of_vc mixed Try.func101 (d := d_divnat_shifted) (RM := []) (rvs := [.tmp 6]) (args := [l.v, .int .u64 s, .int .i64 n]) (caps := []) (by kernel_rfl) Try.ntmps101 (V := v_divnat_shifted l s n h R) (by kernel_rfl) (by simp) hv

/- trellis/divnat.guess -/
def d_divnat_guess : Vd :=
  .seq (.ops [.op 0 ⟨none, some 10, .mov (.i .u64 0)⟩ false (.no)] [0, 1, 2, 3, 4, 10, 11, 12, 13, 14, 15, 16, 17, 18, 21, 29, 45, 66]) (.scope (.seq (.ops [.op 0 ⟨none, some 11, .mov (.i .u64 0)⟩ false (.no), .op 1 ⟨none, some 12, .mov (.i .u64 0)⟩ false (.no)] [0, 1, 2, 3, 4, 10, 11, 12, 13, 14, 15, 16, 17, 18, 21, 29, 45, 66]) (.join ⟨[2, 3, 4], [], []⟩ [.t 11 (.int .u64), .t 12 (.int .u64)] (.seq (.ops [.op 0 ⟨none, some 19, .mov (.t 0)⟩ false (.no), .op 1 ⟨none, some 20, .mov (.t 3)⟩ false (.no), .op 2 ⟨none, some 21, .bin .geq (.t 19) (.t 20)⟩ false (.sh (.one .val))] [0, 1, 2, 3, 4, 10, 11, 12, 13, 14, 15, 16, 17, 18, 21, 29, 45, 66]) (.cond (.t 21) (.seq (.ops [.op 0 ⟨none, some 11, .mov (.i .u64 18446744073709551615)⟩ false (.no)] [0, 1, 2, 3, 4, 10, 11, 12, 13, 14, 15, 16, 17, 18, 21, 29, 45, 66]) (.seq (.ops [.op 0 ⟨none, some 23, .mov (.t 1)⟩ false (.no), .op 1 ⟨none, some 24, .mov (.t 3)⟩ false (.no), .op 2 ⟨none, some 25, .call false (.f 90) [.t 23, .t 24, .i .u64 0]⟩ false (.sh (.tup [(none, .int .u64), (none, .int .u64)])), .op 3 ⟨none, some 22, .mov (.t 25)⟩ false (.no), .op 4 ⟨none, some 26, .ext (.t 22) 0⟩ false (.no), .op 5 ⟨none, some 27, .ext (.t 22) 1⟩ false (.no), .op 6 ⟨none, some 13, .mov (.t 26)⟩ false (.no), .op 7 ⟨none, some 14, .mov (.t 27)⟩ false (.no)] [0, 1, 2, 3, 4, 10, 11, 12, 13, 14, 15, 16, 17, 18, 21, 29, 45, 66]) (.seq (.seq (.ops [.op 0 ⟨none, some 28, .mov (.t 14)⟩ false (.no), .op 1 ⟨none, some 29, .bin .neq (.t 28) (.i .u64 0)⟩ false (.sh (.one .val))] [0, 1, 2, 3, 4, 10, 11, 12, 13, 14, 15, 16, 17, 18, 21, 29, 45, 66]) (.cond (.t 29) (.seq (.ops [.op 0 ⟨none, some 30, .mov (.t 11)⟩ false (.no), .op 1 ⟨none, some 10, .mov (.t 30)⟩ false (.no)] [0, 1, 2, 3, 4, 10, 11, 12, 13, 14, 15, 16, 17, 18, 21, 29, 45, 66]) (.ret)) (.skip))) (.ops [.op 0 ⟨none, some 31, .mov (.t 13)⟩ false (.no), .op 1 ⟨none, some 12, .mov (.t 31)⟩ false (.no)] [0, 1, 2, 3, 4, 10, 11, 12, 13, 14, 15, 16, 17, 18, 21, 29, 45, 66])))) (.ops [.op 0 ⟨none, some 33, .mov (.t 0)⟩ false (.no), .op 1 ⟨none, some 34, .mov (.t 1)⟩ false (.no), .op 2 ⟨none, some 35, .mov (.t 3)⟩ false (.no), .op 3 ⟨none, some 36, .call false (.f 99) [.t 33, .t 34, .t 35]⟩ false (.sh (.tup [(none, .int .u64), (none, .int .u64)])), .op 4 ⟨none, some 32, .mov (.t 36)⟩ false (.no), .op 5 ⟨none, some 37, .ext (.t 32) 0⟩ false (.no), .op 6 ⟨none, some 38, .ext (.t 32) 1⟩ false (.no), .op 7 ⟨none, some 11, .mov (.t 37)⟩ false (.no), .op 8 ⟨none, some 12, .mov (.t 38)⟩ false (.no)] [0, 1, 2, 3, 4, 10, 11, 12, 13, 14, 15, 16, 17, 18, 21, 29, 45, 66]))) (.seq (.skip) (.join ⟨[], [], []⟩ [.t 11 (.int .u64)] (.block 0 (.loop ⟨[2, 3, 4], [], []⟩ [.t 11 (.int .u64), .t 12 (.int .u64)] (.block 1 (.seq (.ops [.op 0 ⟨none, some 40, .mov (.t 11)⟩ false (.no), .op 1 ⟨none, some 41, .mov (.t 4)⟩ false (.no), .op 2 ⟨none, some 42, .call false (.f 92) [.t 40, .t 41]⟩ false (.sh (.tup [(none, .int .u64), (none, .int .u64)])), .op 3 ⟨none, some 39, .mov (.t 42)⟩ false (.no), .op 4 ⟨none, some 43, .ext (.t 39) 0⟩ false (.no), .op 5 ⟨none, some 44, .ext (.t 39) 1⟩ false (.no), .op 6 ⟨none, some 15, .mov (.t 43)⟩ false (.no), .op 7 ⟨none, some 16, .mov (.t 44)⟩ false (.no)] [0, 1, 2, 3, 4, 10, 11, 12, 13, 14, 15, 16, 17, 18, 21, 29, 45, 66]) (.seq (.block 2 (.join ⟨[2, 3, 4, 11, 12], [], []⟩ [.t 45 (.bool)] (.seq (.ops [.op 0 ⟨none, some 46, .mov (.t 15)⟩ false (.no), .op 1 ⟨none, some 47, .mov (.t 12)⟩ false (.no), .op 2 ⟨none, some 48, .bin .lss (.t 46) (.t 47)⟩ false (.sh (.one .val)), .op 3 ⟨none, some 45, .mov (.t 48)⟩ false (.no)] [0, 1, 2, 3, 4, 10, 11, 12, 13, 14, 15, 16, 17, 18, 21, 29, 45, 66]) (.cond (.t 45) (.skip) (.ops [.op 0 ⟨none, some 49, .mov (.t 15)⟩ false (.no), .op 1 ⟨none, some 50, .mov (.t 12)⟩ false (.no), .op 2 ⟨none, some 51, .bin .eql (.t 49) (.t 50)⟩ false (.sh (.one .val)), .op 3 ⟨none, some 52, .mov (.t 51)⟩ false (.no), .grp ⟨[2, 3, 4, 11, 12], [], []⟩ [.t 56 (.bool)] [(4, ⟨some (52, true), some 53, .mov (.t 16)⟩, true, .no), (5, ⟨some (52, true), some 54, .mov (.t 2)⟩, false, .no), (6, ⟨some (52, true), some 55, .bin .leq (.t 53) (.t 54)⟩, false, .sh (.one .val)), (7, ⟨none, some 56, .pick (.t 52) (.t 55) (.b false)⟩, false, .no)], .op 8 ⟨none, some 45, .mov (.t 56)⟩ false (.no)] [0, 1, 2, 3, 4, 10, 11, 12, 13, 14, 15, 16, 17, 18, 21, 29, 45, 66]))) (.cond (.t 45) (.exit 0) (.skip)))) (.seq (.ops [.op 0 ⟨none, some 57, .mov (.t 11)⟩ false (.no), .op 1 ⟨none, some 58, .bin .sub (.t 57) (.i .u64 1)⟩ false (.sh (.one .val)), .op 2 ⟨none, some 11, .mov (.t 58)⟩ false (.no)] [0, 1, 2, 3, 4, 10, 11, 12, 13, 14, 15, 16, 17, 18, 21, 29, 45, 66]) (.seq (.ops [.op 0 ⟨none, some 60, .mov (.t 12)⟩ false (.no), .op 1 ⟨none, some 61, .mov (.t 3)⟩ false (.no), .op 2 ⟨none, some 62, .call false (.f 90) [.t 60, .t 61, .i .u64 0]⟩ false (.sh (.tup [(none, .int .u64), (none, .int .u64)])), .op 3 ⟨none, some 59, .mov (.t 62)⟩ false (.no), .op 4 ⟨none, some 63, .ext (.t 59) 0⟩ false (.no), .op 5 ⟨none, some 64, .ext (.t 59) 1⟩ false (.no), .op 6 ⟨none, some 17, .mov (.t 63)⟩ false (.no), .op 7 ⟨none, some 18, .mov (.t 64)⟩ false (.no)] [0, 1, 2, 3, 4, 10, 11, 12, 13, 14, 15, 16, 17, 18, 21, 29, 45, 66]) (.seq (.seq (.ops [.op 0 ⟨none, some 65, .mov (.t 18)⟩ false (.no), .op 1 ⟨none, some 66, .bin .neq (.t 65) (.i .u64 0)⟩ false (.sh (.one .val))] [0, 1, 2, 3, 4, 10, 11, 12, 13, 14, 15, 16, 17, 18, 21, 29, 45, 66]) (.cond (.t 66) (.exit 0) (.skip))) (.ops [.op 0 ⟨none, some 67, .mov (.t 17)⟩ false (.no), .op 1 ⟨none, some 12, .mov (.t 67)⟩ false (.no)] [0, 1, 2, 3, 4, 10, 11, 12, 13, 14, 15, 16, 17, 18, 21, 29, 45, 66]))))))))) (.seq (.ops [.op 0 ⟨none, some 68, .mov (.t 11)⟩ false (.no), .op 1 ⟨none, some 10, .mov (.t 68)⟩ false (.no)] [0, 1, 2, 3, 4, 10, 11, 12, 13, 14, 15, 16, 17, 18, 21, 29, 45, 66]) (.ret)))))))
def v_divnat_guess (x0 : Int) (x1 : Int) (x2 : Int) (x3 : Int) (x4 : Int) (h : Hp) (R : Value → Hp → Prop) : Prop :=
  ∀ J : Int → Int → Hp → Prop, (∀ x11 : Int, ∀ x12 : Int, ∀ h1 : Hp, (
    ∀ J1 : Int → Hp → Prop, (∀ x111 : Int, ∀ h2 : Hp, (
      R (.int .u64 x111) h2
    ) → J1 x111 h2) →
    ∃ I : Int → Int → Hp → Prop, ∃ mu : Int → Int → Hp → Nat, I x11 x12 h1 ∧ (∀ x112 : Int, ∀ x121 : Int, ∀ h3 : Hp, I x112 x121 h3 →
      Tri Try.prog (.func (.func 92) #[] #[]) [.int .u64 x112, .int .u64 x4] h3 fun r h4 => ∃ x42a : Int, ∃ x42b : Int, r = .tuple #[.int .u64 x42a, .int .u64 x42b] ∧
      ∀ J2 : Bool → Hp → Prop, (∀ x45 : Bool, ∀ h5 : Hp, (
        (x45 = true →
          J1 x112 h5
        ) ∧ (x45 = false →
          ∀ x58 : Int, x58 = IntKind.u64.wrap (x112 - 1) →
          Tri Try.prog (.func (.func 90) #[] #[]) [.int .u64 x121, .int .u64 x3, .int .u64 0] h5 fun r1 h6 => ∃ x62a : Int, ∃ x62b : Int, r1 = .tuple #[.int .u64 x62a, .int .u64 x62b] ∧
          ((!decide (x62b = 0)) = true →
            J1 x58 h6
          ) ∧ ((!decide (x62b = 0)) = false →
            I x58 x62a h6 ∧ mu x58 x62a h6 < mu x112 x121 h3
          )
        )
      ) → J2 x45 h5) →
      ((decide (x42a < x121)) = true →
        J2 (decide (x42a < x121)) h4
      ) ∧ ((decide (x42a < x121)) = false →
        ∀ J3 : Bool → Hp → Prop, (∀ x56 : Bool, ∀ h7 : Hp, (
          J2 x56 h7
        ) → J3 x56 h7) →
        ((decide (x42a = x121)) = true →
        J3 (decide (x42b ≤ x2)) h4
        ) ∧ ((decide (x42a = x121)) = false →
        J3 false h4
        )
      )
    )
  ) → J x11 x12 h1) →
  ((decide (x3 ≤ x0)) = true →
    Tri Try.prog (.func (.func 90) #[] #[]) [.int .u64 x1, .int .u64 x3, .int .u64 0] h fun r2 h8 => ∃ x25a : Int, ∃ x25b : Int, r2 = .tuple #[.int .u64 x25a, .int .u64 x25b] ∧
    ((!decide (x25b = 0)) = true →
      R (.int .u64 18446744073709551615) h8
    ) ∧ ((!decide (x25b = 0)) = false →
      J 18446744073709551615 x25a h8
    )
  ) ∧ ((decide (x3 ≤ x0)) = false →
    Tri Try.prog (.func (.func 99) #[] #[]) [.int .u64 x0, .int .u64 x1, .int .u64 x3] h fun r3 h9 => ∃ x36a : Int, ∃ x36b : Int, r3 = .tuple #[.int .u64 x36a, .int .u64 x36b] ∧
    J x36a x36b h9
  )
set_option maxRecDepth 100000 in
theorem t_divnat_guess {x0 : Int} {x1 : Int} {x2 : Int} {x3 : Int} {x4 : Int} {h : Hp} {R : Value → Hp → Prop} (hv : v_divnat_guess x0 x1 x2 x3 x4 h R) : Tri Try.prog (.func (.func 102) #[] #[]) [.int .u64 x0, .int .u64 x1, .int .u64 x2, .int .u64 x3, .int .u64 x4] h R :=
  tri_of_vc mixed Try.func102 (d := d_divnat_guess) (RM := []) (rvs := [.tmp 10]) (args := [.int .u64 x0, .int .u64 x1, .int .u64 x2, .int .u64 x3, .int .u64 x4]) (caps := []) (by kernel_rfl) Try.ntmps102 (V := v_divnat_guess x0 x1 x2 x3 x4 h R) (by kernel_rfl) (by simp) hv

/- trellis/divnat.take -/
def d_divnat_take : Vd :=
  .seq (.ops [.op 0 ⟨none, some 6, .mov (.b false)⟩ false (.no)] [0, 1, 2, 6, 7, 8, 9, 10, 11, 12, 13, 15, 16, 17]) (.seq (.ops [.op 0 ⟨none, some 7, .mov (.i .u64 0)⟩ false (.no), .op 1 ⟨none, some 8, .mov (.i .u64 0)⟩ false (.no)] [0, 1, 2, 6, 7, 8, 9, 10, 11, 12, 13, 15, 16, 17]) (.seq (.seq (.ops [.op 0 ⟨none, some 14, .mov (.t 1)⟩ false (.no), .op 1 ⟨none, some 15, .len (.t 14)⟩ false (.no), .op 2 ⟨none, some 16, .mov (.i .i64 0)⟩ false (.no)] [0, 1, 2, 6, 7, 8, 9, 10, 11, 12, 13, 15, 16, 17]) (.block 0 (.loop ⟨[0, 1, 2, 15], [], []⟩ [.t 7 (.int .u64), .t 8 (.int .u64), .t 16 (.int .i64)] (.seq (.ops [.op 0 ⟨none, some 17, .bin .lss (.t 16) (.t 15)⟩ false (.sh (.one .val))] [0, 1, 2, 6, 7, 8, 9, 10, 11, 12, 13, 15, 16, 17]) (.seq (.cond (.t 17) (.skip) (.exit 0)) (.seq (.block 1 (.seq (.ops [.op 0 ⟨none, some 18, .mov (.t 16)⟩ false (.no), .op 1 ⟨none, some 9, .mov (.t 18)⟩ false (.no)] [0, 1, 2, 6, 7, 8, 9, 10, 11, 12, 13, 15, 16, 17]) (.seq (.ops [.op 0 ⟨none, some 20, .mov (.t 2)⟩ false (.no), .op 1 ⟨none, some 21, .mov (.t 1)⟩ false (.no), .op 2 ⟨none, some 22, .mov (.t 9)⟩ false (.no), .op 3 ⟨none, some 23, .ia 1 (.t 21) (.t 22)⟩ false (.no), .op 4 ⟨none, some 24, .ldh none (.t 23)⟩ false (.sh (.one (.int .u64))), .op 5 ⟨none, some 25, .call false (.f 92) [.t 20, .t 24]⟩ false (.sh (.tup [(none, .int .u64), (none, .int .u64)])), .op 6 ⟨none, some 19, .mov (.t 25)⟩ false (.no), .op 7 ⟨none, some 26, .ext (.t 19) 0⟩ false (.no), .op 8 ⟨none, some 27, .ext (.t 19) 1⟩ false (.no), .op 9 ⟨none, some 10, .mov (.t 26)⟩ false (.no), .op 10 ⟨none, some 11, .mov (.t 27)⟩ false (.no)] [0, 1, 2, 6, 7, 8, 9, 10, 11, 12, 13, 15, 16, 17]) (.seq (.ops [.op 0 ⟨none, some 12, .mov (.i .u64 0)⟩ false (.no)] [0, 1, 2, 6, 7, 8, 9, 10, 11, 12, 13, 15, 16, 17]) (.seq (.ops [.op 0 ⟨none, some 29, .mov (.t 11)⟩ false (.no), .op 1 ⟨none, some 30, .mov (.t 7)⟩ false (.no), .op 2 ⟨none, some 31, .call false (.f 90) [.t 29, .t 30, .i .u64 0]⟩ false (.sh (.tup [(none, .int .u64), (none, .int .u64)])), .op 3 ⟨none, some 28, .mov (.t 31)⟩ false (.no), .op 4 ⟨none, some 32, .ext (.t 28) 0⟩ false (.no), .op 5 ⟨none, some 33, .ext (.t 28) 1⟩ false (.no), .op 6 ⟨none, some 11, .mov (.t 32)⟩ false (.no), .op 7 ⟨none, some 12, .mov (.t 33)⟩ false (.no)] [0, 1, 2, 6, 7, 8, 9, 10, 11, 12, 13, 15, 16, 17]) (.seq (.ops [.op 0 ⟨none, some 34, .mov (.t 10)⟩ false (.no), .op 1 ⟨none, some 35, .mov (.t 12)⟩ false (.no), .op 2 ⟨none, some 36, .bin .add (.t 34) (.t 35)⟩ false (.sh (.one .val)), .op 3 ⟨none, some 7, .mov (.t 36)⟩ false (.no)] [0, 1, 2, 6, 7, 8, 9, 10, 11, 12, 13, 15, 16, 17]) (.ops [.op 0 ⟨none, some 38, .mov (.t 0)⟩ false (.no), .op 1 ⟨none, some 39, .mov (.t 9)⟩ false (.no), .op 2 ⟨none, some 40, .mov (.t 0)⟩ false (.no), .op 3 ⟨none, some 41, .mov (.t 9)⟩ false (.no), .op 4 ⟨none, some 42, .ia 1 (.t 40) (.t 41)⟩ false (.no), .op 5 ⟨none, some 43, .ldh none (.t 42)⟩ false (.sh (.one (.int .u64))), .op 6 ⟨none, some 44, .mov (.t 11)⟩ false (.no), .op 7 ⟨none, some 45, .mov (.t 8)⟩ false (.no), .op 8 ⟨none, some 46, .call false (.f 91) [.t 43, .t 44, .t 45]⟩ false (.sh (.tup [(none, .int .u64), (none, .int .u64)])), .op 9 ⟨none, some 37, .mov (.t 46)⟩ false (.no), .op 10 ⟨none, some 47, .ext (.t 37) 0⟩ false (.no), .op 11 ⟨none, some 48, .ext (.t 37) 1⟩ false (.no), .op 12 ⟨none, some 49, .ia 1 (.t 38) (.t 39)⟩ false (.no), .op 13 ⟨none, none, .sth 1 (.t 49) (.t 47)⟩ false (.sh (.one .val)), .op 14 ⟨none, some 8, .mov (.t 48)⟩ false (.no)] [0, 1, 2, 6, 7, 8, 9, 10, 11, 12, 13, 15, 16, 17]))))))) (.ops [.op 0 ⟨none, some 50, .bin .add (.t 16) (.i .i64 1)⟩ false (.sh (.one .val)), .op 1 ⟨none, some 16, .mov (.t 50)⟩ false (.no)] [0, 1, 2, 6, 7, 8, 9, 10, 11, 12, 13, 15, 16, 17]))))))) (.seq (.ops [.op 0 ⟨none, some 51, .mov (.t 1)⟩ false (.no), .op 1 ⟨none, some 52, .len (.t 51)⟩ false (.no), .op 2 ⟨none, some 13, .mov (.t 52)⟩ false (.no)] [0, 1, 2, 6, 7, 8, 9, 10, 11, 12, 13, 15, 16, 17]) (.seq (.ops [.op 0 ⟨none, some 54, .mov (.t 0)⟩ false (.no), .op 1 ⟨none, some 55, .mov (.t 13)⟩ false (.no), .op 2 ⟨none, some 56, .mov (.t 0)⟩ false (.no), .op 3 ⟨none, some 57, .mov (.t 13)⟩ false (.no), .op 4 ⟨none, some 58, .ia 1 (.t 56) (.t 57)⟩ false (.no), .op 5 ⟨none, some 59, .ldh none (.t 58)⟩ false (.sh (.one (.int .u64))), .op 6 ⟨none, some 60, .mov (.t 7)⟩ false (.no), .op 7 ⟨none, some 61, .mov (.t 8)⟩ false (.no), .op 8 ⟨none, some 62, .call false (.f 91) [.t 59, .t 60, .t 61]⟩ false (.sh (.tup [(none, .int .u64), (none, .int .u64)])), .op 9 ⟨none, some 53, .mov (.t 62)⟩ false (.no), .op 10 ⟨none, some 63, .ext (.t 53) 0⟩ false (.no), .op 11 ⟨none, some 64, .ext (.t 53) 1⟩ false (.no), .op 12 ⟨none, some 65, .ia 1 (.t 54) (.t 55)⟩ false (.no), .op 13 ⟨none, none, .sth 1 (.t 65) (.t 63)⟩ false (.sh (.one .val)), .op 14 ⟨none, some 8, .mov (.t 64)⟩ false (.no)] [0, 1, 2, 6, 7, 8, 9, 10, 11, 12, 13, 15, 16, 17]) (.seq (.ops [.op 0 ⟨none, some 66, .mov (.t 8)⟩ false (.no), .op 1 ⟨none, some 67, .bin .neq (.t 66) (.i .u64 0)⟩ false (.sh (.one .val)), .op 2 ⟨none, some 6, .mov (.t 67)⟩ false (.no)] [0, 1, 2, 6, 7, 8, 9, 10, 11, 12, 13, 15, 16, 17]) (.ret))))))
def v_divnat_take (x0 : Sl) (x1 : Sl) (x2 : Int) (h : Hp) (R : Value → Hp → Prop) : Prop :=
  ∃ I : Int → Int → Int → Hp → Prop, ∃ mu : Int → Int → Int → Hp → Nat, I 0 0 0 h ∧ (∀ x7 : Int, ∀ x8 : Int, ∀ x16 : Int, ∀ h1 : Hp, I x7 x8 x16 h1 →
    ((decide (x16 < (x1.n : Int))) = true →
      0 ≤ x16 ∧ x16 < (x1.n : Int) ∧ x1.a.isSome = true ∧
      ∃ x24 : Int, hld h1 (elemA x1.a x16 1) none = some (.int .u64 x24) ∧
      Tri Try.prog (.func (.func 92) #[] #[]) [.int .u64 x2, .int .u64 x24] h1 fun r h2 => ∃ x25a : Int, ∃ x25b : Int, r = .tuple #[.int .u64 x25a, .int .u64 x25b] ∧
      Tri Try.prog (.func (.func 90) #[] #[]) [.int .u64 x25b, .int .u64 x7, .int .u64 0] h2 fun r1 h3 => ∃ x31a : Int, ∃ x31b : Int, r1 = .tuple #[.int .u64 x31a, .int .u64 x31b] ∧
      ∀ x36 : Int, x36 = IntKind.u64.wrap (x25a + x31b) →
      0 ≤ x16 ∧ x16 < (x0.n : Int) ∧ x0.a.isSome = true ∧
      ∃ x43 : Int, hld h3 (elemA x0.a x16 1) none = some (.int .u64 x43) ∧
      Tri Try.prog (.func (.func 91) #[] #[]) [.int .u64 x43, .int .u64 x31a, .int .u64 x8] h3 fun r2 h4 => ∃ x46a : Int, ∃ x46b : Int, r2 = .tuple #[.int .u64 x46a, .int .u64 x46b] ∧
      0 ≤ x16 ∧ x16 < (x0.n : Int) ∧ x0.a.isSome = true ∧
      ∃ h5 : Hp, hst h4 (elemA x0.a x16 1) [.int .u64 x46a] = some h5 ∧
      ∀ x50 : Int, x50 = IntKind.i64.wrap (x16 + 1) →
      I x36 x46b x50 h5 ∧ mu x36 x46b x50 h5 < mu x7 x8 x16 h1
    ) ∧ ((decide (x16 < (x1.n : Int))) = false →
      0 ≤ (x1.n : Int) ∧ (x1.n : Int) < (x0.n : Int) ∧ x0.a.isSome = true ∧
      ∃ x59 : Int, hld h1 (elemA x0.a (x1.n : Int) 1) none = some (.int .u64 x59) ∧
      Tri Try.prog (.func (.func 91) #[] #[]) [.int .u64 x59, .int .u64 x7, .int .u64 x8] h1 fun r3 h6 => ∃ x62a : Int, ∃ x62b : Int, r3 = .tuple #[.int .u64 x62a, .int .u64 x62b] ∧
      0 ≤ (x1.n : Int) ∧ (x1.n : Int) < (x0.n : Int) ∧ x0.a.isSome = true ∧
      ∃ h7 : Hp, hst h6 (elemA x0.a (x1.n : Int) 1) [.int .u64 x62a] = some h7 ∧
      R (.bool (!decide (x62b = 0))) h7
    )
  )
set_option maxRecDepth 100000 in
theorem t_divnat_take {x0 : Sl} {x1 : Sl} {x2 : Int} {h : Hp} {R : Value → Hp → Prop} (hv : v_divnat_take x0 x1 x2 h R) : Tri Try.prog (.func (.func 103) #[] #[]) [x0.v, x1.v, .int .u64 x2] h R :=
  tri_of_vc mixed Try.func103 (d := d_divnat_take) (RM := []) (rvs := [.tmp 6]) (args := [x0.v, x1.v, .int .u64 x2]) (caps := []) (by kernel_rfl) Try.ntmps103 (V := v_divnat_take x0 x1 x2 h R) (by kernel_rfl) (by simp) hv

/- trellis/divnat.give -/
def d_divnat_give : Vd :=
  .seq (.ops [.op 0 ⟨none, some 4, .mov (.i .u64 0)⟩ false (.no)] [0, 1, 4, 5, 7, 8, 9]) (.seq (.seq (.ops [.op 0 ⟨none, some 6, .mov (.t 1)⟩ false (.no), .op 1 ⟨none, some 7, .len (.t 6)⟩ false (.no), .op 2 ⟨none, some 8, .mov (.i .i64 0)⟩ false (.no)] [0, 1, 4, 5, 7, 8, 9]) (.block 0 (.loop ⟨[0, 1, 7], [], []⟩ [.t 4 (.int .u64), .t 8 (.int .i64)] (.seq (.ops [.op 0 ⟨none, some 9, .bin .lss (.t 8) (.t 7)⟩ false (.sh (.one .val))] [0, 1, 4, 5, 7, 8, 9]) (.seq (.cond (.t 9) (.skip) (.exit 0)) (.seq (.block 1 (.seq (.ops [.op 0 ⟨none, some 10, .mov (.t 8)⟩ false (.no), .op 1 ⟨none, some 5, .mov (.t 10)⟩ false (.no)] [0, 1, 4, 5, 7, 8, 9]) (.ops [.op 0 ⟨none, some 12, .mov (.t 0)⟩ false (.no), .op 1 ⟨none, some 13, .mov (.t 5)⟩ false (.no), .op 2 ⟨none, some 14, .mov (.t 0)⟩ false (.no), .op 3 ⟨none, some 15, .mov (.t 5)⟩ false (.no), .op 4 ⟨none, some 16, .ia 1 (.t 14) (.t 15)⟩ false (.no), .op 6 ⟨none, some 18, .mov (.t 1)⟩ false (.no), .op 7 ⟨none, some 19, .mov (.t 5)⟩ false (.no), .op 8 ⟨none, some 20, .ia 1 (.t 18) (.t 19)⟩ false (.no), .op 10 ⟨none, some 22, .mov (.t 4)⟩ false (.no), .op 5 ⟨none, some 17, .ldh none (.t 16)⟩ false (.sh (.one (.int .u64))), .op 9 ⟨none, some 21, .ldh none (.t 20)⟩ false (.sh (.one (.int .u64))), .op 11 ⟨none, some 23, .call false (.f 90) [.t 17, .t 21, .t 22]⟩ false (.sh (.tup [(none, .int .u64), (none, .int .u64)])), .op 12 ⟨none, some 11, .mov (.t 23)⟩ false (.no), .op 13 ⟨none, some 24, .ext (.t 11) 0⟩ false (.no), .op 14 ⟨none, some 25, .ext (.t 11) 1⟩ false (.no), .op 15 ⟨none, some 26, .ia 1 (.t 12) (.t 13)⟩ false (.no), .op 16 ⟨none, none, .sth 1 (.t 26) (.t 24)⟩ false (.sh (.one .val)), .op 17 ⟨none, some 4, .mov (.t 25)⟩ false (.no)] [0, 1, 4, 5, 7, 8, 9]))) (.ops [.op 0 ⟨none, some 27, .bin .add (.t 8) (.i .i64 1)⟩ false (.sh (.one .val)), .op 1 ⟨none, some 8, .mov (.t 27)⟩ false (.no)] [0, 1, 4, 5, 7, 8, 9]))))))) (.ops [.op 0 ⟨none, some 28, .mov (.t 0)⟩ false (.no), .op 1 ⟨none, some 29, .mov (.t 1)⟩ false (.no), .op 2 ⟨none, some 30, .len (.t 29)⟩ false (.no), .op 3 ⟨none, some 31, .ia 1 (.t 28) (.t 30)⟩ false (.no), .op 4 ⟨none, some 32, .ldh none (.t 31)⟩ false (.sh (.one (.int .u64))), .op 5 ⟨none, some 33, .mov (.t 4)⟩ false (.no), .op 6 ⟨none, some 34, .bin .add (.t 32) (.t 33)⟩ false (.sh (.one .val)), .op 7 ⟨none, some 35, .ia 1 (.t 28) (.t 30)⟩ false (.no), .op 8 ⟨none, none, .sth 1 (.t 35) (.t 34)⟩ false (.sh (.one .val))] [0, 1, 4, 5, 7, 8, 9]))
def v_divnat_give (u : Sl) (v : Sl) (h : Hp) (R : Value → Hp → Prop) : Prop :=
  ∃ I : Int → Int → Hp → Prop, ∃ mu : Int → Int → Hp → Nat, I 0 0 h ∧ (∀ carry : Int, ∀ x8 : Int, ∀ h1 : Hp, I carry x8 h1 →
    ((decide (x8 < (v.n : Int))) = true →
      0 ≤ x8 ∧ x8 < (u.n : Int) ∧ u.a.isSome = true ∧
      0 ≤ x8 ∧ x8 < (v.n : Int) ∧ v.a.isSome = true ∧
      ∃ x17 : Int, hld h1 (elemA u.a x8 1) none = some (.int .u64 x17) ∧
      ∃ x21 : Int, hld h1 (elemA v.a x8 1) none = some (.int .u64 x21) ∧
      Tri Try.prog (.func (.func 90) #[] #[]) [.int .u64 x17, .int .u64 x21, .int .u64 carry] h1 fun r h2 => ∃ x23a : Int, ∃ x23b : Int, r = .tuple #[.int .u64 x23a, .int .u64 x23b] ∧
      0 ≤ x8 ∧ x8 < (u.n : Int) ∧ u.a.isSome = true ∧
      ∃ h3 : Hp, hst h2 (elemA u.a x8 1) [.int .u64 x23a] = some h3 ∧
      ∀ x27 : Int, x27 = IntKind.i64.wrap (x8 + 1) →
      I x23b x27 h3 ∧ mu x23b x27 h3 < mu carry x8 h1
    ) ∧ ((decide (x8 < (v.n : Int))) = false →
      0 ≤ (v.n : Int) ∧ (v.n : Int) < (u.n : Int) ∧ u.a.isSome = true ∧
      ∃ x32 : Int, hld h1 (elemA u.a (v.n : Int) 1) none = some (.int .u64 x32) ∧
      ∀ x34 : Int, x34 = IntKind.u64.wrap (x32 + carry) →
      0 ≤ (v.n : Int) ∧ (v.n : Int) < (u.n : Int) ∧ u.a.isSome = true ∧
      ∃ h4 : Hp, hst h1 (elemA u.a (v.n : Int) 1) [.int .u64 x34] = some h4 ∧
      R (.tuple #[]) h4
    )
  )
set_option maxRecDepth 100000 in
theorem t_divnat_give {u : Sl} {v : Sl} {h : Hp} {R : Value → Hp → Prop} (hv : v_divnat_give u v h R) : Tri Try.prog (.func (.func 104) #[] #[]) [u.v, v.v] h R :=
  tri_of_vc mixed Try.func104 (d := d_divnat_give) (RM := []) (rvs := []) (args := [u.v, v.v]) (caps := []) (by kernel_rfl) Try.ntmps104 (V := v_divnat_give u v h R) (by kernel_rfl) (by simp) hv

/- trellis/divnat.long -/
def d_divnat_long : Vd :=
  .seq (.ops [.op 0 ⟨none, some 4, .mov (.nil)⟩ false (.no), .op 1 ⟨none, some 5, .mov (.nil)⟩ false (.no)] [0, 1, 4, 5, 6, 7, 8, 9, 10, 11, 12, 13, 45, 88]) (.seq (.ops [.op 0 ⟨none, some 15, .mov (.t 1)⟩ false (.no), .op 1 ⟨none, some 16, .len (.t 15)⟩ false (.no), .op 2 ⟨none, some 6, .mov (.t 16)⟩ false (.no)] [0, 1, 4, 5, 6, 7, 8, 9, 10, 11, 12, 13, 45, 88]) (.seq (.ops [.op 0 ⟨none, some 17, .mov (.t 1)⟩ false (.no), .op 1 ⟨none, some 18, .mov (.t 6)⟩ false (.no), .op 2 ⟨none, some 19, .bin .sub (.t 18) (.i .i64 1)⟩ false (.sh (.one .val)), .op 3 ⟨none, some 20, .ia 1 (.t 17) (.t 19)⟩ false (.no), .op 4 ⟨none, some 21, .ldh none (.t 20)⟩ false (.sh (.one (.int .u64))), .op 5 ⟨none, some 22, .call false (.f 100) [.t 21]⟩ false (.sh (.one (.int .i64))), .op 6 ⟨none, some 23, .cv .u64 (.t 22)⟩ false (.sh (.one .val)), .op 7 ⟨none, some 7, .mov (.t 23)⟩ false (.no)] [0, 1, 4, 5, 6, 7, 8, 9, 10, 11, 12, 13, 45, 88]) (.seq (.ops [.op 0 ⟨none, some 24, .mov (.t 1)⟩ false (.no), .op 1 ⟨none, some 25, .mov (.t 7)⟩ false (.no), .op 2 ⟨none, some 26, .mov (.t 6)⟩ false (.no), .op 3 ⟨none, some 27, .call false (.f 101) [.t 24, .t 25, .t 26]⟩ false (.sh (.one (.slice))), .op 4 ⟨none, some 8, .mov (.t 27)⟩ false (.no)] [0, 1, 4, 5, 6, 7, 8, 9, 10, 11, 12, 13, 45, 88]) (.seq (.ops [.op 0 ⟨none, some 28, .mov (.t 0)⟩ false (.no), .op 1 ⟨none, some 29, .mov (.t 7)⟩ false (.no), .op 2 ⟨none, some 30, .mov (.t 0)⟩ false (.no), .op 3 ⟨none, some 31, .len (.t 30)⟩ false (.no), .op 4 ⟨none, some 32, .bin .add (.t 31) (.i .i64 1)⟩ false (.sh (.one .val)), .op 5 ⟨none, some 33, .call false (.f 101) [.t 28, .t 29, .t 32]⟩ false (.sh (.one (.slice))), .op 6 ⟨none, some 9, .mov (.t 33)⟩ false (.no)] [0, 1, 4, 5, 6, 7, 8, 9, 10, 11, 12, 13, 45, 88]) (.seq (.ops [.op 0 ⟨none, some 34, .mov (.t 0)⟩ false (.no), .op 1 ⟨none, some 35, .len (.t 34)⟩ false (.no), .op 2 ⟨none, some 36, .mov (.t 6)⟩ false (.no), .op 3 ⟨none, some 37, .bin .sub (.t 35) (.t 36)⟩ false (.sh (.one .val)), .op 4 ⟨none, some 38, .bin .add (.t 37) (.i .i64 1)⟩ false (.sh (.one .val)), .op 5 ⟨none, some 39, .mk [.i .u64 0] 8 (.t 38) (.t 38)⟩ false (.sh (.one .val)), .op 6 ⟨none, some 10, .mov (.t 39)⟩ false (.no)] [0, 1, 4, 5, 6, 7, 8, 9, 10, 11, 12, 13, 45, 88]) (.seq (.seq (.ops [.op 0 ⟨none, some 40, .mov (.t 0)⟩ false (.no), .op 1 ⟨none, some 41, .len (.t 40)⟩ false (.no), .op 2 ⟨none, some 42, .mov (.t 6)⟩ false (.no), .op 3 ⟨none, some 43, .bin .sub (.t 41) (.t 42)⟩ false (.sh (.one .val)), .op 4 ⟨none, some 11, .mov (.t 43)⟩ false (.no)] [0, 1, 4, 5, 6, 7, 8, 9, 10, 11, 12, 13, 45, 88]) (.block 0 (.loop ⟨[6, 7, 8, 9, 10], [], []⟩ [.t 11 (.int .i64)] (.seq (.seq (.ops [.op 0 ⟨none, some 44, .mov (.t 11)⟩ false (.no), .op 1 ⟨none, some 45, .bin .geq (.t 44) (.i .i64 0)⟩ false (.sh (.one .val))] [0, 1, 4, 5, 6, 7, 8, 9, 10, 11, 12, 13, 45, 88]) (.cond (.t 45) (.skip) (.exit 0))) (.seq (.block 1 (.seq (.ops [.op 0 ⟨none, some 48, .mov (.t 9)⟩ false (.no), .op 1 ⟨none, some 49, .mov (.t 11)⟩ false (.no), .op 2 ⟨none, some 50, .mov (.t 6)⟩ false (.no), .op 3 ⟨none, some 51, .bin .add (.t 49) (.t 50)⟩ false (.sh (.one .val)), .op 4 ⟨none, some 52, .ia 1 (.t 48) (.t 51)⟩ false (.no), .op 6 ⟨none, some 54, .mov (.t 9)⟩ false (.no), .op 7 ⟨none, some 55, .mov (.t 11)⟩ false (.no), .op 8 ⟨none, some 56, .mov (.t 6)⟩ false (.no), .op 9 ⟨none, some 57, .bin .add (.t 55) (.t 56)⟩ false (.sh (.one .val)), .op 10 ⟨none, some 58, .bin .sub (.t 57) (.i .i64 1)⟩ false (.sh (.one .val)), .op 11 ⟨none, some 59, .ia 1 (.t 54) (.t 58)⟩ false (.no), .op 13 ⟨none, some 61, .mov (.t 9)⟩ false (.no), .op 14 ⟨none, some 62, .mov (.t 11)⟩ false (.no), .op 15 ⟨none, some 63, .mov (.t 6)⟩ false (.no), .op 16 ⟨none, some 64, .bin .add (.t 62) (.t 63)⟩ false (.sh (.one .val)), .op 17 ⟨none, some 65, .bin .sub (.t 64) (.i .i64 2)⟩ false (.sh (.one .val)), .op 18 ⟨none, some 66, .ia 1 (.t 61) (.t 65)⟩ false (.no), .op 20 ⟨none, some 68, .mov (.t 8)⟩ false (.no), .op 21 ⟨none, some 69, .mov (.t 6)⟩ false (.no), .op 22 ⟨none, some 70, .bin .sub (.t 69) (.i .i64 1)⟩ false (.sh (.one .val)), .op 23 ⟨none, some 71, .ia 1 (.t 68) (.t 70)⟩ false (.no), .op 25 ⟨none, some 73, .mov (.t 8)⟩ false (.no), .op 26 ⟨none, some 74, .mov (.t 6)⟩ false (.no), .op 27 ⟨none, some 75, .bin .sub (.t 74) (.i .i64 2)⟩ false (.sh (.one .val)), .op 28 ⟨none, some 76, .ia 1 (.t 73) (.t 75)⟩ false (.no), .op 5 ⟨none, some 53, .ldh none (.t 52)⟩ false (.sh (.one (.int .u64))), .op 12 ⟨none, some 60, .ldh none (.t 59)⟩ false (.sh (.one (.int .u64))), .op 19 ⟨none, some 67, .ldh none (.t 66)⟩ false (.sh (.one (.int .u64))), .op 24 ⟨none, some 72, .ldh none (.t 71)⟩ false (.sh (.one (.int .u64))), .op 29 ⟨none, some 77, .ldh none (.t 76)⟩ false (.sh (.one (.int .u64))), .op 30 ⟨none, some 78, .call false (.f 102) [.t 53, .t 60, .t 67, .t 72, .t 77]⟩ false (.sh (.one (.int .u64))), .op 31 ⟨none, some 12, .mov (.t 78)⟩ false (.no)] [0, 1, 4, 5, 6, 7, 8, 9, 10, 11, 12, 13, 45, 88]) (.join ⟨[6, 7, 8, 9, 10, 11], [], []⟩ [.t 12 (.int .u64)] (.seq (.ops [.op 0 ⟨none, some 79, .mov (.t 9)⟩ false (.no), .op 1 ⟨none, some 80, .mov (.t 11)⟩ false (.no), .op 2 ⟨none, some 81, .mov (.t 11)⟩ false (.no), .op 3 ⟨none, some 82, .mov (.t 6)⟩ false (.no), .op 4 ⟨none, some 83, .bin .add (.t 81) (.t 82)⟩ false (.sh (.one .val)), .op 5 ⟨none, some 84, .bin .add (.t 83) (.i .i64 1)⟩ false (.sh (.one .val)), .op 6 ⟨none, some 85, .sl 1 (.t 79) (some (.t 80)) (some (.t 84)) none⟩ false (.no), .op 7 ⟨none, some 86, .mov (.t 8)⟩ false (.no), .op 8 ⟨none, some 87, .mov (.t 12)⟩ false (.no), .op 9 ⟨none, some 88, .call false (.f 103) [.t 85, .t 86, .t 87]⟩ false (.sh (.one (.bool)))] [0, 1, 4, 5, 6, 7, 8, 9, 10, 11, 12, 13, 45, 88]) (.cond (.t 88) (.seq (.ops [.op 0 ⟨none, some 89, .mov (.t 12)⟩ false (.no), .op 1 ⟨none, some 90, .bin .sub (.t 89) (.i .u64 1)⟩ false (.sh (.one .val)), .op 2 ⟨none, some 12, .mov (.t 90)⟩ false (.no)] [0, 1, 4, 5, 6, 7, 8, 9, 10, 11, 12, 13, 45, 88]) (.ops [.op 0 ⟨none, some 91, .mov (.t 9)⟩ false (.no), .op 1 ⟨none, some 92, .mov (.t 11)⟩ false (.no), .op 2 ⟨none, some 93, .mov (.t 11)⟩ false (.no), .op 3 ⟨none, some 94, .mov (.t 6)⟩ false (.no), .op 4 ⟨none, some 95, .bin .add (.t 93) (.t 94)⟩ false (.sh (.one .val)), .op 5 ⟨none, some 96, .bin .add (.t 95) (.i .i64 1)⟩ false (.sh (.one .val)), .op 6 ⟨none, some 97, .sl 1 (.t 91) (some (.t 92)) (some (.t 96)) none⟩ false (.no), .op 7 ⟨none, some 98, .mov (.t 8)⟩ false (.no), .op 8 ⟨none, some 99, .call false (.f 104) [.t 97, .t 98]⟩ false (.sh (.tup []))] [0, 1, 4, 5, 6, 7, 8, 9, 10, 11, 12, 13, 45, 88])) (.skip))) (.ops [.op 0 ⟨none, some 100, .mov (.t 10)⟩ false (.no), .op 1 ⟨none, some 101, .mov (.t 11)⟩ false (.no), .op 2 ⟨none, some 102, .mov (.t 12)⟩ false (.no), .op 3 ⟨none, some 103, .ia 1 (.t 100) (.t 101)⟩ false (.no), .op 4 ⟨none, none, .sth 1 (.t 103) (.t 102)⟩ false (.sh (.one .val))] [0, 1, 4, 5, 6, 7, 8, 9, 10, 11, 12, 13, 45, 88])))) (.ops [.op 0 ⟨none, some 46, .mov (.t 11)⟩ false (.no), .op 1 ⟨none, some 47, .bin .sub (.t 46) (.i .i64 1)⟩ false (.sh (.one .val)), .op 2 ⟨none, some 11, .mov (.t 47)⟩ false (.no)] [0, 1, 4, 5, 6, 7, 8, 9, 10, 11, 12, 13, 45, 88])))))) (.seq (.ops [.op 0 ⟨none, some 105, .mov (.t 9)⟩ false (.no), .op 1 ⟨none, some 106, .mov (.t 6)⟩ false (.no), .op 2 ⟨none, some 107, .sl 1 (.t 105) none (some (.t 106)) none⟩ false (.no), .op 3 ⟨none, some 108, .mov (.t 7)⟩ false (.no), .op 4 ⟨none, some 109, .cv .i64 (.t 108)⟩ false (.sh (.one .val)), .op 5 ⟨none, some 110, .call false (.f 105) [.t 107, .t 109]⟩ false (.sh (.tup [(none, .slice), (none, .int .i64)])), .op 6 ⟨none, some 104, .mov (.t 110)⟩ false (.no), .op 7 ⟨none, some 111, .ext (.t 104) 0⟩ false (.no), .op 8 ⟨none, some 112, .ext (.t 104) 1⟩ false (.no), .op 9 ⟨none, some 13, .mov (.t 111)⟩ false (.no), .op 10 ⟨none, some 14, .mov (.t 112)⟩ false (.no)] [0, 1, 4, 5, 6, 7, 8, 9, 10, 11, 12, 13, 45, 88]) (.seq (.ops [.op 0 ⟨none, some 113, .mov (.t 10)⟩ false (.no), .op 1 ⟨none, some 114, .call false (.f 35) [.t 113]⟩ false (.sh (.one (.slice))), .op 2 ⟨none, some 115, .mov (.t 13)⟩ false (.no), .op 3 ⟨none, some 4, .mov (.t 114)⟩ false (.no), .op 4 ⟨none, some 5, .mov (.t 115)⟩ false (.no)] [0, 1, 4, 5, 6, 7, 8, 9, 10, 11, 12, 13, 45, 88]) (.ret)))))))))
def v_divnat_long (x0 : Sl) (x1 : Sl) (h : Hp) (R : Value → Hp → Prop) : Prop :=
  ∀ x19 : Int, x19 = IntKind.i64.wrap ((x1.n : Int) - 1) →
  0 ≤ x19 ∧ x19 < (x1.n : Int) ∧ x1.a.isSome = true ∧
  ∃ x21 : Int, hld h (elemA x1.a x19 1) none = some (.int .u64 x21) ∧
  Tri Try.prog (.func (.func 100) #[] #[]) [.int .u64 x21] h fun r h1 => ∃ x22 : Int, r = .int .i64 x22 ∧
  ∀ x23 : Int, x23 = IntKind.u64.wrap x22 →
  Tri Try.prog (.func (.func 101) #[] #[]) [x1.v, .int .u64 x23, .int .i64 (x1.n : Int)] h1 fun r1 h2 => ∃ x27 : Sl, r1 = x27.v ∧
  ∀ x32 : Int, x32 = IntKind.i64.wrap ((x0.n : Int) + 1) →
  Tri Try.prog (.func (.func 101) #[] #[]) [x0.v, .int .u64 x23, .int .i64 x32] h2 fun r2 h3 => ∃ x33 : Sl, r2 = x33.v ∧
  ∀ x37 : Int, x37 = IntKind.i64.wrap ((x0.n : Int) - (x1.n : Int)) →
  ∀ x38 : Int, x38 = IntKind.i64.wrap (x37 + 1) →
  0 ≤ x38 ∧ x38 ≤ x38 ∧ (8 : Nat) * x38 ≤ 281474976710656 ∧ x38 < 9223372036854775808 ∧ ∀ b : Nat, ∀ h4 : Hp, h3 b = none → h4 = h3.up b ⟨mkCells [.int .u64 0] (Int.toNat x38 * 1), true⟩ →
  ∀ x43 : Int, x43 = IntKind.i64.wrap ((x0.n : Int) - (x1.n : Int)) →
  ∃ I : Int → Hp → Prop, ∃ mu : Int → Hp → Nat, I x43 h4 ∧ (∀ x11 : Int, ∀ h5 : Hp, I x11 h5 →
    ((decide (0 ≤ x11)) = true →
      ∀ x51 : Int, x51 = IntKind.i64.wrap (x11 + (x1.n : Int)) →
      0 ≤ x51 ∧ x51 < (x33.n : Int) ∧ x33.a.isSome = true ∧
      ∀ x57 : Int, x57 = IntKind.i64.wrap (x11 + (x1.n : Int)) →
      ∀ x58 : Int, x58 = IntKind.i64.wrap (x57 - 1) →
      0 ≤ x58 ∧ x58 < (x33.n : Int) ∧ x33.a.isSome = true ∧
      ∀ x64 : Int, x64 = IntKind.i64.wrap (x11 + (x1.n : Int)) →
      ∀ x65 : Int, x65 = IntKind.i64.wrap (x64 - 2) →
      0 ≤ x65 ∧ x65 < (x33.n : Int) ∧ x33.a.isSome = true ∧
      ∀ x70 : Int, x70 = IntKind.i64.wrap ((x1.n : Int) - 1) →
      0 ≤ x70 ∧ x70 < (x27.n : Int) ∧ x27.a.isSome = true ∧
      ∀ x75 : Int, x75 = IntKind.i64.wrap ((x1.n : Int) - 2) →
      0 ≤ x75 ∧ x75 < (x27.n : Int) ∧ x27.a.isSome = true ∧
      ∃ x53 : Int, hld h5 (elemA x33.a x51 1) none = some (.int .u64 x53) ∧
      ∃ x60 : Int, hld h5 (elemA x33.a x58 1) none = some (.int .u64 x60) ∧
      ∃ x67 : Int, hld h5 (elemA x33.a x65 1) none = some (.int .u64 x67) ∧
      ∃ x72 : Int, hld h5 (elemA x27.a x70 1) none = some (.int .u64 x72) ∧
      ∃ x77 : Int, hld h5 (elemA x27.a x75 1) none = some (.int .u64 x77) ∧
      Tri Try.prog (.func (.func 102) #[] #[]) [.int .u64 x53, .int .u64 x60, .int .u64 x67, .int .u64 x72, .int .u64 x77] h5 fun r3 h6 => ∃ x78 : Int, r3 = .int .u64 x78 ∧
      ∀ J : Int → Hp → Prop, (∀ x12 : Int, ∀ h7 : Hp, (
        0 ≤ x11 ∧ x11 < (Int.toNat x38 : Int) ∧ (some (blkA b)).isSome = true ∧
        ∃ h8 : Hp, hst h7 (elemA (some (blkA b)) x11 1) [.int .u64 x12] = some h8 ∧
        ∀ x47 : Int, x47 = IntKind.i64.wrap (x11 - 1) →
        I x47 h8 ∧ mu x47 h8 < mu x11 h5
      ) → J x12 h7) →
      ∀ x83 : Int, x83 = IntKind.i64.wrap (x11 + (x1.n : Int)) →
      ∀ x84 : Int, x84 = IntKind.i64.wrap (x83 + 1) →
      0 ≤ x11 ∧ x11 ≤ x84 ∧ x84 ≤ (x33.c : Int) ∧ (x33.c : Int) ≤ (x33.c : Int) ∧
      Tri Try.prog (.func (.func 103) #[] #[]) [.slice (sliceA x33.a x11 (x33.c : Int) 1) ((x84 - x11).toNat) (((x33.c : Int) - x11).toNat), x27.v, .int .u64 x78] h6 fun r4 h9 => ∃ x88 : Bool, r4 = .bool x88 ∧
      (x88 = true →
        ∀ x90 : Int, x90 = IntKind.u64.wrap (x78 - 1) →
        ∀ x95 : Int, x95 = IntKind.i64.wrap (x11 + (x1.n : Int)) →
        ∀ x96 : Int, x96 = IntKind.i64.wrap (x95 + 1) →
        0 ≤ x11 ∧ x11 ≤ x96 ∧ x96 ≤ (x33.c : Int) ∧ (x33.c : Int) ≤ (x33.c : Int) ∧
        Tri Try.prog (.func (.func 104) #[] #[]) [.slice (sliceA x33.a x11 (x33.c : Int) 1) ((x96 - x11).toNat) (((x33.c : Int) - x11).toNat), x27.v] h9 fun r5 h10 => r5 = .tuple #[] ∧
        J x90 h10
      ) ∧ (x88 = false →
        J x78 h9
      )
    ) ∧ ((decide (0 ≤ x11)) = false →
      0 ≤ (0 : Int) ∧ (0 : Int) ≤ (x1.n : Int) ∧ (x1.n : Int) ≤ (x33.c : Int) ∧ (x33.c : Int) ≤ (x33.c : Int) ∧
      ∀ x109 : Int, x109 = IntKind.i64.wrap x23 →
      Tri Try.prog (.func (.func 105) #[] #[]) [.slice (sliceA x33.a (0 : Int) (x33.c : Int) 1) (((x1.n : Int) - (0 : Int)).toNat) (((x33.c : Int) - (0 : Int)).toNat), .int .i64 x109] h5 fun r6 h11 => ∃ x110a : Sl, ∃ x110b : Int, r6 = .tuple #[x110a.v, .int .i64 x110b] ∧
      Tri Try.prog (.func (.func 35) #[] #[]) [.slice (some (blkA b)) (Int.toNat x38) (Int.toNat x38)] h11 fun r7 h12 => ∃ x114 : Sl, r7 = x114.v ∧
      R (.tuple #[x114.v, x110a.v]) h12
    )
  )
set_option maxRecDepth 100000 in
theorem t_divnat_long {x0 : Sl} {x1 : Sl} {h : Hp} {R : Value → Hp → Prop} (hv : v_divnat_long x0 x1 h R) : Tri Try.prog (.func (.func 98) #[] #[]) [x0.v, x1.v] h R :=
  tri_of_vc mixed Try.func98 (d := d_divnat_long) (RM := []) (rvs := [.tmp 4, .tmp 5]) (args := [x0.v, x1.v]) (caps := []) (by kernel_rfl) Try.ntmps98 (V := v_divnat_long x0 x1 h R) (by kernel_rfl) (by simp) hv

/- trellis/divnat.Word -/
def d_divnat_Word : Vd :=
  .seq (.ops [.op 0 ⟨none, some 4, .mov (.nil)⟩ false (.no), .op 1 ⟨none, some 5, .mov (.i .u64 0)⟩ false (.no), .op 2 ⟨none, some 6, .mov (.i .i64 0)⟩ false (.no)] [0, 1, 4, 5, 6, 7, 8, 9, 11, 18]) (.seq (.seq (.ops [.op 0 ⟨none, some 10, .mov (.t 1)⟩ false (.no), .op 1 ⟨none, some 11, .bin .eql (.t 10) (.i .u64 0)⟩ false (.sh (.one .val))] [0, 1, 4, 5, 6, 7, 8, 9, 11, 18]) (.cond (.t 11) (.seq (.ops [.op 0 ⟨none, some 4, .mov (.nil)⟩ false (.no), .op 1 ⟨none, some 5, .mov (.i .u64 0)⟩ false (.no), .op 2 ⟨none, some 6, .mov (.i .i64 4)⟩ false (.no)] [0, 1, 4, 5, 6, 7, 8, 9, 11, 18]) (.ret)) (.skip))) (.seq (.ops [.op 0 ⟨none, some 12, .mov (.t 0)⟩ false (.no), .op 1 ⟨none, some 13, .call false (.f 35) [.t 12]⟩ false (.sh (.one (.slice))), .op 2 ⟨none, some 7, .mov (.t 13)⟩ false (.no)] [0, 1, 4, 5, 6, 7, 8, 9, 11, 18]) (.seq (.ops [.op 0 ⟨none, some 8, .mov (.i .u64 0)⟩ false (.no)] [0, 1, 4, 5, 6, 7, 8, 9, 11, 18]) (.seq (.seq (.ops [.op 0 ⟨none, some 14, .mov (.t 7)⟩ false (.no), .op 1 ⟨none, some 15, .len (.t 14)⟩ false (.no), .op 2 ⟨none, some 16, .bin .sub (.t 15) (.i .i64 1)⟩ false (.sh (.one .val)), .op 3 ⟨none, some 9, .mov (.t 16)⟩ false (.no)] [0, 1, 4, 5, 6, 7, 8, 9, 11, 18]) (.block 0 (.loop ⟨[1, 7], [], []⟩ [.t 8 (.int .u64), .t 9 (.int .i64)] (.seq (.seq (.ops [.op 0 ⟨none, some 17, .mov (.t 9)⟩ false (.no), .op 1 ⟨none, some 18, .bin .geq (.t 17) (.i .i64 0)⟩ false (.sh (.one .val))] [0, 1, 4, 5, 6, 7, 8, 9, 11, 18]) (.cond (.t 18) (.skip) (.exit 0))) (.seq (.block 1 (.ops [.op 0 ⟨none, some 22, .mov (.t 7)⟩ false (.no), .op 1 ⟨none, some 23, .mov (.t 9)⟩ false (.no), .op 2 ⟨none, some 24, .mov (.t 8)⟩ false (.no), .op 3 ⟨none, some 25, .mov (.t 7)⟩ false (.no), .op 4 ⟨none, some 26, .mov (.t 9)⟩ false (.no), .op 5 ⟨none, some 27, .ia 1 (.t 25) (.t 26)⟩ false (.no), .op 6 ⟨none, some 28, .ldh none (.t 27)⟩ false (.sh (.one (.int .u64))), .op 7 ⟨none, some 29, .mov (.t 1)⟩ false (.no), .op 8 ⟨none, some 30, .call false (.f 99) [.t 24, .t 28, .t 29]⟩ false (.sh (.tup [(none, .int .u64), (none, .int .u64)])), .op 9 ⟨none, some 21, .mov (.t 30)⟩ false (.no), .op 10 ⟨none, some 31, .ext (.t 21) 0⟩ false (.no), .op 11 ⟨none, some 32, .ext (.t 21) 1⟩ false (.no), .op 12 ⟨none, some 33, .ia 1 (.t 22) (.t 23)⟩ false (.no), .op 13 ⟨none, none, .sth 1 (.t 33) (.t 31)⟩ false (.sh (.one .val)), .op 14 ⟨none, some 8, .mov (.t 32)⟩ false (.no)] [0, 1, 4, 5, 6, 7, 8, 9, 11, 18])) (.ops [.op 0 ⟨none, some 19, .mov (.t 9)⟩ false (.no), .op 1 ⟨none, some 20, .bin .sub (.t 19) (.i .i64 1)⟩ false (.sh (.one .val)), .op 2 ⟨none, some 9, .mov (.t 20)⟩ false (.no)] [0, 1, 4, 5, 6, 7, 8, 9, 11, 18])))))) (.seq (.ops [.op 0 ⟨none, some 34, .mov (.t 7)⟩ false (.no), .op 1 ⟨none, some 35, .call false (.f 35) [.t 34]⟩ false (.sh (.one (.slice))), .op 2 ⟨none, some 36, .mov (.t 8)⟩ false (.no), .op 3 ⟨none, some 4, .mov (.t 35)⟩ false (.no), .op 4 ⟨none, some 5, .mov (.t 36)⟩ false (.no), .op 5 ⟨none, some 6, .mov (.i .i64 0)⟩ false (.no)] [0, 1, 4, 5, 6, 7, 8, 9, 11, 18]) (.ret))))))
def v_divnat_Word (a : Sl) (w : Int) (h : Hp) (R : Value → Hp → Prop) : Prop :=
  ((decide (w = 0)) = true →
    R (.tuple #[.slice none 0 0, .int .u64 0, .int .i64 4]) h
  ) ∧ ((decide (w = 0)) = false →
    Tri Try.prog (.func (.func 35) #[] #[]) [a.v] h fun r h1 => ∃ x13 : Sl, r = x13.v ∧
    ∀ i : Int, i = IntKind.i64.wrap ((x13.n : Int) - 1) →
    ∃ I : Int → Int → Hp → Prop, ∃ mu : Int → Int → Hp → Nat, I 0 i h1 ∧ (∀ rest : Int, ∀ i1 : Int, ∀ h2 : Hp, I rest i1 h2 →
      ((decide (0 ≤ i1)) = true →
        0 ≤ i1 ∧ i1 < (x13.n : Int) ∧ x13.a.isSome = true ∧
        ∃ x28 : Int, hld h2 (elemA x13.a i1 1) none = some (.int .u64 x28) ∧
        Tri Try.prog (.func (.func 99) #[] #[]) [.int .u64 rest, .int .u64 x28, .int .u64 w] h2 fun r1 h3 => ∃ x30a : Int, ∃ x30b : Int, r1 = .tuple #[.int .u64 x30a, .int .u64 x30b] ∧
        0 ≤ i1 ∧ i1 < (x13.n : Int) ∧ x13.a.isSome = true ∧
        ∃ h4 : Hp, hst h3 (elemA x13.a i1 1) [.int .u64 x30a] = some h4 ∧
        ∀ i2 : Int, i2 = IntKind.i64.wrap (i1 - 1) →
        I x30b i2 h4 ∧ mu x30b i2 h4 < mu rest i1 h2
      ) ∧ ((decide (0 ≤ i1)) = false →
        Tri Try.prog (.func (.func 35) #[] #[]) [x13.v] h2 fun r2 h5 => ∃ x35 : Sl, r2 = x35.v ∧
        R (.tuple #[x35.v, .int .u64 rest, .int .i64 0]) h5
      )
    )
  )
set_option maxRecDepth 100000 in
theorem t_divnat_Word {a : Sl} {w : Int} {h : Hp} {R : Value → Hp → Prop} (hv : v_divnat_Word a w h R) : Tri Try.prog (.func (.func 97) #[] #[]) [a.v, .int .u64 w] h R :=
  tri_of_vc mixed Try.func97 (d := d_divnat_Word) (RM := []) (rvs := [.tmp 4, .tmp 5, .tmp 6]) (args := [a.v, .int .u64 w]) (caps := []) (by kernel_rfl) Try.ntmps97 (V := v_divnat_Word a w h R) (by kernel_rfl) (by simp) hv

/- trellis/divnat.DivMod -/
def d_divnat_DivMod : Vd :=
  .seq (.ops [.op 0 ⟨none, some 4, .mov (.nil)⟩ false (.no), .op 1 ⟨none, some 5, .mov (.nil)⟩ false (.no), .op 2 ⟨none, some 6, .mov (.i .i64 0)⟩ false (.no)] [0, 1, 4, 5, 6, 7, 8, 9, 11, 12, 13, 18, 21, 40]) (.seq (.ops [.op 0 ⟨none, some 14, .mov (.t 1)⟩ false (.no), .op 1 ⟨none, some 15, .call false (.f 35) [.t 14]⟩ false (.sh (.one (.slice))), .op 2 ⟨none, some 7, .mov (.t 15)⟩ false (.no)] [0, 1, 4, 5, 6, 7, 8, 9, 11, 12, 13, 18, 21, 40]) (.seq (.seq (.ops [.op 0 ⟨none, some 16, .mov (.t 7)⟩ false (.no), .op 1 ⟨none, some 17, .len (.t 16)⟩ false (.no), .op 2 ⟨none, some 18, .bin .eql (.t 17) (.i .i64 0)⟩ false (.sh (.one .val))] [0, 1, 4, 5, 6, 7, 8, 9, 11, 12, 13, 18, 21, 40]) (.cond (.t 18) (.seq (.ops [.op 0 ⟨none, some 4, .mov (.nil)⟩ false (.no), .op 1 ⟨none, some 5, .mov (.nil)⟩ false (.no), .op 2 ⟨none, some 6, .mov (.i .i64 4)⟩ false (.no)] [0, 1, 4, 5, 6, 7, 8, 9, 11, 12, 13, 18, 21, 40]) (.ret)) (.skip))) (.seq (.seq (.ops [.op 0 ⟨none, some 19, .mov (.t 7)⟩ false (.no), .op 1 ⟨none, some 20, .len (.t 19)⟩ false (.no), .op 2 ⟨none, some 21, .bin .eql (.t 20) (.i .i64 1)⟩ false (.sh (.one .val))] [0, 1, 4, 5, 6, 7, 8, 9, 11, 12, 13, 18, 21, 40]) (.cond (.t 21) (.seq (.ops [.op 0 ⟨none, some 23, .mov (.t 0)⟩ false (.no), .op 1 ⟨none, some 24, .mov (.t 7)⟩ false (.no), .op 2 ⟨none, some 25, .ia 1 (.t 24) (.i .i64 0)⟩ false (.no), .op 3 ⟨none, some 26, .ldh none (.t 25)⟩ false (.sh (.one (.int .u64))), .op 4 ⟨none, some 27, .call false (.f 97) [.t 23, .t 26]⟩ false (.sh (.tup [(none, .slice), (none, .int .u64), (none, .int .i64)])), .op 5 ⟨none, some 22, .mov (.t 27)⟩ false (.no), .op 6 ⟨none, some 28, .ext (.t 22) 0⟩ false (.no), .op 7 ⟨none, some 29, .ext (.t 22) 1⟩ false (.no), .op 8 ⟨none, some 30, .ext (.t 22) 2⟩ false (.no), .op 9 ⟨none, some 8, .mov (.t 28)⟩ false (.no), .op 10 ⟨none, some 9, .mov (.t 29)⟩ false (.no), .op 11 ⟨none, some 10, .mov (.t 30)⟩ false (.no)] [0, 1, 4, 5, 6, 7, 8, 9, 11, 12, 13, 18, 21, 40]) (.seq (.ops [.op 0 ⟨none, some 31, .mov (.t 8)⟩ false (.no), .op 1 ⟨none, some 32, .mov (.t 9)⟩ false (.no), .op 2 ⟨none, some 33, .bs [.i .u64 0] 1 1 [(0, .t 32)]⟩ false (.sh (.one .val)), .op 3 ⟨none, some 34, .call false (.f 35) [.t 33]⟩ false (.sh (.one (.slice))), .op 4 ⟨none, some 4, .mov (.t 31)⟩ false (.no), .op 5 ⟨none, some 5, .mov (.t 34)⟩ false (.no), .op 6 ⟨none, some 6, .mov (.i .i64 0)⟩ false (.no)] [0, 1, 4, 5, 6, 7, 8, 9, 11, 12, 13, 18, 21, 40]) (.ret))) (.skip))) (.seq (.ops [.op 0 ⟨none, some 35, .mov (.t 0)⟩ false (.no), .op 1 ⟨none, some 36, .call false (.f 35) [.t 35]⟩ false (.sh (.one (.slice))), .op 2 ⟨none, some 11, .mov (.t 36)⟩ false (.no)] [0, 1, 4, 5, 6, 7, 8, 9, 11, 12, 13, 18, 21, 40]) (.seq (.seq (.ops [.op 0 ⟨none, some 37, .mov (.t 11)⟩ false (.no), .op 1 ⟨none, some 38, .mov (.t 7)⟩ false (.no), .op 2 ⟨none, some 39, .call false (.f 53) [.t 37, .t 38]⟩ false (.sh (.one (.int .i64))), .op 3 ⟨none, some 40, .bin .lss (.t 39) (.i .i64 0)⟩ false (.sh (.one .val))] [0, 1, 4, 5, 6, 7, 8, 9, 11, 12, 13, 18, 21, 40]) (.cond (.t 40) (.seq (.ops [.op 0 ⟨none, some 41, .mov (.t 11)⟩ false (.no), .op 1 ⟨none, some 4, .mov (.nil)⟩ false (.no), .op 2 ⟨none, some 5, .mov (.t 41)⟩ false (.no), .op 3 ⟨none, some 6, .mov (.i .i64 0)⟩ false (.no)] [0, 1, 4, 5, 6, 7, 8, 9, 11, 12, 13, 18, 21, 40]) (.ret)) (.skip))) (.seq (.ops [.op 0 ⟨none, some 43, .mov (.t 11)⟩ false (.no), .op 1 ⟨none, some 44, .mov (.t 7)⟩ false (.no), .op 2 ⟨none, some 45, .call false (.f 98) [.t 43, .t 44]⟩ false (.sh (.tup [(none, .slice), (none, .slice)])), .op 3 ⟨none, some 42, .mov (.t 45)⟩ false (.no), .op 4 ⟨none, some 46, .ext (.t 42) 0⟩ false (.no), .op 5 ⟨none, some 47, .ext (.t 42) 1⟩ false (.no), .op 6 ⟨none, some 12, .mov (.t 46)⟩ false (.no), .op 7 ⟨none, some 13, .mov (.t 47)⟩ false (.no)] [0, 1, 4, 5, 6, 7, 8, 9, 11, 12, 13, 18, 21, 40]) (.seq (.ops [.op 0 ⟨none, some 48, .mov (.t 12)⟩ false (.no), .op 1 ⟨none, some 49, .mov (.t 13)⟩ false (.no), .op 2 ⟨none, some 4, .mov (.t 48)⟩ false (.no), .op 3 ⟨none, some 5, .mov (.t 49)⟩ false (.no), .op 4 ⟨none, some 6, .mov (.i .i64 0)⟩ false (.no)] [0, 1, 4, 5, 6, 7, 8, 9, 11, 12, 13, 18, 21, 40]) (.ret))))))))
def v_divnat_DivMod (a : Sl) (b : Sl) (h : Hp) (R : Value → Hp → Prop) : Prop :=
  Tri Try.prog (.func (.func 35) #[] #[]) [b.v] h fun r h1 => ∃ x15 : Sl, r = x15.v ∧
  ((decide ((x15.n : Int) = 0)) = true →
    R (.tuple #[.slice none 0 0, .slice none 0 0, .int .i64 4]) h1
  ) ∧ ((decide ((x15.n : Int) = 0)) = false →
    ((decide ((x15.n : Int) = 1)) = true →
      0 ≤ (0 : Int) ∧ (0 : Int) < (x15.n : Int) ∧ x15.a.isSome = true ∧
      ∃ x26 : Int, hld h1 (elemA x15.a 0 1) none = some (.int .u64 x26) ∧
      Tri Try.prog (.func (.func 97) #[] #[]) [a.v, .int .u64 x26] h1 fun r1 h2 => ∃ x27a : Sl, ∃ x27b : Int, ∃ x27c : Int, r1 = .tuple #[x27a.v, .int .u64 x27b, .int .i64 x27c] ∧
      ∀ b1 : Nat, ∀ h3 : Hp, h2 b1 = none → h3 = h2.up b1 ⟨[.int .u64 x27b], true⟩ →
      Tri Try.prog (.func (.func 35) #[] #[]) [.slice (some (blkA b1)) 1 1] h3 fun r2 h4 => ∃ x34 : Sl, r2 = x34.v ∧
      R (.tuple #[x27a.v, x34.v, .int .i64 0]) h4
    ) ∧ ((decide ((x15.n : Int) = 1)) = false →
      Tri Try.prog (.func (.func 35) #[] #[]) [a.v] h1 fun r3 h5 => ∃ x36 : Sl, r3 = x36.v ∧
      Tri Try.prog (.func (.func 53) #[] #[]) [x36.v, x15.v] h5 fun r4 h6 => ∃ x39 : Int, r4 = .int .i64 x39 ∧
      ((decide (x39 < 0)) = true →
        R (.tuple #[.slice none 0 0, x36.v, .int .i64 0]) h6
      ) ∧ ((decide (x39 < 0)) = false →
        Tri Try.prog (.func (.func 98) #[] #[]) [x36.v, x15.v] h6 fun r5 h7 => ∃ x45a : Sl, ∃ x45b : Sl, r5 = .tuple #[x45a.v, x45b.v] ∧
        R (.tuple #[x45a.v, x45b.v, .int .i64 0]) h7
      )
    )
  )
set_option maxRecDepth 100000 in
theorem t_divnat_DivMod {a : Sl} {b : Sl} {h : Hp} {R : Value → Hp → Prop} (hv : v_divnat_DivMod a b h R) : Tri Try.prog (.func (.func 89) #[] #[]) [a.v, b.v] h R :=
  tri_of_vc mixed Try.func89 (d := d_divnat_DivMod) (RM := []) (rvs := [.tmp 4, .tmp 5, .tmp 6]) (args := [a.v, b.v]) (caps := []) (by kernel_rfl) Try.ntmps89 (V := v_divnat_DivMod a b h R) (by kernel_rfl) (by simp) hv

/- trellis/divnat.Exact -/
def d_divnat_Exact : Vd :=
  .seq (.ops [.op 0 ⟨none, some 4, .mov (.nil)⟩ false (.no), .op 1 ⟨none, some 5, .mov (.i .i64 0)⟩ false (.no)] [0, 1, 4, 5, 6, 7, 8, 17, 21]) (.seq (.ops [.op 0 ⟨none, some 10, .mov (.t 0)⟩ false (.no), .op 1 ⟨none, some 11, .mov (.t 1)⟩ false (.no), .op 2 ⟨none, some 12, .call false (.f 89) [.t 10, .t 11]⟩ false (.sh (.tup [(none, .slice), (none, .slice), (none, .int .i64)])), .op 3 ⟨none, some 9, .mov (.t 12)⟩ false (.no), .op 4 ⟨none, some 13, .ext (.t 9) 0⟩ false (.no), .op 5 ⟨none, some 14, .ext (.t 9) 1⟩ false (.no), .op 6 ⟨none, some 15, .ext (.t 9) 2⟩ false (.no), .op 7 ⟨none, some 6, .mov (.t 13)⟩ false (.no), .op 8 ⟨none, some 7, .mov (.t 14)⟩ false (.no), .op 9 ⟨none, some 8, .mov (.t 15)⟩ false (.no)] [0, 1, 4, 5, 6, 7, 8, 17, 21]) (.seq (.seq (.ops [.op 0 ⟨none, some 16, .mov (.t 8)⟩ false (.no), .op 1 ⟨none, some 17, .bin .neq (.t 16) (.i .i64 0)⟩ false (.sh (.one .val))] [0, 1, 4, 5, 6, 7, 8, 17, 21]) (.cond (.t 17) (.seq (.ops [.op 0 ⟨none, some 18, .mov (.t 8)⟩ false (.no), .op 1 ⟨none, some 4, .mov (.nil)⟩ false (.no), .op 2 ⟨none, some 5, .mov (.t 18)⟩ false (.no)] [0, 1, 4, 5, 6, 7, 8, 17, 21]) (.ret)) (.skip))) (.seq (.seq (.ops [.op 0 ⟨none, some 19, .mov (.t 7)⟩ false (.no), .op 1 ⟨none, some 20, .len (.t 19)⟩ false (.no), .op 2 ⟨none, some 21, .bin .gtr (.t 20) (.i .i64 0)⟩ false (.sh (.one .val))] [0, 1, 4, 5, 6, 7, 8, 17, 21]) (.cond (.t 21) (.seq (.ops [.op 0 ⟨none, some 4, .mov (.nil)⟩ false (.no), .op 1 ⟨none, some 5, .mov (.i .i64 8)⟩ false (.no)] [0, 1, 4, 5, 6, 7, 8, 17, 21]) (.ret)) (.skip))) (.seq (.ops [.op 0 ⟨none, some 22, .mov (.t 6)⟩ false (.no), .op 1 ⟨none, some 4, .mov (.t 22)⟩ false (.no), .op 2 ⟨none, some 5, .mov (.i .i64 0)⟩ false (.no)] [0, 1, 4, 5, 6, 7, 8, 17, 21]) (.ret)))))
def v_divnat_Exact (a : Sl) (b : Sl) (h : Hp) (R : Value → Hp → Prop) : Prop :=
  Tri Try.prog (.func (.func 89) #[] #[]) [a.v, b.v] h fun r h1 => ∃ x12a : Sl, ∃ x12b : Sl, ∃ x12c : Int, r = .tuple #[x12a.v, x12b.v, .int .i64 x12c] ∧
  ((!decide (x12c = 0)) = true →
    R (.tuple #[.slice none 0 0, .int .i64 x12c]) h1
  ) ∧ ((!decide (x12c = 0)) = false →
    ((decide (0 < (x12b.n : Int))) = true →
      R (.tuple #[.slice none 0 0, .int .i64 8]) h1
    ) ∧ ((decide (0 < (x12b.n : Int))) = false →
      R (.tuple #[x12a.v, .int .i64 0]) h1
    )
  )
set_option maxRecDepth 100000 in
theorem t_divnat_Exact {a : Sl} {b : Sl} {h : Hp} {R : Value → Hp → Prop} (hv : v_divnat_Exact a b h R) : Tri Try.prog (.func (.func 74) #[] #[]) [a.v, b.v] h R :=
  tri_of_vc mixed Try.func74 (d := d_divnat_Exact) (RM := []) (rvs := [.tmp 4, .tmp 5]) (args := [a.v, b.v]) (caps := []) (by kernel_rfl) Try.ntmps74 (V := v_divnat_Exact a b h R) (by kernel_rfl) (by simp) hv

end Go.Proofs.Ytmfafadchpglgaa

/- Words: shifts, and, or; bits.LeadingZeros64; nat.BitLen, nat.Shr; divnat.shifted. -/
namespace Go.Proofs.Ytmfafadchpglgaa
set_option maxRecDepth 20000

theorem Tri.const {P : Env} {fv : Value} {args : List Value} {h : Hp} {v : Value} {R : Value → Hp → Prop} (t : Tri P fv args h fun u h' => h' = h ∧ u = v) (hr : R v h) : Tri P fv args h R :=
  t.mono fun _ _ ⟨e, e'⟩ => by rw [e, e']; exact hr

theorem pow_min {s : Nat} (hs : s ≤ 64) : (2 : Int) ^ (min (Int.toNat (s : Int)) IntKind.u64.bits) = ((2 ^ s : Nat) : Int) := by
  have h1 : IntKind.u64.bits = 64 := rfl
  rw [h1, Int.toNat_natCast, Nat.min_eq_left hs]
  simp
theorem shl64 (a s : Nat) (hs : s ≤ 64) : IntKind.u64.wrap ((a : Int) * 2 ^ (min (Int.toNat (s : Int)) IntKind.u64.bits)) = ((a * 2 ^ s % B : Nat) : Int) := by
  rw [pow_min hs, ← Int.natCast_mul, wrapM]
theorem shr64 (a s : Nat) (hs : s ≤ 64) : Int.fdiv (a : Int) (2 ^ (min (Int.toNat (s : Int)) IntKind.u64.bits)) = ((a / 2 ^ s : Nat) : Int) := by
  rw [pow_min hs, Int.fdiv_eq_ediv_of_nonneg _ (Int.natCast_nonneg _)]
  simp
theorem or64 {a b c s : Nat} (ha : a = 2 ^ s * c) (hb : b < 2 ^ s) (h : a + b < B) : IntKind.u64.wrap (((BitVec.ofInt IntKind.u64.bits (a : Int) ||| BitVec.ofInt IntKind.u64.bits (b : Int)).toNat : Int)) = ((a + b : Nat) : Int) := by
  have hB : B = 18446744073709551616 := rfl
  have h1 : IntKind.u64.bits = 64 := rfl
  rw [h1, BitVec.ofInt_natCast, BitVec.ofInt_natCast, BitVec.toNat_or, BitVec.toNat_ofNat, BitVec.toNat_ofNat, Nat.mod_eq_of_lt (by omega), Nat.mod_eq_of_lt (by omega)]
  have : a ||| b = a + b := by rw [ha]; exact (Nat.two_pow_add_eq_or_of_lt hb c).symm
  rw [this, u64w (by omega) (by omega)]

theorem bitLen_spec : ∀ (x : Nat), 0 < x → x < 2 ^ 64 → 0 < Lib.bitLen x ∧ Lib.bitLen x ≤ 64 ∧ 2 ^ (Lib.bitLen x - 1) ≤ x ∧ x < 2 ^ Lib.bitLen x := by
  intro x
  induction x using Nat.strongRecOn with
  | _ x ih =>
    intro h0 h1
    have he := Lib.bitLen_half x (by omega) h1
    have hle := Lib.bitLen_le x 64 (by omega) h1
    rcases Nat.lt_or_ge x 2 with h | h
    · have : x = 1 := by omega
      subst this
      decide
    · obtain ⟨a, b, c, d⟩ := ih (x / 2) (by omega) (by omega) (by omega)
      refine ⟨by omega, hle, ?_, ?_⟩
      · rw [he, show 1 + Lib.bitLen (x / 2) - 1 = (Lib.bitLen (x / 2) - 1) + 1 by omega, Nat.pow_succ]; omega
      · rw [he, Nat.add_comm, Nat.pow_succ]; omega

/-- How many leading zeros a word has. -/
def lz (x : Nat) : Nat := 64 - Lib.bitLen x

theorem lz_spec {x : Nat} (h0 : 0 < x) (h1 : x < B) : lz x < 64 ∧ x * 2 ^ lz x < B ∧ B / 2 ≤ x * 2 ^ lz x := by
  obtain ⟨a, b, c, d⟩ := bitLen_spec x h0 h1
  have e1 : 2 ^ Lib.bitLen x * 2 ^ lz x = B := by rw [← Nat.pow_add, show Lib.bitLen x + lz x = 64 by unfold lz; omega]
  have e2 : 2 ^ (Lib.bitLen x - 1) * 2 ^ lz x = B / 2 := by rw [← Nat.pow_add, show Lib.bitLen x - 1 + lz x = 63 by unfold lz; omega]; decide
  have hp : 0 < 2 ^ lz x := Nat.pow_pos (by decide)
  refine ⟨by unfold lz; omega, ?_, ?_⟩
  · rw [← e1]; exact (Nat.mul_lt_mul_right hp).2 d
  · rw [← e2]; exact Nat.mul_le_mul_right _ c

theorem bits_LeadingZeros64 (x : Nat) (hx : x < B) {h : Hp} : Tri Try.prog (.func (.func 100) #[] #[]) [.int .u64 x] h fun v h' => h' = h ∧ v = .int .i64 (lz x : Nat) := by
  refine t_math_bits_LeadingZeros64 ((bits_Len64 x hx).mono ?_)
  rintro _ _ ⟨rfl, rfl⟩
  refine ⟨_, rfl, fun x5 e => ⟨rfl, ?_⟩⟩
  have := Lib.bitLen_le x 64 (by omega) hx
  rw [i64w (by omega) (by omega)] at e
  rw [e]; unfold lz; congr 1; omega

/-- How many binary digits. -/
def blen (x : Nat) : Nat := if x = 0 then 0 else 64 * (wl x - 1) + Lib.bitLen ((wd x).getD (wl x - 1) 0)

theorem blen_zero {x : Nat} : blen x = 0 ↔ x = 0 := by
  unfold blen
  split
  · simp [*]
  · rename_i h
    have hw : 0 < wl x := by
      rcases Nat.eq_zero_or_pos (wl x) with h0 | h0
      · exfalso; apply h; have := wl_lt x; rw [h0, Nat.pow_zero] at this; omega
      · exact h0
    have ht := sz_top (wd x) (by rw [sz_wd]; exact hw)
    rw [sz_wd] at ht
    have hlt : (wd x).getD (wl x - 1) 0 < B := by
      have hl : wl x - 1 < (wd x).length := by unfold wl at *; omega
      simp only [List.getD, List.getElem?_eq_getElem hl, Option.getD_some]
      exact wd_lt x _ (List.getElem_mem hl)
    have := bitLen_spec ((wd x).getD (wl x - 1) 0) (Nat.pos_of_ne_zero ht) hlt
    omega

theorem nat_BitLen {h : Hp} {a : Sl} {ws : List Nat} (g : Ws h a ws) (hl : ws.length < 1099511627776) : Tri Try.prog (.func (.func 28) #[] #[]) [a.v] h fun v h' => h' = h ∧ v = .int .i64 (blen (vl ws) : Nat) := by
  have hB : B = 18446744073709551616 := rfl
  refine t_nat_BitLen ((nat_size g (by omega)).mono ?_)
  rintro _ h1 ⟨rfl, rfl⟩
  have hs := sz_le ws
  refine ⟨_, rfl, fun hc => ?_, fun hc => ?_⟩
  · simp only [decide_eq_true_eq] at hc
    have h0 : sz ws = 0 := by omega
    exact ⟨rfl, by rw [sz_eq_zero.1 h0]; rfl⟩
  · simp only [decide_eq_false_iff_not] at hc
    intro x9 e9 x10 e10 x13 e13
    rw [i64w (by omega) (by omega)] at e9
    subst e9
    rw [i64w (by omega) (by omega)] at e10 e13
    subst e10 e13
    have hlt := g.getD_lt (sz ws - 1)
    refine ⟨by omega, by rw [g.len]; omega, g.isS (by omega), _, g.ld (by omega) (by omega), ?_⟩
    have e1 : ((sz ws : Int) - 1).toNat = sz ws - 1 := by omega
    rw [e1]
    refine (bits_Len64 _ hlt).mono ?_
    rintro _ _ ⟨rfl, rfl⟩
    have hbl := Lib.bitLen_le (ws.getD (sz ws - 1) 0) 64 (by omega) hlt
    refine ⟨_, rfl, fun x17 e17 => ⟨rfl, ?_⟩⟩
    rw [i64w (by omega) (by omega)] at e17
    rw [e17]
    have hv : vl ws ≠ 0 := fun h => hc (by rw [sz_eq_zero.2 h]; rfl)
    unfold blen
    rw [if_neg hv, ← sz_eq_wl g.lt, ← take_sz g.lt]
    have : (ws.take (sz ws)).getD (sz ws - 1) 0 = ws.getD (sz ws - 1) 0 := by
      have hlt : sz ws - 1 < sz ws := by omega
      simp [List.getD, List.getElem?_take, hlt]
    rw [this]
    congr 1
    omega

/-! ## Words shifted -/

theorem vl_shift_step {s w c : Nat} (hs : s < 64) (hw : w < B) (hc : c < 2 ^ s) : w * 2 ^ s % B + c < B ∧ w / 2 ^ (64 - s) < 2 ^ s ∧ (w * 2 ^ s % B + c) + B * (w / 2 ^ (64 - s)) = w * 2 ^ s + c ∧ w * 2 ^ s % B = 2 ^ s * (w % 2 ^ (64 - s)) := by
  have e : B = 2 ^ (64 - s) * 2 ^ s := by rw [← Nat.pow_add, show 64 - s + s = 64 by omega]
  have hp : 0 < 2 ^ s := Nat.pow_pos (by decide)
  have h1 : w * 2 ^ s % B = (w % 2 ^ (64 - s)) * 2 ^ s := by rw [e, Nat.mul_mod_mul_right]
  have h2 := Nat.div_add_mod w (2 ^ (64 - s))
  have h3 : w % 2 ^ (64 - s) < 2 ^ (64 - s) := Nat.mod_lt _ (Nat.pow_pos (by decide))
  have h4 : (w % 2 ^ (64 - s) + 1) * 2 ^ s ≤ 2 ^ (64 - s) * 2 ^ s := Nat.mul_le_mul_right _ h3
  rw [Nat.add_mul, Nat.one_mul] at h4
  refine ⟨by rw [h1, e]; omega, ?_, ?_, by rw [h1, Nat.mul_comm]⟩
  · apply Nat.div_lt_of_lt_mul; rw [← e]; exact hw
  · rw [h1, e]
    have h5 : w * 2 ^ s = (2 ^ (64 - s) * (w / 2 ^ (64 - s)) + w % 2 ^ (64 - s)) * 2 ^ s := by rw [h2]
    rw [h5, Nat.add_mul]
    have h6 : 2 ^ (64 - s) * 2 ^ s * (w / 2 ^ (64 - s)) = 2 ^ (64 - s) * (w / 2 ^ (64 - s)) * 2 ^ s := by
      rw [Nat.mul_assoc, Nat.mul_comm (2 ^ s), ← Nat.mul_assoc]
    omega

theorem divnat_shifted {h : Hp} {l : Sl} {ws : List Nat} (g : Ws h l ws) {s n : Nat} (hs : s < 64) (hn : n < 1099511627776) (hl : ws.length ≤ n) (hf : vl ws * 2 ^ s < B ^ n) :
    Tri Try.prog (.func (.func 101) #[] #[]) [l.v, .int .u64 (s : Nat), .int .i64 (n : Nat)] h
      fun v h' => h.le h' ∧ ∃ (k : Nat) (zs : List Nat), v = Sl.v ⟨some (blkA k), n, n⟩ ∧ h k = none ∧ h' = h.up k ⟨zs.map uw, true⟩ ∧ zs.length = n ∧ (∀ w ∈ zs, w < B) ∧ vl zs = vl ws * 2 ^ s := by
  have hB : B = 18446744073709551616 := rfl
  refine t_divnat_shifted ⟨by omega, by omega, by omega, by omega, ?_⟩
  rintro k h1 hk rfl
  rw [Int.toNat_natCast, mkZ]
  have hle : ∀ x, h.le (h.up k x) := fun x => Hp.le_up _ hk
  refine ⟨fun carry i h2 => ∃ (zs : List Nat) (c : Nat), i = zs.length ∧ zs.length ≤ n ∧ carry = c ∧ c < 2 ^ s ∧ h2 = h.up k ⟨(zs ++ List.replicate (n - zs.length) 0).map uw, true⟩ ∧ (∀ z ∈ zs, z < B) ∧
    vl zs + B ^ zs.length * c = vl (ws.take zs.length) * 2 ^ s, fun _ i _ => n - i.toNat, ⟨[], 0, rfl, by simp, rfl, Nat.pow_pos (by decide), by simp, by simp, by simp [vl]⟩, ?_⟩
  rintro _ _ h2 ⟨zs, c, rfl, hz, rfl, hc, rfl, hlt, hv⟩
  refine ⟨fun hi => ?_, fun hi => ?_⟩
  · simp only [decide_eq_true_eq] at hi
    have hi' : zs.length < n := by omega
    obtain ⟨m, hm⟩ : ∃ m, n - zs.length = m + 1 := ⟨n - zs.length - 1, by omega⟩
    intro J hJ J1 hJ1
    have hw := g.getD_lt zs.length
    have hw64 : ws.getD zs.length 0 < 18446744073709551616 := hw
    obtain ⟨s1, s2, s3, s4⟩ := vl_shift_step hs hw hc
    have fin : ∀ c', c' = ws.getD zs.length 0 / 2 ^ (64 - s) → ∀ c2 : Int, c2 = (c' : Nat) → J c2 (h.up k ⟨((zs ++ [ws.getD zs.length 0 * 2 ^ s % B + c]) ++ List.replicate m 0).map uw, true⟩) := by
      rintro c' rfl _ rfl
      refine hJ _ _ fun x40 e => ?_
      rw [i64w (by omega) (by omega)] at e
      subst e
      refine ⟨⟨zs ++ [ws.getD zs.length 0 * 2 ^ s % B + c], _, by simp, by simp; omega, rfl, s2, ?_, ?_, ?_⟩, by dsimp only; omega⟩
      · rw [List.length_append, List.length_singleton, show n - (zs.length + 1) = m by omega]
      · intro z hz'
        rw [List.mem_append, List.mem_singleton] at hz'
        rcases hz' with h | rfl
        · exact hlt z h
        · exact s1
      · rw [vl_snoc, List.length_append, List.length_singleton, vl_take_succ, Nat.add_mul, ← hv, Nat.pow_succ, Nat.mul_assoc (B ^ zs.length), Nat.mul_assoc (B ^ zs.length)]
        have := congrArg (B ^ zs.length * ·) s3
        simp only [Nat.mul_add] at this ⊢
        omega
    have go : ∀ w : Int, w = (ws.getD zs.length 0 : Nat) → J1 w (h.up k ⟨(zs ++ List.replicate (n - zs.length) 0).map uw, true⟩) := by
      rintro _ rfl
      refine hJ1 _ _ ⟨by omega, fun x30 e30 => ?_⟩
      rw [shl64 _ _ (by omega)] at e30
      subst e30
      intro x32 e32
      rw [or64 s4 hc s1] at e32
      subst e32
      refine ⟨by omega, by omega, rfl, _, hst_word (up_get _ _ _) (by omega) (by simp; omega), ?_⟩
      rw [Hp.up_up, Int.toNat_natCast, hm, set_fill]
      refine ⟨fun hp => ?_, fun hp => ?_⟩
      · intro x38 e38
        simp only [decide_eq_true_eq] at hp
        rw [u64w (by omega) (by omega)] at e38
        have e38' : x38 = ((64 - s : Nat) : Int) := by omega
        subst e38'
        refine ⟨by omega, fun c2 ec => ?_⟩
        rw [shr64 _ _ (by omega)] at ec
        exact fin _ rfl _ ec
      · simp only [decide_eq_false_iff_not] at hp
        refine fin 0 ?_ 0 rfl
        have : s = 0 := by omega
        subst this
        exact (Nat.div_eq_of_lt hw).symm
    refine ⟨fun hm => ?_, fun hm => ?_⟩
    · simp only [decide_eq_true_eq] at hm
      have hmw : zs.length < ws.length := by rw [g.len] at hm; omega
      exact ⟨by omega, by rw [g.len]; omega, g.isS (by omega), _, (g.le (hle _)).ld (by omega) (by omega), go _ rfl⟩
    · simp only [decide_eq_false_iff_not] at hm
      have hmw : ws.length ≤ zs.length := by rw [g.len] at hm; omega
      exact go 0 (by simp [List.getD, List.getElem?_eq_none hmw])
  · simp only [decide_eq_false_iff_not] at hi
    have hzn : zs.length = n := by omega
    rw [hzn, Nat.sub_self, List.replicate_zero, List.append_nil]
    refine ⟨hle _, k, zs, rfl, hk, rfl, hzn, hlt, ?_⟩
    rw [hzn, List.take_of_length_le hl] at hv
    have hz0 := vl_lt hlt
    have : c = 0 := by
      rcases Nat.eq_zero_or_pos c with h | h
      · exact h
      · have : B ^ n * 1 ≤ B ^ n * c := Nat.mul_le_mul_left _ h
        omega
    subst this
    omega

end Go.Proofs.Ytmfafadchpglgaa

/- nat.Shr; bits.Div64. -/
namespace Go.Proofs.Ytmfafadchpglgaa
set_option maxRecDepth 20000

theorem or64' {a b c s : Nat} (ha : a = 2 ^ s * c) (hb : b < 2 ^ s) (h : a + b < B) : IntKind.u64.wrap (((BitVec.ofInt IntKind.u64.bits (b : Int) ||| BitVec.ofInt IntKind.u64.bits (a : Int)).toNat : Int)) = ((b + a : Nat) : Int) := by
  rw [BitVec.or_comm, or64 ha hb h, Nat.add_comm]

theorem shl_low {w s : Nat} (hs : s ≤ 64) : w * 2 ^ s % B = 2 ^ s * (w % 2 ^ (64 - s)) := by
  have e : B = 2 ^ (64 - s) * 2 ^ s := by rw [← Nat.pow_add, show 64 - s + s = 64 by omega]
  rw [e, Nat.mul_mod_mul_right, Nat.mul_comm]

theorem set_snoc {zs rest : List Nat} {x y : Nat} : ((zs ++ [x]) ++ rest).set zs.length y = (zs ++ [y]) ++ rest := by
  rw [List.append_assoc, List.set_append_right _ _ (Nat.le_refl _), Nat.sub_self]; simp

theorem B_pow (m : Nat) : B ^ m = 2 ^ (64 * m) := by rw [Nat.pow_mul]

theorem nat_Shr {h : Hp} {a : Sl} {ws : List Nat} (g : Ws h a ws) (hl : ws.length < 1099511627776) {n : Nat} (hn : n < 1152921504606846976) :
    Tri Try.prog (.func (.func 105) #[] #[]) [a.v, .int .i64 (n : Nat)] h fun v h' => h.le h' ∧ ∃ s : Sl, v = .tuple #[s.v, .int .i64 0] ∧ NatR h h' s (vl ws / 2 ^ n) := by
  have hB : B = 18446744073709551616 := rfl
  refine t_nat_Shr ⟨fun hc => ?_, fun _ => (nat_size g (by omega)).mono ?_⟩
  · simp only [decide_eq_true_eq] at hc; omega
  rintro _ h1 ⟨rfl, rfl⟩
  have hs := sz_le ws
  refine ⟨_, rfl, by decide, fun x16 e16 => ?_⟩
  obtain ⟨q, hq⟩ : ∃ q, q = n / 64 := ⟨_, rfl⟩
  obtain ⟨r, hr⟩ : ∃ r, r = n % 64 := ⟨_, rfl⟩
  have e16' : x16 = (q : Nat) := by
    rw [Int.tdiv_eq_ediv_of_nonneg (by omega), i64w (by omega) (by omega)] at e16; omega
  clear e16
  subst e16'
  refine ⟨by decide, fun x18 e18 => ?_⟩
  have e18' : x18 = (r : Nat) := by
    rw [Int.tmod_eq_emod_of_nonneg (by omega)] at e18; omega
  clear e18
  subst e18'
  intro x19 e19
  rw [u64w (by omega) (by omega)] at e19
  subst e19
  have hn2 : 2 ^ n = B ^ q * 2 ^ r := by rw [B_pow, ← Nat.pow_add]; congr 1; omega
  have hvd : vl ws / 2 ^ n = vl (ws.drop q) / 2 ^ r := by
    rw [hn2, ← Nat.div_div_eq_div_mul]
    congr 1
    rw [vl_split ws q, Nat.add_mul_div_left _ _ (Nat.pow_pos (by decide)), Nat.div_eq_of_lt (vl_take_lt g.lt q), Nat.zero_add]
  have hr64 : r < 64 := by omega
  refine ⟨fun hc => ?_, fun hc => ?_⟩
  · simp only [decide_eq_true_eq] at hc
    refine ⟨Hp.le_refl _, ⟨none, 0, 0⟩, rfl, Or.inl ⟨rfl, ?_⟩⟩
    rw [hvd, vl_drop_sz (by omega), Nat.zero_div, wd_zero]
  · simp only [decide_eq_false_iff_not] at hc
    intro x25 e25
    obtain ⟨m, hm⟩ : ∃ m, m = sz ws - q := ⟨_, rfl⟩
    have e25' : x25 = (m : Nat) := by rw [i64w (by omega) (by omega)] at e25; omega
    clear e25
    subst e25'
    refine ⟨by omega, by omega, by omega, by omega, ?_⟩
    rintro k h2 hk rfl
    rw [Int.toNat_natCast, mkZ]
    have hle : ∀ x, h1.le (h1.up k x) := fun x => Hp.le_up _ hk
    have hdget : ∀ i, (ws.drop q).getD i 0 = ws.getD (q + i) 0 := fun i => by simp [List.getD, List.getElem?_drop]
    refine ⟨fun i h3 => ∃ zs : List Nat, i = zs.length ∧ zs.length ≤ m ∧ h3 = h1.up k ⟨(zs ++ List.replicate (m - zs.length) 0).map uw, true⟩ ∧ (∀ z ∈ zs, z < B) ∧
      2 ^ r * vl zs + ws.getD q 0 % 2 ^ r = vl ((ws.drop q).take zs.length) + B ^ zs.length * (ws.getD (q + zs.length) 0 % 2 ^ r), fun i _ => m - i.toNat, ⟨[], rfl, by simp, by simp, by simp, by simp [vl]⟩, ?_⟩
    rintro _ h3 ⟨zs, rfl, hz, rfl, hlt, hv⟩
    refine ⟨fun hi J hJ => ?_, fun hi => ?_⟩
    · simp only [decide_eq_true_eq] at hi
      have hi' : zs.length < m := by omega
      obtain ⟨p, hp⟩ : ∃ p, m - zs.length = p + 1 := ⟨m - zs.length - 1, by omega⟩
      have w0 := g.getD_lt (q + zs.length)
      have w1 := g.getD_lt (q + zs.length + 1)
      generalize hW0 : ws.getD (q + zs.length) 0 = W0 at *
      have key : ∀ z, z = W0 / 2 ^ r + 2 ^ (64 - r) * (ws.getD (q + zs.length + 1) 0 % 2 ^ r) → J (h1.up k ⟨((zs ++ [z]) ++ List.replicate p 0).map uw, true⟩) := by
        rintro z rfl
        refine hJ _ fun x65 e => ?_
        rw [i64w (by omega) (by omega)] at e
        subst e
        have hpp : 2 ^ (64 - r) * 2 ^ r = B := by rw [← Nat.pow_add, show 64 - r + r = 64 by omega]
        have hd := Nat.div_add_mod W0 (2 ^ r)
        have h5 : ws.getD (q + zs.length + 1) 0 % 2 ^ r < 2 ^ r := Nat.mod_lt _ (Nat.pow_pos (by decide))
        generalize hW1 : ws.getD (q + zs.length + 1) 0 % 2 ^ r = W1 at *
        refine ⟨⟨zs ++ [W0 / 2 ^ r + 2 ^ (64 - r) * W1], by simp, by simp; omega, ?_, ?_, ?_⟩, by dsimp only; omega⟩
        · rw [List.length_append, List.length_singleton, show m - (zs.length + 1) = p by omega]
        · intro z hz'
          rw [List.mem_append, List.mem_singleton] at hz'
          rcases hz' with h | rfl
          · exact hlt z h
          · have h6 : W0 / 2 ^ r < 2 ^ (64 - r) := Nat.div_lt_of_lt_mul (by rw [Nat.mul_comm, hpp]; exact w0)
            have h7 : 2 ^ (64 - r) * (W1 + 1) ≤ 2 ^ (64 - r) * 2 ^ r := Nat.mul_le_mul_left _ h5
            rw [Nat.mul_add, Nat.mul_one, hpp] at h7
            omega
        · rw [vl_snoc, List.length_append, List.length_singleton, vl_take_succ, hdget, hW0, ← Nat.add_assoc, hW1, Nat.pow_succ]
          have h8 : 2 ^ r * (B ^ zs.length * (W0 / 2 ^ r + 2 ^ (64 - r) * W1)) = B ^ zs.length * (2 ^ r * (W0 / 2 ^ r)) + B ^ zs.length * (B * W1) := by
            rw [← Nat.mul_add, Nat.mul_left_comm, Nat.mul_add (2 ^ r), ← Nat.mul_assoc (2 ^ r) (2 ^ (64 - r)), Nat.mul_comm (2 ^ r) (2 ^ (64 - r)), hpp]
          have h9 : B ^ zs.length * W0 = B ^ zs.length * (2 ^ r * (W0 / 2 ^ r)) + B ^ zs.length * (W0 % 2 ^ r) := by rw [← Nat.mul_add, hd]
          rw [Nat.mul_add, h8, h9, Nat.mul_assoc (B ^ zs.length) B W1]
          omega
      intro x37 e37
      rw [i64w (by omega) (by omega)] at e37
      have e37' : x37 = ((q + zs.length : Nat) : Int) := by omega
      clear e37
      subst e37'
      refine ⟨by omega, by rw [g.len]; omega, g.isS (by omega), _, (g.le (hle _)).ld (by omega) (by omega), by omega, fun x41 e41 => ?_⟩
      rw [Int.toNat_natCast, hW0, shr64 _ _ (by omega)] at e41
      subst e41
      refine ⟨by omega, by omega, rfl, _, hst_word (up_get _ _ _) (by omega) (by simp; omega), ?_⟩
      rw [Hp.up_up, Int.toNat_natCast, hp, set_fill]
      intro x45 e45 x46 e46
      rw [i64w (by omega) (by omega)] at e45
      subst e45
      rw [i64w (by omega) (by omega)] at e46
      subst e46
      refine ⟨fun hd => ?_, fun hd => ?_⟩
      · simp only [decide_eq_true_eq] at hd
        refine ⟨by omega, by omega, rfl, fun x56 e56 x57 e57 => ?_⟩
        rw [i64w (by omega) (by omega)] at e56
        subst e56
        rw [i64w (by omega) (by omega)] at e57
        have e57' : x57 = ((q + zs.length + 1 : Nat) : Int) := by omega
        clear e57
        subst e57'
        refine ⟨by omega, by rw [g.len]; omega, g.isS (by omega), fun x61 e61 => ?_⟩
        rw [u64w (by omega) (by omega)] at e61
        have e61' : x61 = ((64 - r : Nat) : Int) := by omega
        clear e61
        subst e61'
        have hlen : (zs.length : Int).toNat < ((zs ++ [W0 / 2 ^ r]) ++ List.replicate p 0).length := by simp
        have hld := ld_in (k := k) (off := 0) (j := (zs.length : Int)) (up_get h1 k ⟨((zs ++ [W0 / 2 ^ r]) ++ List.replicate p 0).map uw, true⟩) (by rw [Nat.zero_add]; exact hlen)
        have hget : ((zs ++ [W0 / 2 ^ r]) ++ List.replicate p 0).getD (0 + (zs.length : Int).toNat) 0 = W0 / 2 ^ r := by simp [List.getD]
        rw [hget] at hld
        refine ⟨_, hld, _, (g.le (hle _)).ld (by omega) (by omega), by omega, fun x62 e62 => ?_⟩
        rw [Int.toNat_natCast, shl64 _ _ (by omega), shl_low (by omega), show 64 - (64 - r) = r by omega] at e62
        subst e62
        intro x63 e63
        have h6 : W0 / 2 ^ r < 2 ^ (64 - r) := Nat.div_lt_of_lt_mul (by rw [← Nat.pow_add, show r + (64 - r) = 64 by omega]; exact w0)
        have h5 : ws.getD (q + zs.length + 1) 0 % 2 ^ r < 2 ^ r := Nat.mod_lt _ (Nat.pow_pos (by decide))
        have hpp : 2 ^ (64 - r) * 2 ^ r = B := by rw [← Nat.pow_add, show 64 - r + r = 64 by omega]
        have h7 : 2 ^ (64 - r) * (ws.getD (q + zs.length + 1) 0 % 2 ^ r + 1) ≤ 2 ^ (64 - r) * 2 ^ r := Nat.mul_le_mul_left _ h5
        rw [Nat.mul_add, Nat.mul_one, hpp] at h7
        rw [or64' rfl h6 (by omega)] at e63
        subst e63
        have hst := hst_word (b := k) (cs := (zs ++ [W0 / 2 ^ r]) ++ List.replicate p 0) (j := (zs.length : Int)) (x := W0 / 2 ^ r + 2 ^ (64 - r) * (ws.getD (q + zs.length + 1) 0 % 2 ^ r)) (up_get h1 k _) (by omega) (by simp; omega)
        refine ⟨by omega, by omega, rfl, _, hst, ?_⟩
        rw [Hp.up_up, Int.toNat_natCast, set_snoc]
        exact key _ rfl
      · simp only [decide_eq_false_iff_not] at hd
        refine key _ ?_
        rw [sz_zero ws (q + zs.length + 1) (by omega)]; simp
    · simp only [decide_eq_false_iff_not] at hi
      have hzl : zs.length = m := by omega
      rw [hzl, Nat.sub_self, List.replicate_zero, List.append_nil]
      have gz : Ws (h1.up k ⟨zs.map uw, true⟩) ⟨some (blkA k), m, m⟩ zs := by rw [← hzl]; exact Ws.blk (up_get _ _ _) hlt (Nat.le_refl _)
      refine (nat_size gz (by omega)).mono ?_
      rintro _ h10 ⟨rfl, rfl⟩
      have hsl := sz_le zs
      refine ⟨_, rfl, by omega, by omega, by omega, by omega, hle _, ⟨some (blkA k), sz zs, m⟩, ?_, ?_⟩
      · rw [sliceA_zero]; simp [Sl.v]
      · have hvl : vl zs = vl ws / 2 ^ n := by
          rw [hvd]
          rw [hzl, sz_zero ws (q + m) (by omega), Nat.zero_mod, Nat.mul_zero, Nat.add_zero] at hv
          have h1 : vl ((ws.drop q).take m) = vl (ws.drop q) := by
            have h2 := vl_split (ws.drop q) m
            rw [List.drop_drop, vl_drop_sz (ws := ws) (i := q + m) (by omega), Nat.mul_zero, Nat.add_zero] at h2
            exact h2.symm
          rw [h1] at hv
          rw [← hv, Nat.mul_add_div (Nat.pow_pos (by decide)), Nat.div_eq_of_lt (Nat.mod_lt _ (Nat.pow_pos (by decide)))]
          rfl
        rw [← hvl]
        exact NatR.trim hk (up_get _ _ _) hlt hzl.symm

/-! ## A digit of a quotient, base b -/

theorem dig_le {b y1 y0 u u0 q r : Nat} (hy : 0 < y1 * b + y0) (hq : q * y1 + r = u) (h : q * y0 ≤ b * r + u0) : q ≤ (u * b + u0) / (y1 * b + y0) := by
  rw [Nat.le_div_iff_mul_le hy, Nat.mul_add, ← Nat.mul_assoc, ← hq, Nat.add_mul]
  have : b * r = r * b := Nat.mul_comm _ _
  omega
theorem dig_gt {b y1 y0 u u0 q r : Nat} (hy : 0 < y1 * b + y0) (hq : q * y1 + r = u) (h : b * r + u0 < q * y0) : (u * b + u0) / (y1 * b + y0) < q := by
  rw [Nat.div_lt_iff_lt_mul hy, Nat.mul_add, ← Nat.mul_assoc, ← hq, Nat.add_mul]
  have : b * r = r * b := Nat.mul_comm _ _
  omega

/-- The two halves of a quotient of two words by one. -/
theorem div_two {b u u1 u0 y q1 q0 r1 r0 : Nat} (h1 : u * b + u1 = q1 * y + r1) (h2 : r1 * b + u0 = q0 * y + r0) : u * (b * b) + (u1 * b + u0) = (q1 * b + q0) * y + r0 := by
  have := congrArg (· * b) h1
  simp only [Nat.add_mul, Nat.mul_assoc] at this
  have e : q1 * (b * y) = q1 * (y * b) := by rw [Nat.mul_comm b y]
  rw [Nat.add_mul, Nat.mul_assoc q1 b y, e]
  omega

theorem div_two' {b BB u u1 u0 v y q1 q0 r1 r0 : Nat} (hb : b * b = BB) (hv : u1 * b + u0 = v) (h1 : u * b + u1 = q1 * y + r1) (h2 : r1 * b + u0 = q0 * y + r0) : u * BB + v = (q1 * b + q0) * y + r0 := by
  rw [← hb, ← hv]; exact div_two h1 h2

theorem wrapI (z : Int) : IntKind.u64.wrap z = z % 18446744073709551616 := by rw [IntKind.wrap_u64]

/-- What a digit's loop keeps: the digit tried, and its rest. -/
structure Dig (u u0 y q r : Nat) : Prop where
  e : q * (y / 4294967296) + r = u
  ge : (u * 4294967296 + u0) / y ≤ q
  top : q ≤ 4294967297
  lt : r < 4294967296

theorem Dig.first {u u0 y : Nat} (hy : 9223372036854775808 ≤ y) (hy2 : y < 18446744073709551616) (hu : u < y) (h0 : u0 < 4294967296) : Dig u u0 y (u / (y / 4294967296)) (u % (y / 4294967296)) := by
  have h1 : 2147483648 ≤ y / 4294967296 := by omega
  have h2 := Nat.div_add_mod u (y / 4294967296)
  have h3 := Nat.mod_lt u (show 0 < y / 4294967296 by omega)
  refine ⟨by rw [Nat.mul_comm]; exact h2, ?_, ?_, by omega⟩
  · rw [Nat.le_div_iff_mul_le (by omega)]
    have h4 := Nat.div_mul_le_self (u * 4294967296 + u0) y
    generalize (u * 4294967296 + u0) / y = q at *
    have h5 : q * (y / 4294967296 * 4294967296) ≤ q * y := Nat.mul_le_mul_left _ (by omega)
    rw [← Nat.mul_assoc] at h5
    generalize q * (y / 4294967296) = p at *
    omega
  · have : u / (y / 4294967296) < 4294967298 := by
      rw [Nat.div_lt_iff_lt_mul (by omega)]
      omega
    omega

theorem Dig.step {u u0 y q r : Nat} (hy : 9223372036854775808 ≤ y) (hy2 : y < 18446744073709551616) (hu : u < y) (h0 : u0 < 4294967296) (d : Dig u u0 y q r) (ht : 4294967296 ≤ q ∨ 4294967296 * r + u0 < q * (y % 4294967296)) :
    1 ≤ q ∧ (r + y / 4294967296 < 4294967296 → Dig u u0 y (q - 1) (r + y / 4294967296)) ∧ (4294967296 ≤ r + y / 4294967296 → q - 1 = (u * 4294967296 + u0) / y) := by
  have hyy : y / 4294967296 * 4294967296 + y % 4294967296 = y := by omega
  have hlt : (u * 4294967296 + u0) / y < q := by
    rcases ht with h | h
    · have : (u * 4294967296 + u0) / y < 4294967296 := by rw [Nat.div_lt_iff_lt_mul (by omega)]; omega
      omega
    · have := dig_gt (b := 4294967296) (y1 := y / 4294967296) (y0 := y % 4294967296) (u0 := u0) (by omega) d.e h
      rw [hyy] at this; exact this
  have hq1 : 1 ≤ q := Nat.lt_of_le_of_lt (Nat.zero_le _) hlt
  obtain ⟨q', rfl⟩ : ∃ q', q = q' + 1 := ⟨q - 1, by omega⟩
  have he : q' * (y / 4294967296) + (r + y / 4294967296) = u := by have := d.e; rw [Nat.add_mul, Nat.one_mul] at this; omega
  refine ⟨by omega, fun h => ⟨he, by omega, by have := d.top; omega, h⟩, fun h => ?_⟩
  have htop := d.top
  have h1 : q' * (y % 4294967296) ≤ 4294967296 * 4294967295 := Nat.mul_le_mul (by omega) (by omega)
  have := dig_le (b := 4294967296) (y1 := y / 4294967296) (y0 := y % 4294967296) (u0 := u0) (by omega) he (by omega)
  rw [hyy] at this
  omega

theorem Dig.last {u u0 y q r : Nat} (hy : 9223372036854775808 ≤ y) (hy2 : y < 18446744073709551616) (d : Dig u u0 y q r) (ht : q * (y % 4294967296) ≤ 4294967296 * r + u0) : q = (u * 4294967296 + u0) / y := by
  have hyy : y / 4294967296 * 4294967296 + y % 4294967296 = y := by omega
  have := dig_le (b := 4294967296) (y1 := y / 4294967296) (y0 := y % 4294967296) (u0 := u0) (by omega) d.e ht
  rw [hyy] at this
  have := d.ge
  omega

theorem bits_Div64 (hi lo y : Nat) (hlo : lo < B) (hy : y < B) (hh : hi < y) {h : Hp} : Tri Try.prog (.func (.func 99) #[] #[]) [.int .u64 (hi : Nat), .int .u64 (lo : Nat), .int .u64 (y : Nat)] h
    fun v h' => h' = h ∧ v = .tuple #[.int .u64 (((hi * B + lo) / y : Nat) : Int), .int .u64 (((hi * B + lo) % y : Nat) : Int)] := by
  have hB : B = 18446744073709551616 := rfl
  refine t_math_bits_Div64 ⟨fun hc => ?_, fun hc => ⟨fun hd => ?_, fun hd => ⟨fun he => ?_, fun he => ?_⟩⟩⟩
  · simp only [decide_eq_true_eq] at hc; omega
  · simp only [decide_eq_true_eq] at hd; omega
  · simp only [decide_eq_true_eq] at he
    have : hi = 0 := by omega
    subst this
    refine ⟨by omega, fun x30 e30 => ⟨by omega, fun x33 e33 => ⟨rfl, ?_⟩⟩⟩
    have hq := Nat.div_le_self lo y
    rw [Int.tdiv_eq_ediv_of_nonneg (by omega), ← Int.natCast_ediv] at e30
    rw [Int.tmod_eq_emod_of_nonneg (by omega), ← Int.natCast_emod] at e33
    rw [Nat.zero_mul, Nat.zero_add, e33]
    generalize lo / y = q at *
    rw [u64w (by omega) (by omega)] at e30
    rw [e30]
  · simp only [decide_eq_false_iff_not] at he
    refine (bits_LeadingZeros64 y hy).mono ?_
    rintro _ h1 ⟨rfl, rfl⟩
    obtain ⟨s1, s2, s3⟩ := lz_spec (by omega : 0 < y) hy
    refine ⟨_, rfl, fun x36 e36 => ?_⟩
    generalize lz y = s at *
    rw [u64w (by omega) (by omega)] at e36
    subst e36
    refine ⟨by omega, fun x39 e39 => ?_⟩
    rw [shl64 _ _ (by omega), Nat.mod_eq_of_lt s2] at e39
    subst e39
    obtain ⟨Y, hY⟩ : ∃ Y, Y = y * 2 ^ s := ⟨_, rfl⟩
    rw [← hY] at s2 s3 ⊢
    refine ⟨by decide, fun x41 e41 => ?_⟩
    rw [shr32] at e41
    subst e41
    intro x43 e43
    rw [mask32 _ (by omega)] at e43
    subst e43
    have hps : 0 < 2 ^ s := Nat.pow_pos (by decide)
    have hhi : (hi + 1) * 2 ^ s ≤ Y := by rw [hY]; exact Nat.mul_le_mul_right _ hh
    rw [Nat.add_mul, Nat.one_mul] at hhi
    refine ⟨by omega, fun x46 e46 => ?_⟩
    rw [shl64 _ _ (by omega), Nat.mod_eq_of_lt (by omega)] at e46
    subst e46
    intro x49 e49
    rw [u64w (by omega) (by omega)] at e49
    have e49' : x49 = ((64 - s : Nat) : Int) := by omega
    clear e49
    subst e49'
    refine ⟨by omega, fun x50 e50 => ?_⟩
    rw [shr64 _ _ (by omega)] at e50
    subst e50
    have hpp : 2 ^ (64 - s) * 2 ^ s = B := by rw [← Nat.pow_add, show 64 - s + s = 64 by omega]
    have hlo2 : lo / 2 ^ (64 - s) < 2 ^ s := Nat.div_lt_of_lt_mul (by rw [hpp]; exact hlo)
    intro x51 e51
    rw [or64 (Nat.mul_comm hi (2 ^ s)) hlo2 (by omega)] at e51
    subst e51
    obtain ⟨u, hu⟩ : ∃ u, u = hi * 2 ^ s + lo / 2 ^ (64 - s) := ⟨_, rfl⟩
    rw [← hu]
    have huY : u < Y := by omega
    refine ⟨by omega, fun x54 e54 => ?_⟩
    rw [shl64 _ _ (by omega)] at e54
    subst e54
    obtain ⟨v, hv⟩ : ∃ v, v = lo * 2 ^ s % B := ⟨_, rfl⟩
    have hvB : v < 18446744073709551616 := by rw [hv]; exact Nat.mod_lt _ (by decide)
    rw [← hv]
    refine ⟨by decide, fun x56 e56 => ?_⟩
    rw [shr32] at e56
    subst e56
    intro x58 e58
    rw [mask32 _ hvB] at e58
    subst e58
    have hU : (hi * B + lo) * 2 ^ s = u * B + v := by
      have h1 : lo * 2 ^ s = B * (lo / 2 ^ (64 - s)) + v := by
        rw [hv, shl_low (by omega)]
        have h2 := Nat.div_add_mod lo (2 ^ (64 - s))
        have h3 : lo * 2 ^ s = (2 ^ (64 - s) * (lo / 2 ^ (64 - s)) + lo % 2 ^ (64 - s)) * 2 ^ s := by rw [h2]
        rw [h3, Nat.add_mul, Nat.mul_comm (lo % 2 ^ (64 - s)), Nat.mul_right_comm, hpp]
      rw [Nat.add_mul, h1, hu, Nat.add_mul, Nat.mul_right_comm hi B, Nat.mul_comm B (lo / 2 ^ (64 - s))]
      omega
    -- the loops
    have hy1 : 9223372036854775808 ≤ Y := by omega
    have hv1 : v / 4294967296 < 4294967296 := by omega
    have hv0 : v % 4294967296 < 4294967296 := by omega
    obtain ⟨Q1, hQ1⟩ : ∃ Q1, Q1 = (u * 4294967296 + v / 4294967296) / Y := ⟨_, rfl⟩
    obtain ⟨R1, hR1⟩ : ∃ R1, R1 = (u * 4294967296 + v / 4294967296) % Y := ⟨_, rfl⟩
    obtain ⟨Q0, hQ0⟩ : ∃ Q0, Q0 = (R1 * 4294967296 + v % 4294967296) / Y := ⟨_, rfl⟩
    obtain ⟨R0, hR0⟩ : ∃ R0, R0 = (R1 * 4294967296 + v % 4294967296) % Y := ⟨_, rfl⟩
    have hR1Y : R1 < Y := by rw [hR1]; exact Nat.mod_lt _ (by omega)
    have hR0Y : R0 < Y := by rw [hR0]; exact Nat.mod_lt _ (by omega)
    have hd1 : u * 4294967296 + v / 4294967296 = Q1 * Y + R1 := by have := Nat.div_add_mod (u * 4294967296 + v / 4294967296) Y; rw [← hQ1, ← hR1, Nat.mul_comm Y Q1] at this; exact this.symm
    have hd0 : R1 * 4294967296 + v % 4294967296 = Q0 * Y + R0 := by have := Nat.div_add_mod (R1 * 4294967296 + v % 4294967296) Y; rw [← hQ0, ← hR0, Nat.mul_comm Y Q0] at this; exact this.symm
    have hQ1b : Q1 < 4294967296 := by rw [hQ1, Nat.div_lt_iff_lt_mul (by omega)]; omega
    have hQ0b : Q0 < 4294967296 := by rw [hQ0, Nat.div_lt_iff_lt_mul (by omega)]; omega
    have hfin : (hi * B + lo) * 2 ^ s = (Q1 * 4294967296 + Q0) * Y + R0 := by
      rw [hU]; exact div_two' (by decide) (Nat.div_add_mod' v 4294967296) hd1 hd0
    have hres : (hi * B + lo) / y = Q1 * 4294967296 + Q0 ∧ (hi * B + lo) % y = R0 / 2 ^ s := by
      have h1 : (hi * B + lo) / y = Q1 * 4294967296 + Q0 := by
        rw [← Nat.mul_div_mul_right _ _ hps, hfin, ← hY, Nat.mul_comm _ Y, Nat.mul_add_div (by omega), Nat.div_eq_of_lt hR0Y, Nat.add_zero]
      refine ⟨h1, ?_⟩
      have h2 := Nat.div_add_mod (hi * B + lo) y
      rw [h1] at h2
      have h3 : (y * (Q1 * 4294967296 + Q0) + (hi * B + lo) % y) * 2 ^ s = (Q1 * 4294967296 + Q0) * Y + R0 := by rw [h2, hfin]
      rw [Nat.add_mul, hY] at h3
      have h4 : y * (Q1 * 4294967296 + Q0) * 2 ^ s = (Q1 * 4294967296 + Q0) * (y * 2 ^ s) := by rw [Nat.mul_comm y, Nat.mul_assoc]
      have h5 : (hi * B + lo) % y * 2 ^ s = R0 := by omega
      rw [← h5, Nat.mul_div_cancel _ hps]
    have tdv : ∀ a : Nat, a < 18446744073709551616 → IntKind.u64.wrap ((a : Int).tdiv ((Y / 4294967296 : Nat) : Int)) = ((a / (Y / 4294967296) : Nat) : Int) := fun a ha => by
      have := Nat.div_le_self a (Y / 4294967296)
      rw [Int.tdiv_eq_ediv_of_nonneg (by omega), ← Int.natCast_ediv]
      generalize a / (Y / 4294967296) = q at *
      exact u64w (by omega) (by omega)
    have sbt : ∀ a : Nat, a < 18446744073709551616 → ∀ x65 x66 : Int, x65 = IntKind.u64.wrap (((a / (Y / 4294967296) : Nat) : Int) * ((Y / 4294967296 : Nat) : Int)) → x66 = IntKind.u64.wrap ((a : Int) - x65) → x66 = ((a % (Y / 4294967296) : Nat) : Int) := fun a ha x65 x66 e65 e66 => by
      have h1 := Nat.div_add_mod a (Y / 4294967296)
      rw [Nat.mul_comm] at h1
      rw [← Int.natCast_mul] at e65
      generalize a / (Y / 4294967296) * (Y / 4294967296) = p at *
      rw [u64w (by omega) (by omega)] at e65
      subst e65
      rw [u64w (by omega) (by omega)] at e66
      omega
    refine ⟨by omega, fun x61 e61 => ?_⟩
    rw [tdv u (by omega)] at e61
    subst e61
    intro x65 e65 x66 e66
    have e66' := sbt u (by omega) x65 x66 e65 e66
    clear e66 e65
    subst e66'
    intro J hJ
    -- behind the first loop
    have after1 : ∀ x15 : Int, x15 = (Q1 : Nat) → J x15 h1 := by
      rintro _ rfl
      refine hJ _ _ fun x87 e87 x89 e89 x92 e92 x93 e93 => ?_
      have e93' : x93 = (R1 : Nat) := by
        rw [← Int.natCast_mul] at e92
        generalize Q1 * Y = p at *
        rw [wrapI] at e87 e89 e92 e93
        omega
      clear e93 e92 e89 e87
      subst e93'
      refine ⟨by omega, fun x96 e96 => ?_⟩
      rw [tdv R1 (by omega)] at e96
      subst e96
      intro x100 e100 x101 e101
      have e101' := sbt R1 (by omega) x100 x101 e100 e101
      clear e101 e100
      subst e101'
      intro J1 hJ1
      have after0 : ∀ x18 : Int, x18 = (Q0 : Nat) → J1 x18 h1 := by
        rintro _ rfl
        refine hJ1 _ _ fun x122 e122 x124 e124 x126 e126 x128 e128 x131 e131 x132 e132 => ?_
        have e132' : x132 = (R0 : Nat) := by
          rw [← Int.natCast_mul] at e131
          generalize Q0 * Y = p at *
          rw [wrapI] at e126 e128 e131 e132
          omega
        have e124' : x124 = ((Q1 * 4294967296 + Q0 : Nat) : Int) := by
          rw [wrapI] at e122 e124
          omega
        clear e132 e131 e128 e126 e124 e122
        subst e132' e124'
        refine ⟨by omega, fun x134 e134 => ⟨rfl, ?_⟩⟩
        rw [shr64 _ _ (by omega)] at e134
        subst e134
        rw [hres.1, hres.2]
      refine ⟨fun r q h' => ∃ q' r' : Nat, q = q' ∧ r = r' ∧ h1 = h' ∧ Dig R1 (v % 4294967296) Y q' r', fun _ q _ => q.toNat, ⟨_, _, rfl, rfl, rfl, Dig.first hy1 (by omega) hR1Y hv0⟩, ?_⟩
      rintro _ _ _ ⟨q, r, rfl, rfl, rfl, d⟩ J2 hJ2
      have htop := d.top
      have hlt := d.lt
      have key : ∀ x, (x = true ↔ (4294967296 ≤ q ∨ 4294967296 * r + v % 4294967296 < q * (Y % 4294967296))) → J2 x h1 := by
        intro x hx
        refine hJ2 x _ ⟨fun e x115 e115 x118 e118 => ?_, fun e => ?_⟩
        · obtain ⟨d1, d2, d3⟩ := d.step hy1 (by omega) hR1Y hv0 (hx.1 e)
          rw [u64w (by omega) (by omega)] at e115 e118
          subst e115 e118
          refine ⟨fun hb => ?_, fun hb => ?_⟩
          · simp only [decide_eq_true_eq] at hb
            exact after0 _ (by have := d3 (by omega); rw [← hQ0] at this; omega)
          · simp only [decide_eq_false_iff_not] at hb
            exact ⟨⟨q - 1, r + Y / 4294967296, by omega, by omega, rfl, d2 (by omega)⟩, by dsimp only; omega⟩
        · have hn : ¬ (4294967296 ≤ q ∨ 4294967296 * r + v % 4294967296 < q * (Y % 4294967296)) := fun h => by rw [hx.2 h] at e; cases e
          exact after0 _ (by rw [hQ0]; exact_mod_cast d.last hy1 (by omega) (by omega))
      refine ⟨fun hb => ?_, fun hb x107 e107 x109 e109 x111 e111 => ?_⟩
      · simp only [decide_eq_true_eq] at hb
        exact key true (by simp; left; omega)
      · simp only [decide_eq_false_iff_not] at hb
        have hm : q * (Y % 4294967296) ≤ 4294967295 * 4294967295 := Nat.mul_le_mul (by omega) (by omega)
        refine key _ ?_
        rw [decide_eq_true_eq]
        rw [← Int.natCast_mul] at e107
        generalize q * (Y % 4294967296) = p at *
        rw [wrapI] at e107 e109 e111
        omega
    refine ⟨fun q r h' => ∃ q' r' : Nat, q = q' ∧ r = r' ∧ h1 = h' ∧ Dig u (v / 4294967296) Y q' r', fun q _ _ => q.toNat, ⟨_, _, rfl, rfl, rfl, Dig.first hy1 (by omega) huY hv1⟩, ?_⟩
    rintro _ _ _ ⟨q, r, rfl, rfl, rfl, d⟩ J3 hJ3
    have htop := d.top
    have hlt := d.lt
    have key : ∀ x, (x = true ↔ (4294967296 ≤ q ∨ 4294967296 * r + v / 4294967296 < q * (Y % 4294967296))) → J3 x h1 := by
      intro x hx
      refine hJ3 x _ ⟨fun e x80 e80 x83 e83 => ?_, fun e => ?_⟩
      · obtain ⟨d1, d2, d3⟩ := d.step hy1 (by omega) huY hv1 (hx.1 e)
        rw [u64w (by omega) (by omega)] at e80 e83
        subst e80 e83
        refine ⟨fun hb => ?_, fun hb => ?_⟩
        · simp only [decide_eq_true_eq] at hb
          exact after1 _ (by have := d3 (by omega); rw [← hQ1] at this; omega)
        · simp only [decide_eq_false_iff_not] at hb
          exact ⟨⟨q - 1, r + Y / 4294967296, by omega, by omega, rfl, d2 (by omega)⟩, by dsimp only; omega⟩
      · have hn : ¬ (4294967296 ≤ q ∨ 4294967296 * r + v / 4294967296 < q * (Y % 4294967296)) := fun h => by rw [hx.2 h] at e; cases e
        exact after1 _ (by rw [hQ1]; exact_mod_cast d.last hy1 (by omega) (by omega))
    refine ⟨fun hb => ?_, fun hb x72 e72 x74 e74 x76 e76 => ?_⟩
    · simp only [decide_eq_true_eq] at hb
      exact key true (by simp; left; omega)
    · simp only [decide_eq_false_iff_not] at hb
      have hm : q * (Y % 4294967296) ≤ 4294967295 * 4294967295 := Nat.mul_le_mul (by omega) (by omega)
      refine key _ ?_
      rw [decide_eq_true_eq]
      rw [← Int.natCast_mul] at e72
      generalize q * (Y % 4294967296) = p at *
      rw [wrapI] at e72 e74 e76
      omega

end Go.Proofs.Ytmfafadchpglgaa

/- divnat: guess, take, give. -/
namespace Go.Proofs.Ytmfafadchpglgaa
set_option maxRecDepth 20000

/-- The word that three words over two tell. -/
def gueW (W u2 u1 u0 v1 v0 : Nat) : Nat := min (W - 1) (((u2 * W + u1) * W + u0) / (v1 * W + v0))
def gue (u2 u1 u0 v1 v0 : Nat) : Nat := gueW B u2 u1 u0 v1 v0

theorem cmp_two {W p r u0 : Nat} (hW : 0 < W) (h0 : u0 < W) : (p / W < r ∨ (p / W = r ∧ p % W ≤ u0)) ↔ p ≤ W * r + u0 := by
  have h1 := Nat.div_add_mod p W
  have h2 := Nat.mod_lt p hW
  constructor
  · rintro (h | ⟨h, h'⟩)
    · have : W * (p / W + 1) ≤ W * r := Nat.mul_le_mul_left _ h
      rw [Nat.mul_add, Nat.mul_one] at this
      omega
    · rw [← h]; omega
  · intro h
    rcases Nat.lt_trichotomy (p / W) r with h3 | h3 | h3
    · exact Or.inl h3
    · exact Or.inr ⟨h3, by rw [← h3] at h; omega⟩
    · have : W * (r + 1) ≤ W * (p / W) := Nat.mul_le_mul_left _ h3
      rw [Nat.mul_add, Nat.mul_one] at this
      omega

structure Gue (W u u0 v1 v0 d r : Nat) : Prop where
  e : d * v1 + r = u
  ge : min (W - 1) ((u * W + u0) / (v1 * W + v0)) ≤ d
  top : d < W
  lt : r < W

theorem pos_two {W v1 v0 : Nat} (hW : 0 < W) (hv : 0 < v1) : 0 < v1 * W + v0 := Nat.lt_of_lt_of_le (Nat.mul_pos hv hW) (Nat.le_add_right _ _)

theorem Gue.stop {W u u0 v1 v0 d r : Nat} (hW : 0 < W) (h : Gue W u u0 v1 v0 d r) (hv : 0 < v1) (ht : d * v0 ≤ W * r + u0) : d = min (W - 1) ((u * W + u0) / (v1 * W + v0)) := by
  have h1 := dig_le (pos_two hW hv) h.e ht
  have h2 := h.ge
  have h3 := h.top
  generalize (u * W + u0) / (v1 * W + v0) = Q at *
  omega

theorem Gue.more {W u u0 v1 v0 d r : Nat} (hW : 0 < W) (h : Gue W u u0 v1 v0 d r) (hv : 0 < v1) (hv0 : v0 < W) (ht : W * r + u0 < d * v0) :
    1 ≤ d ∧ (r + v1 < W → Gue W u u0 v1 v0 (d - 1) (r + v1)) ∧ (W ≤ r + v1 → d - 1 = min (W - 1) ((u * W + u0) / (v1 * W + v0))) := by
  have hy := pos_two (v0 := v0) hW hv
  have h1 := dig_gt hy h.e ht
  have h3 := h.top
  have hd1 : 1 ≤ d := Nat.lt_of_le_of_lt (Nat.zero_le _) h1
  obtain ⟨d', rfl⟩ : ∃ d', d = d' + 1 := ⟨d - 1, by omega⟩
  have he : d' * v1 + (r + v1) = u := by have := h.e; rw [Nat.add_mul, Nat.one_mul] at this; omega
  refine ⟨hd1, fun hr => ⟨he, ?_, by omega, hr⟩, fun hr => ?_⟩
  · generalize (u * W + u0) / (v1 * W + v0) = Q at *
    omega
  · have h4 : d' * v0 ≤ W * W := Nat.mul_le_mul (by omega) (by omega)
    have h5 : W * W ≤ W * (r + v1) := Nat.mul_le_mul_left _ hr
    have h7 := dig_le (u0 := u0) hy he (show d' * v0 ≤ W * (r + v1) + u0 by omega)
    generalize (u * W + u0) / (v1 * W + v0) = Q at *
    omega

theorem Gue.first {W u2 u1 u0 v1 v0 : Nat} (hW : 0 < W) (hv : 0 < v1) (h0 : u0 < W) (h1 : u1 < W) (hv1 : v1 < W) (h : u2 < v1) : Gue W (u2 * W + u1) u0 v1 v0 ((u2 * W + u1) / v1) ((u2 * W + u1) % v1) := by
  refine ⟨by rw [Nat.mul_comm]; exact Nat.div_add_mod _ _, ?_, ?_, Nat.lt_trans (Nat.mod_lt _ hv) hv1⟩
  · refine Nat.le_trans (Nat.min_le_right _ _) ?_
    rw [Nat.le_div_iff_mul_le hv]
    have h4 := Nat.div_mul_le_self ((u2 * W + u1) * W + u0) (v1 * W + v0)
    generalize ((u2 * W + u1) * W + u0) / (v1 * W + v0) = q at *
    generalize u2 * W + u1 = u at *
    rw [Nat.mul_add, ← Nat.mul_assoc] at h4
    have h5 : q * v1 * W < (u + 1) * W := by rw [Nat.add_mul]; omega
    exact Nat.lt_succ_iff.1 (Nat.lt_of_mul_lt_mul_right h5)
  · rw [Nat.div_lt_iff_lt_mul hv]
    have : (u2 + 1) * W ≤ v1 * W := Nat.mul_le_mul_right _ h
    rw [Nat.add_mul, Nat.mul_comm v1 W] at this
    omega

theorem Gue.high {W u1 u0 v1 v0 : Nat} (hW : 0 < W) (hv : 0 < v1) (hv0 : v0 < W) :
    (W ≤ u1 + v1 → gueW W v1 u1 u0 v1 v0 = W - 1) ∧ (u1 + v1 < W → Gue W (v1 * W + u1) u0 v1 v0 (W - 1) (u1 + v1)) := by
  have heq : (W - 1) * v1 + (u1 + v1) = v1 * W + u1 := by
    have : (W - 1) * v1 + v1 = v1 * W := by rw [← Nat.succ_mul, Nat.mul_comm]; congr 1; omega
    omega
  refine ⟨fun hr => ?_, fun hr => ⟨heq, Nat.min_le_left _ _, by omega, hr⟩⟩
  have h4 : (W - 1) * v0 ≤ W * W := Nat.mul_le_mul (by omega) (by omega)
  have h5 : W * W ≤ W * (u1 + v1) := Nat.mul_le_mul_left _ hr
  have := dig_le (u0 := u0) (pos_two (v0 := v0) hW hv) heq (by omega)
  unfold gueW
  exact Nat.min_eq_left this

theorem carry_of {a b : Nat} (ha : a < B) (hb : b < B) : ((a + b + 0) / B = 0 ↔ a + b < B) := by
  rw [Nat.add_zero, Nat.div_eq_zero_iff]
  have : B ≠ 0 := by decide
  omega

theorem divnat_guess (u2 u1 u0 v1 v0 : Nat) (h2 : u2 < B) (h1 : u1 < B) (h0 : u0 < B) (hv1 : v1 < B) (hv0 : v0 < B) (hv : 0 < v1) (hle : u2 ≤ v1) {h : Hp} :
    Tri Try.prog (.func (.func 102) #[] #[]) [.int .u64 (u2 : Nat), .int .u64 (u1 : Nat), .int .u64 (u0 : Nat), .int .u64 (v1 : Nat), .int .u64 (v0 : Nat)] h
    fun v h' => h' = h ∧ v = .int .u64 (gue u2 u1 u0 v1 v0 : Nat) := by
  have hW : 0 < B := by decide
  have hB : B = 18446744073709551616 := rfl
  refine t_divnat_guess ?_
  intro J hJ
  have loop : ∀ d r : Nat, Gue B (u2 * B + u1) u0 v1 v0 d r → ∀ x y : Int, x = d → y = r → J x y h := by
    rintro d r hd _ _ rfl rfl
    refine hJ _ _ h fun J1 hJ1 => ?_
    have fin : ∀ g : Nat, g = gue u2 u1 u0 v1 v0 → ∀ x : Int, x = (g : Nat) → J1 x h := by
      rintro _ rfl _ rfl
      exact hJ1 _ _ ⟨rfl, rfl⟩
    refine ⟨fun x y h' => ∃ d r : Nat, x = d ∧ y = r ∧ h' = h ∧ Gue B (u2 * B + u1) u0 v1 v0 d r, fun x _ _ => x.toNat, ⟨d, r, rfl, rfl, rfl, hd⟩, ?_⟩
    clear hd
    rintro _ _ h' ⟨d, r, rfl, rfl, hh, hd⟩
    rw [hh]
    clear hh
    have htop := hd.top
    have hlt := hd.lt
    refine (bits_Mul64 d v0 htop hv0).const ?_
    refine ⟨_, _, rfl, fun J2 hJ2 => ?_⟩
    have key : ∀ x, (x = true ↔ d * v0 ≤ B * r + u0) → J2 x h := by
      intro x hx
      refine hJ2 x h ⟨fun e => ?_, fun e x58 e58 => ?_⟩
      · exact fin d (hd.stop hW hv (hx.1 e)) _ rfl
      · have hn : ¬ d * v0 ≤ B * r + u0 := fun h' => by rw [hx.2 h'] at e; cases e
        obtain ⟨m1, m2, m3⟩ := hd.more hW hv hv0 (Nat.lt_of_not_le hn)
        clear hn hx hJ2 hJ1 hJ
        rw [u64w (by omega) (by omega)] at e58
        subst e58
        refine (bits_Add64 r v1 0 (by decide)).const ?_
        have hcar := carry_of hlt hv1
        refine ⟨_, _, rfl, fun hb => ?_, fun hb => ?_⟩
        · simp only [Bool.not_eq_true', decide_eq_false_iff_not] at hb
          have hbr : B ≤ r + v1 := Nat.le_of_not_lt fun h => hb (by rw [hcar.2 h]; rfl)
          exact fin (d - 1) (m3 hbr) _ (by omega)
        · simp only [Bool.not_eq_false', decide_eq_true_eq] at hb
          have hbr : r + v1 < B := hcar.1 (by exact_mod_cast hb)
          refine ⟨⟨d - 1, r + v1, by omega, ?_, rfl, m2 hbr⟩, by dsimp only; omega⟩
          rw [Nat.add_zero, Nat.mod_eq_of_lt hbr]
    have hcmp := cmp_two (p := d * v0) (r := r) hW h0
    refine ⟨fun hb => ?_, fun hb J3 hJ3 => ?_⟩
    · refine key _ ?_
      rw [← hcmp]
      simp only [decide_eq_true_eq] at hb ⊢
      constructor
      · intro _; exact Or.inl (by exact_mod_cast hb)
      · intro _; exact hb
    · simp only [decide_eq_false_iff_not] at hb
      have hb' : ¬ d * v0 / B < r := fun h => hb (by exact_mod_cast h)
      have key2 : ∀ x, (x = true ↔ d * v0 ≤ B * r + u0) → J3 x h := fun x hx => hJ3 x h (key x hx)
      refine ⟨fun hc => ?_, fun hc => ?_⟩
      · simp only [decide_eq_true_eq] at hc
        have hc' : d * v0 / B = r := by exact_mod_cast hc
        refine key2 _ ?_
        rw [← hcmp, decide_eq_true_eq]
        constructor
        · intro hx; exact Or.inr ⟨hc', by exact_mod_cast hx⟩
        · rintro (hx | ⟨_, hx⟩)
          · exact absurd hx hb'
          · exact_mod_cast hx
      · simp only [decide_eq_false_iff_not] at hc
        have hc' : ¬ d * v0 / B = r := fun h => hc (by exact_mod_cast h)
        refine key2 _ ?_
        rw [← hcmp]
        constructor
        · intro hx; cases hx
        · rintro (hx | ⟨hx, _⟩)
          · exact absurd hx hb'
          · exact absurd hx hc'
  refine ⟨fun hc => ?_, fun hc => ?_⟩
  · simp only [decide_eq_true_eq] at hc
    have he : u2 = v1 := by omega
    subst he
    obtain ⟨g1, g2⟩ := Gue.high (u1 := u1) (u0 := u0) hW hv hv0
    refine (bits_Add64 u1 u2 0 (by decide)).const ?_
    have hcar := carry_of h1 h2
    refine ⟨_, _, rfl, fun hb => ⟨rfl, ?_⟩, fun hb => ?_⟩
    · simp only [Bool.not_eq_true', decide_eq_false_iff_not] at hb
      have hbr : B ≤ u1 + u2 := Nat.le_of_not_lt fun h => hb (by rw [hcar.2 h]; rfl)
      unfold gue
      rw [g1 hbr]
      rfl
    · simp only [Bool.not_eq_false', decide_eq_true_eq] at hb
      have hbr : u1 + u2 < B := hcar.1 (by exact_mod_cast hb)
      refine loop _ _ (g2 hbr) _ _ rfl ?_
      rw [Nat.add_zero, Nat.mod_eq_of_lt hbr]
  · simp only [decide_eq_false_iff_not] at hc
    have hlt : u2 < v1 := by omega
    refine (bits_Div64 u2 u1 v1 h1 hv1 hlt).const ?_
    exact ⟨_, _, rfl, loop _ _ (Gue.first hW hv h0 h1 hv1 hlt) _ _ rfl rfl⟩

theorem mac_step {x y c : Nat} (hx : x < B) (hy : y < B) (hc : c < B) :
    x * y / B + (x * y % B + c + 0) / B < B ∧ (x * y % B + c + 0) % B + B * (x * y / B + (x * y % B + c + 0) / B) = x * y + c := by
  simp only [B] at *
  have hp : x * y ≤ 18446744073709551615 * 18446744073709551615 := Nat.mul_le_mul (by omega) (by omega)
  generalize x * y = p at *
  omega

theorem take_step {p q D c l z lo u l' c' y d V W : Nat} (hv : D + d * V = W + p * (c + l)) (h1 : lo + q * c' = d * y + c) (h2 : z + lo + l = u + q * l') : (D + p * z) + d * (V + p * y) = (W + p * u) + p * q * (c' + l') := by
  have e1 := congrArg (p * ·) h1
  have e2 := congrArg (p * ·) h2
  simp only [Nat.mul_add] at e1 e2
  rw [Nat.mul_add d, Nat.mul_add (p * q), Nat.mul_left_comm d p y, Nat.mul_assoc p q c', Nat.mul_assoc p q l']
  rw [Nat.mul_add] at hv
  omega

theorem sub_digit {x y b : Nat} (hx : x < B) (hy : y < B) (hb : b ≤ 1) : (x + B - y - b) % B + y + b = x + B * (if x < y + b then 1 else 0) ∧ (if x < y + b then 1 else 0) ≤ 1 := by
  have hB : B = 18446744073709551616 := rfl
  split
  · rw [Nat.mod_eq_of_lt (by omega)]; omega
  · have : x + B - y - b = (x - y - b) + B := by omega
    rw [this, Nat.add_mod_right, Nat.mod_eq_of_lt (by omega)]; omega

set_option maxHeartbeats 2000000 in
theorem divnat_take {h : Hp} {k zc : Nat} {pre us post vs : List Nat} {v : Sl} (hk : h k = some ⟨(pre ++ us ++ post).map uw, true⟩) (hul : ∀ w ∈ us, w < B) (gv : Ws (h.del k) v vs) (hl : us.length = vs.length + 1) (hn : us.length < 1099511627776) {d : Nat} (hd : d < B) :
    Tri Try.prog (.func (.func 103) #[] #[]) [Sl.v ⟨some ⟨k, pre.length, none⟩, us.length, zc⟩, v.v, .int .u64 (d : Nat)] h
      fun r h' => ∃ (l : Nat) (us' : List Nat), r = .bool (decide (l ≠ 0)) ∧ l ≤ 1 ∧ h' = h.up k ⟨(pre ++ us' ++ post).map uw, true⟩ ∧ us'.length = us.length ∧ (∀ w ∈ us', w < B) ∧ vl us' + d * vl vs = vl us + B ^ us.length * l := by
  have hB : B = 18446744073709551616 := rfl
  have hvn := gv.len
  refine t_divnat_take (x0 := ⟨some ⟨k, pre.length, none⟩, us.length, zc⟩) ?_
  have gv' := fun x => gv.le (Hp.del_le_up h k x)
  refine ⟨fun c l i h1 => ∃ (ds : List Nat) (cc ll : Nat), i = ds.length ∧ ds.length ≤ vs.length ∧ c = cc ∧ cc < B ∧ l = ll ∧ ll ≤ 1 ∧ h1 = h.up k ⟨(pre ++ (ds ++ us.drop ds.length) ++ post).map uw, true⟩ ∧ (∀ w ∈ ds, w < B) ∧
      vl ds + d * vl (vs.take ds.length) = vl (us.take ds.length) + B ^ ds.length * (cc + ll), fun _ _ i _ => vs.length - i.toNat, ⟨[], 0, 0, rfl, by simp, rfl, by decide, rfl, by omega, by simpa using (up_self hk).symm, by simp, by simp [vl]⟩, ?_⟩
  rintro _ _ _ h1 ⟨ds, cc, ll, rfl, hdl, rfl, hcc, rfl, hll, rfl, hlt, hv⟩
  have hdz : ds.length < us.length := by omega
  have hx1 : us.getD ds.length 0 < B := by simp [List.getD, hdz]; exact hul _ (List.getElem_mem hdz)
  have hget : (pre ++ (ds ++ us.drop ds.length) ++ post).getD (pre.length + (ds.length : Int).toNat) 0 = us.getD ds.length 0 := by
    rw [Int.toNat_natCast, getD_mid rfl (by simp; omega), drop_cons hdz]; rfl
  have hlen : pre.length + (ds.length : Int).toNat < (pre ++ (ds ++ us.drop ds.length) ++ post).length := by simp; omega
  have hld1 := ld_in (j := (ds.length : Int)) (up_get h k ⟨(pre ++ (ds ++ us.drop ds.length) ++ post).map uw, true⟩) hlen
  rw [hget] at hld1
  have put : ∀ z : Nat, (h.up k ⟨(pre ++ (ds ++ us.drop ds.length) ++ post).map uw, true⟩).up k ⟨((pre ++ (ds ++ us.drop ds.length) ++ post).set (pre.length + (ds.length : Int).toNat) z).map uw, true⟩ = h.up k ⟨(pre ++ ((ds ++ [z]) ++ us.drop (ds ++ [z]).length) ++ post).map uw, true⟩ := fun z => by
    rw [Hp.up_up, Int.toNat_natCast, drop_cons hdz, set_mid]; simp
  have mem : ∀ z, z < B → ∀ w ∈ ds ++ [z], w < B := fun z hz w hw => by
    rw [List.mem_append, List.mem_singleton] at hw
    rcases hw with h | rfl
    · exact hlt w h
    · exact hz
  refine ⟨fun hi => ?_, fun hi => ?_⟩
  · simp only [decide_eq_true_eq] at hi
    have hi' : ds.length < vs.length := by omega
    have hy := gv.getD_lt ds.length
    refine ⟨by omega, by omega, gv.isS (by omega), _, (gv' _).ld (by omega) (by omega), ?_⟩
    rw [Int.toNat_natCast]
    refine (bits_Mul64 d _ hd hy).const ?_
    refine ⟨_, _, rfl, (bits_Add64 _ _ 0 (by decide)).const ?_⟩
    obtain ⟨m1, m2⟩ := mac_step hd hy hcc
    refine ⟨_, _, rfl, fun x36 e36 => ?_⟩
    have m1' : d * vs.getD ds.length 0 / B + (d * vs.getD ds.length 0 % B + cc + 0) / B < 18446744073709551616 := m1
    rw [← Int.natCast_add, wrapM, Nat.mod_eq_of_lt m1'] at e36
    subst e36
    refine ⟨by omega, by first | omega | (dsimp only; omega), rfl, _, hld1, ?_⟩
    refine (bits_Sub64 (us.getD ds.length 0) ((d * vs.getD ds.length 0 % B + cc + 0) % B) ll hll).const ?_
    have hlo : (d * vs.getD ds.length 0 % B + cc + 0) % B < B := Nat.mod_lt _ (by decide)
    obtain ⟨s1, s2⟩ := sub_digit hx1 hlo hll
    refine ⟨_, _, rfl, by omega, by first | omega | (dsimp only; omega), rfl, _, st_in (up_get _ _ _) hlen, ?_⟩
    intro x50 e
    rw [i64w (by omega) (by omega)] at e
    subst e
    refine ⟨⟨ds ++ [(us.getD ds.length 0 + B - (d * vs.getD ds.length 0 % B + cc + 0) % B - ll) % B], _, _, by simp, by simp; omega, rfl, m1, rfl, s2, put _, mem _ (Nat.mod_lt _ (by decide)), ?_⟩, by first | omega | (dsimp only; omega)⟩
    rw [vl_snoc, List.length_append, List.length_singleton, vl_take_succ, vl_take_succ, Nat.pow_succ]
    exact take_step hv m2 s1
  · simp only [decide_eq_false_iff_not] at hi
    have hdv : ds.length = vs.length := by omega
    rw [show ((v.n : Nat) : Int) = (ds.length : Int) by omega]
    refine ⟨by omega, by first | omega | (dsimp only; omega), rfl, _, hld1, ?_⟩
    refine (bits_Sub64 (us.getD ds.length 0) cc ll hll).const ?_
    obtain ⟨s1, s2⟩ := sub_digit hx1 hcc hll
    refine ⟨_, _, rfl, by omega, by first | omega | (dsimp only; omega), rfl, _, st_in (up_get _ _ _) hlen, ?_⟩
    refine ⟨_, ds ++ [(us.getD ds.length 0 + B - cc - ll) % B], ?_, s2, ?_, by simp; omega, mem _ (Nat.mod_lt _ (by decide)), ?_⟩
    · congr 1
      rw [Bool.eq_iff_iff]
      simp
    · rw [put]
      have : us.drop (ds ++ [(us.getD ds.length 0 + B - cc - ll) % B]).length = [] := List.drop_of_length_le (by simp; omega)
      rw [this, List.append_nil]
    · rw [vl_snoc]
      have e1 : vl us = vl (us.take ds.length) + B ^ ds.length * us.getD ds.length 0 := by
        rw [← vl_take_succ, List.take_of_length_le (by omega)]
      rw [hdv, List.take_length] at hv
      have e2 := congrArg (B ^ ds.length * ·) s1
      simp only [Nat.mul_add] at e2
      rw [hl, ← hdv, Nat.pow_succ, Nat.mul_assoc, e1]
      rw [Nat.mul_add] at hv
      rw [← hdv] at hv
      omega

set_option maxHeartbeats 2000000 in
theorem divnat_give {h : Hp} {k zc : Nat} {pre us post vs : List Nat} {v : Sl} (hk : h k = some ⟨(pre ++ us ++ post).map uw, true⟩) (hul : ∀ w ∈ us, w < B) (gv : Ws (h.del k) v vs) (hl : us.length = vs.length + 1) (hn : us.length < 1099511627776) :
    Tri Try.prog (.func (.func 104) #[] #[]) [Sl.v ⟨some ⟨k, pre.length, none⟩, us.length, zc⟩, v.v] h
      fun r h' => r = .tuple #[] ∧ ∃ (l : Nat) (us' : List Nat), h' = h.up k ⟨(pre ++ us' ++ post).map uw, true⟩ ∧ us'.length = us.length ∧ (∀ w ∈ us', w < B) ∧ vl us' + B ^ us.length * l = vl us + vl vs := by
  have hB : B = 18446744073709551616 := rfl
  have hvn := gv.len
  refine t_divnat_give (u := ⟨some ⟨k, pre.length, none⟩, us.length, zc⟩) ?_
  have gv' := fun x => gv.le (Hp.del_le_up h k x)
  refine ⟨fun c i h1 => ∃ (ds : List Nat) (cc : Nat), i = ds.length ∧ ds.length ≤ vs.length ∧ c = cc ∧ cc ≤ 1 ∧ h1 = h.up k ⟨(pre ++ (ds ++ us.drop ds.length) ++ post).map uw, true⟩ ∧ (∀ w ∈ ds, w < B) ∧
      vl ds + B ^ ds.length * cc = vl (us.take ds.length) + vl (vs.take ds.length), fun _ i _ => vs.length - i.toNat, ⟨[], 0, rfl, by simp, rfl, by decide, by simpa using (up_self hk).symm, by simp, by simp [vl]⟩, ?_⟩
  rintro _ _ h1 ⟨ds, cc, rfl, hdl, rfl, hcc, rfl, hlt, hv⟩
  have hdz : ds.length < us.length := by omega
  have hx1 : us.getD ds.length 0 < B := by simp [List.getD, hdz]; exact hul _ (List.getElem_mem hdz)
  have hget : (pre ++ (ds ++ us.drop ds.length) ++ post).getD (pre.length + (ds.length : Int).toNat) 0 = us.getD ds.length 0 := by
    rw [Int.toNat_natCast, getD_mid rfl (by simp; omega), drop_cons hdz]; rfl
  have hlen : pre.length + (ds.length : Int).toNat < (pre ++ (ds ++ us.drop ds.length) ++ post).length := by simp; omega
  have hld1 := ld_in (j := (ds.length : Int)) (up_get h k ⟨(pre ++ (ds ++ us.drop ds.length) ++ post).map uw, true⟩) hlen
  rw [hget] at hld1
  have put : ∀ z : Nat, (h.up k ⟨(pre ++ (ds ++ us.drop ds.length) ++ post).map uw, true⟩).up k ⟨((pre ++ (ds ++ us.drop ds.length) ++ post).set (pre.length + (ds.length : Int).toNat) z).map uw, true⟩ = h.up k ⟨(pre ++ ((ds ++ [z]) ++ us.drop (ds ++ [z]).length) ++ post).map uw, true⟩ := fun z => by
    rw [Hp.up_up, Int.toNat_natCast, drop_cons hdz, set_mid]; simp
  have mem : ∀ z, z < B → ∀ w ∈ ds ++ [z], w < B := fun z hz w hw => by
    rw [List.mem_append, List.mem_singleton] at hw
    rcases hw with h | rfl
    · exact hlt w h
    · exact hz
  refine ⟨fun hi => ?_, fun hi => ?_⟩
  · simp only [decide_eq_true_eq] at hi
    have hi' : ds.length < vs.length := by omega
    have hy := gv.getD_lt ds.length
    refine ⟨by omega, by first | omega | (dsimp only; omega), rfl, by omega, by omega, gv.isS (by omega), _, hld1, _, (gv' _).ld (by omega) (by omega), (bits_Add64 _ _ _ hcc).const ?_⟩
    simp only [Int.toNat_natCast]
    refine ⟨_, _, rfl, by omega, by first | omega | (dsimp only; omega), rfl, _, st_in (up_get _ _ _) hlen, ?_⟩
    intro x27 e
    rw [i64w (by omega) (by omega)] at e
    subst e
    refine ⟨⟨ds ++ [(us.getD ds.length 0 + vs.getD ds.length 0 + cc) % B], _, by simp, by simp; omega, rfl, ?_, put _, mem _ (Nat.mod_lt _ (by decide)), ?_⟩, by first | omega | (dsimp only; omega)⟩
    · exact Nat.lt_succ_iff.1 (Nat.div_lt_of_lt_mul (by omega))
    · rw [vl_snoc, List.length_append, List.length_singleton, vl_take_succ, vl_take_succ, Nat.pow_succ]
      exact add_step (Nat.mod_add_div _ _) hv
  · simp only [decide_eq_false_iff_not] at hi
    have hdv : ds.length = vs.length := by omega
    rw [show ((v.n : Nat) : Int) = (ds.length : Int) by omega]
    refine ⟨by omega, by first | omega | (dsimp only; omega), rfl, _, hld1, fun x34 e34 => ?_⟩
    rw [← Int.natCast_add, wrapM] at e34
    subst e34
    refine ⟨by omega, by first | omega | (dsimp only; omega), rfl, _, st_in (up_get _ _ _) hlen, rfl, (us.getD ds.length 0 + cc) / B, ds ++ [(us.getD ds.length 0 + cc) % 18446744073709551616], ?_, by simp; omega, mem _ (Nat.mod_lt _ (by decide)), ?_⟩
    · rw [put]
      have : us.drop (ds ++ [(us.getD ds.length 0 + cc) % 18446744073709551616]).length = [] := List.drop_of_length_le (by simp; omega)
      rw [this, List.append_nil]
    · rw [vl_snoc]
      have e1 : vl us = vl (us.take ds.length) + B ^ ds.length * us.getD ds.length 0 := by
        rw [← vl_take_succ, List.take_of_length_le (by omega)]
      rw [hdv, List.take_length, ← hdv] at hv
      have e2 := congrArg (B ^ ds.length * ·) (Nat.mod_add_div (us.getD ds.length 0 + cc) B)
      simp only [Nat.mul_add] at e2
      rw [hl, ← hdv, Nat.pow_succ, Nat.mul_assoc, e1]
      have e3 : (us.getD ds.length 0 + cc) % 18446744073709551616 = (us.getD ds.length 0 + cc) % B := rfl
      rw [e3]
      omega

end Go.Proofs.Ytmfafadchpglgaa

/- divnat: long. -/
namespace Go.Proofs.Ytmfafadchpglgaa
set_option maxRecDepth 20000

theorem lz_up {x : Nat} (h0 : 0 < x) (h1 : x < B) : (x + 1) * 2 ^ lz x ≤ B := by
  obtain ⟨a, b, c⟩ := lz_spec h0 h1
  have hpp : 2 ^ (64 - lz x) * 2 ^ lz x = B := by rw [← Nat.pow_add, show 64 - lz x + lz x = 64 by omega]
  have : x < 2 ^ (64 - lz x) := by rw [← hpp] at b; exact Nat.lt_of_mul_lt_mul_right b
  rw [← hpp]; exact Nat.mul_le_mul_right _ this

theorem knuth {W V P K T S plow vlow : Nat} (hW : 0 < W) (hK : 0 < K) (hP : P = T * K + plow) (hp : plow < K) (hV : V = S * K + vlow) (hvl : vlow < K) (hS : W ≤ S) (hPV : P < V * W) :
    P / V ≤ min (W - 1) (T / S) ∧ min (W - 1) (T / S) ≤ P / V + 1 := by
  have hVp : 0 < V := by
    have : 1 * 1 ≤ S * K := Nat.mul_le_mul (by omega) hK
    omega
  have hSp : 0 < S := by omega
  constructor
  · have h1 : P / V < W := by rw [Nat.div_lt_iff_lt_mul hVp, Nat.mul_comm]; exact hPV
    have h2 : P / V ≤ T / S := by
      rw [Nat.le_div_iff_mul_le hSp]
      have h3 := Nat.div_mul_le_self P V
      generalize P / V = q at *
      have h4 : q * (S * K) ≤ q * V := Nat.mul_le_mul_left _ (by omega)
      rw [← Nat.mul_assoc] at h4
      have h5 : q * S * K < (T + 1) * K := by rw [Nat.add_mul]; omega
      exact Nat.lt_succ_iff.1 (Nat.lt_of_mul_lt_mul_right h5)
    omega
  · obtain ⟨G, hG⟩ : ∃ G, G = min (W - 1) (T / S) := ⟨_, rfl⟩
    rw [← hG]
    have h1 : G * S ≤ T := by
      have : G ≤ T / S := by omega
      exact (Nat.le_div_iff_mul_le hSp).1 this
    rcases Nat.eq_zero_or_pos G with h0 | h0
    · rw [h0]; exact Nat.zero_le _
    · obtain ⟨g, rfl⟩ : ∃ g, G = g + 1 := ⟨G - 1, by omega⟩
      have hgW : g + 1 ≤ W - 1 := by omega
      suffices g ≤ P / V by omega
      rw [Nat.le_div_iff_mul_le hVp]
      have h2 : (g + 1) * S * K ≤ T * K := Nat.mul_le_mul_right _ h1
      have h4 : W * K ≤ S * K := Nat.mul_le_mul_right _ hS
      have h5 : (g + 1) * vlow ≤ W * K := Nat.mul_le_mul (by omega) (by omega)
      have h6 : (g + 1) * V = (g + 1) * S * K + (g + 1) * vlow := by rw [hV, Nat.mul_add, Nat.mul_assoc]
      rw [Nat.add_mul g 1 V, Nat.one_mul] at h6
      omega

/-- The three highest words of n + 1. -/
theorem tops {ps : List Nat} {n : Nat} (hn : 2 ≤ n) : vl (ps.take (n + 1)) = ((ps.getD n 0 * B + ps.getD (n - 1) 0) * B + ps.getD (n - 2) 0) * B ^ (n - 2) + vl (ps.take (n - 2)) := by
  obtain ⟨m, rfl⟩ : ∃ m, n = m + 2 := ⟨n - 2, by omega⟩
  rw [show m + 2 - 1 = m + 1 by omega, show m + 2 - 2 = m by omega, vl_take_succ, vl_take_succ, vl_take_succ]
  simp only [Nat.pow_succ]
  rw [Nat.add_mul, Nat.add_mul, Nat.add_mul]
  have h1 : B ^ m * B * B * ps.getD (m + 2) 0 = ps.getD (m + 2) 0 * B * B * B ^ m := by
    rw [Nat.mul_comm (B ^ m * B * B), Nat.mul_assoc (B ^ m), Nat.mul_comm (B ^ m), ← Nat.mul_assoc, ← Nat.mul_assoc]
  have h2 : B ^ m * B * ps.getD (m + 1) 0 = ps.getD (m + 1) 0 * B * B ^ m := by
    rw [Nat.mul_comm (B ^ m * B), Nat.mul_comm (B ^ m), ← Nat.mul_assoc]
  have h3 : B ^ m * ps.getD m 0 = ps.getD m 0 * B ^ m := Nat.mul_comm _ _
  omega
theorem tops2 {ps : List Nat} {n : Nat} (hn : 2 ≤ n) : vl (ps.take n) = (ps.getD (n - 1) 0 * B + ps.getD (n - 2) 0) * B ^ (n - 2) + vl (ps.take (n - 2)) := by
  obtain ⟨m, rfl⟩ : ∃ m, n = m + 2 := ⟨n - 2, by omega⟩
  rw [show m + 2 - 1 = m + 1 by omega, show m + 2 - 2 = m by omega, vl_take_succ, vl_take_succ]
  simp only [Nat.pow_succ]
  rw [Nat.add_mul]
  have h2 : B ^ m * B * ps.getD (m + 1) 0 = ps.getD (m + 1) 0 * B * B ^ m := by
    rw [Nat.mul_comm (B ^ m * B), Nat.mul_comm (B ^ m), ← Nat.mul_assoc]
  have h3 : B ^ m * ps.getD m 0 = ps.getD m 0 * B ^ m := Nat.mul_comm _ _
  omega

theorem vl_set (ws : List Nat) (i x : Nat) (hi : i < ws.length) : vl (ws.set i x) + B ^ i * ws.getD i 0 = vl ws + B ^ i * x := by
  have h1 := vl_split (ws.set i x) i
  have h2 := vl_split ws i
  rw [vl_drop] at h1 h2
  have e1 : (ws.set i x).take i = ws.take i := by rw [List.take_set_of_le (Nat.le_refl _)]
  have e2 : (ws.set i x).drop (i + 1) = ws.drop (i + 1) := by rw [List.drop_set_of_lt (Nat.lt_succ_self _)]
  have e3 : (ws.set i x).getD i 0 = x := by simp [List.getD, hi]
  rw [e1, e2, e3, Nat.mul_add] at h1
  rw [Nat.mul_add] at h2
  omega

theorem getD_drop (ws : List Nat) (j i : Nat) : (ws.drop j).getD i 0 = ws.getD (j + i) 0 := by simp [List.getD, List.getElem?_drop]
theorem getD_take {ws : List Nat} {n i : Nat} (h : i < n) : (ws.take n).getD i 0 = ws.getD i 0 := by simp [List.getD, List.getElem?_take, h]

theorem mem_set {qs : List Nat} (hq : ∀ w ∈ qs, w < B) {j x : Nat} (hx : x < B) : ∀ w ∈ qs.set j x, w < B := fun w hw => by
  rcases List.mem_or_eq_of_mem_set hw with h | h
  · exact hq w h
  · rw [h]; exact hx

/-- What the loop of the division keeps. -/
structure Lng (X2 V L m : Nat) (j : Int) (us qs : List Nat) : Prop where
  ul : us.length = L
  ub : ∀ w ∈ us, w < B
  ql : qs.length = m + 1
  qb : ∀ w ∈ qs, w < B
  qz : ∀ i : Nat, (i : Int) ≤ j → qs.getD i 0 = 0
  eq : vl qs * V + vl us = X2
  lt : vl (us.drop (j + 1).toNat) < V

/-- One word of the quotient: the part at j becomes less by q times V. -/
theorem Lng.step {X2 V L m n j q : Nat} {us qs part' : List Nat} (s : Lng X2 V L m (j : Int) us qs) (hj : j ≤ m) (hV : V < B ^ n) (hn : j + n + 1 ≤ L) (hq : q = vl (us.drop j) / V) (hqB : q < B) (hpl : part'.length = n + 1) (hpb : ∀ w ∈ part', w < B) (hpv : vl part' = vl (us.drop j) % V) :
    Lng X2 V L m ((j : Int) - 1) (us.take j ++ part' ++ us.drop (j + n + 1)) (qs.set j q) := by
  have hVp : 0 < V := by have := s.lt; omega
  have hrest : vl (us.drop (j + n + 1)) = 0 := by
    have h1 := vl_split (us.drop j) (n + 1)
    rw [List.drop_drop] at h1
    have h2 := vl_drop us j
    have h3 := s.lt
    rw [show ((j : Int) + 1).toNat = j + 1 by omega] at h3
    have h4 : us.getD j 0 < B := by
      have hlt : j < us.length := by have := s.ul; omega
      simp only [List.getD, List.getElem?_eq_getElem hlt, Option.getD_some]
      exact s.ub _ (List.getElem_mem hlt)
    have h5 : B * (vl (us.drop (j + 1)) + 1) ≤ B * V := Nat.mul_le_mul_left _ h3
    have h6 : B * (V + 1) ≤ B * B ^ n := Nat.mul_le_mul_left _ hV
    rw [Nat.mul_add, Nat.mul_one] at h5 h6
    rw [show j + (n + 1) = j + n + 1 by omega, Nat.pow_succ, Nat.mul_comm (B ^ n) B] at h1
    rcases Nat.eq_zero_or_pos (vl (us.drop (j + n + 1))) with h | h
    · exact h
    · have : B * B ^ n * 1 ≤ B * B ^ n * vl (us.drop (j + n + 1)) := Nat.mul_le_mul_left _ h
      omega
  have htl : (us.take j).length = j := by have := s.ul; simp; omega
  have hsum : vl (us.take j ++ part' ++ us.drop (j + n + 1)) = vl (us.take j) + B ^ j * (vl (us.drop j) % V) := by
    rw [vl_append, hrest, Nat.mul_zero, Nat.add_zero, vl_append, htl, hpv]
  refine ⟨by have := s.ul; simp; omega, lt_app (lt_app (lt_take s.ub j) hpb) (lt_drop s.ub _), by simp [s.ql], mem_set s.qb hqB, fun i hi => ?_, ?_, ?_⟩
  · have : i ≠ j := by omega
    have h1 := s.qz i (by omega)
    simpa [List.getD, List.getElem?_set, Ne.symm this] using h1
  · have h1 := vl_set qs j q (by rw [s.ql]; omega)
    rw [s.qz j (by omega), Nat.mul_zero, Nat.add_zero] at h1
    rw [h1, hsum, ← s.eq, Nat.add_mul]
    have h2 := vl_split us j
    have h3 := Nat.div_add_mod (vl (us.drop j)) V
    have h4 : B ^ j * (V * (vl (us.drop j) / V) + vl (us.drop j) % V) = B ^ j * vl (us.drop j) := by rw [h3]
    rw [Nat.mul_add, ← hq, Nat.mul_comm V q, ← Nat.mul_assoc] at h4
    omega
  · have e : ((j : Int) - 1 + 1).toNat = j := by omega
    rw [e, List.append_assoc, List.drop_append_of_le_length (by omega), List.drop_of_length_le (by omega), List.nil_append, vl_append, hrest, hpv, Nat.mul_zero, Nat.add_zero]
    exact Nat.mod_lt _ hVp

theorem gueW_bounds {W V P K u2 u1 u0 v1 v0 plow vlow : Nat} (hW : 0 < W) (hK : 0 < K) (hP : P = ((u2 * W + u1) * W + u0) * K + plow) (hp : plow < K) (hV : V = (v1 * W + v0) * K + vlow) (hvl : vlow < K) (hv1 : 0 < v1) (hPV : P < V * W) :
    P / V ≤ gueW W u2 u1 u0 v1 v0 ∧ gueW W u2 u1 u0 v1 v0 ≤ P / V + 1 ∧ gueW W u2 u1 u0 v1 v0 < W := by
  have hS : W ≤ v1 * W + v0 := by
    have : 1 * W ≤ v1 * W := Nat.mul_le_mul_right _ hv1
    omega
  obtain ⟨a, b⟩ := knuth hW hK hP hp hV hvl hS hPV
  refine ⟨a, b, ?_⟩
  unfold gueW
  have := Nat.min_le_left (W - 1) (((u2 * W + u1) * W + u0) / (v1 * W + v0))
  omega

/-- A digit of the division: the part, the guess. -/
theorem long_digit {X2 V L m n J : Nat} {us qs vs : List Nat} (hn : 2 ≤ n) (s : Lng X2 V L m (J : Int) us qs) (hvl : vs.length = n) (vsb : ∀ w ∈ vs, w < B) (vsv : vl vs = V) (hV : V < B ^ n) (v1p : 0 < vs.getD (n - 1) 0) (hJ : J + n + 1 ≤ L) :
    ∃ (ps : List Nat) (q d : Nat), us.take J ++ ps ++ us.drop (J + n + 1) = us ∧ ps.length = n + 1 ∧ (∀ w ∈ ps, w < B) ∧ vl ps = vl (us.drop J) ∧ vl (us.drop J) < B ^ (n + 1) ∧ V ≤ B ^ (n + 1) ∧ us.getD (J + n) 0 ≤ vs.getD (n - 1) 0 ∧
      q = vl (us.drop J) / V ∧ d = gue (us.getD (J + n) 0) (us.getD (J + (n - 1)) 0) (us.getD (J + (n - 2)) 0) (vs.getD (n - 1) 0) (vs.getD (n - 2) 0) ∧ q ≤ d ∧ d ≤ q + 1 ∧ d < B ∧ q < B := by
  have hul := s.ul
  have vtops := tops2 (ps := vs) (n := n) hn
  rw [List.take_of_length_le (by omega), vsv] at vtops
  have vlow : vl (vs.take (n - 2)) < B ^ (n - 2) := vl_take_lt vsb _
  obtain ⟨ps, hps'⟩ : ∃ ps, ps = (us.drop J).take (n + 1) := ⟨_, rfl⟩
  have hpl : ps.length = n + 1 := by rw [hps', List.length_take, List.length_drop]; omega
  have hpb : ∀ w ∈ ps, w < B := by rw [hps']; exact lt_take (lt_drop s.ub _) _
  have hpg : ∀ i, i < n + 1 → ps.getD i 0 = us.getD (J + i) 0 := fun i hi => by rw [hps', getD_take hi, getD_drop]
  have hdlt := s.lt
  rw [show ((J : Int) + 1).toNat = J + 1 by omega] at hdlt
  have u0B : us.getD J 0 < B := by
    have hlt : J < us.length := by omega
    simp only [List.getD, List.getElem?_eq_getElem hlt, Option.getD_some]
    exact s.ub _ (List.getElem_mem hlt)
  have hPV : vl (us.drop J) < B * V := by
    rw [vl_drop us J]
    have : B * (vl (us.drop (J + 1)) + 1) ≤ B * V := Nat.mul_le_mul_left _ hdlt
    rw [Nat.mul_add, Nat.mul_one] at this
    omega
  have hPW : vl (us.drop J) < B ^ (n + 1) := by
    rw [Nat.pow_succ, Nat.mul_comm]
    exact Nat.lt_of_lt_of_le hPV (Nat.mul_le_mul_left _ (Nat.le_of_lt hV))
  have hVW : V ≤ B ^ (n + 1) := Nat.le_trans (Nat.le_of_lt hV) (Nat.pow_le_pow_right (by decide) (by omega))
  have hP : vl ps = vl (us.drop J) := by
    have h1 := vl_split (us.drop J) (n + 1)
    rw [← hps'] at h1
    rcases Nat.eq_zero_or_pos (vl ((us.drop J).drop (n + 1))) with h | h
    · rw [h] at h1; omega
    · have : B ^ (n + 1) * 1 ≤ B ^ (n + 1) * vl ((us.drop J).drop (n + 1)) := Nat.mul_le_mul_left _ h
      omega
  have ptops := tops (ps := ps) (n := n) hn
  rw [List.take_of_length_le (by omega), hP, hpg n (by omega), hpg (n - 1) (by omega), hpg (n - 2) (by omega)] at ptops
  have plow : vl (ps.take (n - 2)) < B ^ (n - 2) := vl_take_lt hpb _
  have u2le : us.getD (J + n) 0 ≤ vs.getD (n - 1) 0 := by
    have h1 := vl_take_succ (us.drop (J + 1)) (n - 1)
    rw [getD_drop, show J + 1 + (n - 1) = J + n by omega, show n - 1 + 1 = n by omega] at h1
    have h2 := vl_split (us.drop (J + 1)) n
    have h3 := vl_take_succ vs (n - 1)
    rw [show n - 1 + 1 = n by omega, List.take_of_length_le (by omega), vsv] at h3
    have h4 : vl (vs.take (n - 1)) < B ^ (n - 1) := vl_take_lt vsb _
    have h5 : B ^ (n - 1) * us.getD (J + n) 0 < B ^ (n - 1) * (vs.getD (n - 1) 0 + 1) := by
      rw [Nat.mul_add, Nat.mul_one]; omega
    exact Nat.lt_succ_iff.1 (Nat.lt_of_mul_lt_mul_left h5)
  obtain ⟨k1, k2, k3⟩ := gueW_bounds (W := B) (by decide) (Nat.pow_pos (by decide)) ptops plow vtops vlow v1p (by rw [Nat.mul_comm]; exact hPV)
  have k4 : vl (us.drop J) / V < B := Nat.lt_of_le_of_lt k1 k3
  refine ⟨ps, _, _, ?_, hpl, hpb, hP, hPW, hVW, u2le, rfl, rfl, k1, k2, k3, k4⟩
  rw [hps', List.append_assoc, show us.drop (J + n + 1) = (us.drop J).drop (n + 1) by rw [List.drop_drop]; congr 1, List.take_append_drop, List.take_append_drop]

end Go.Proofs.Ytmfafadchpglgaa

/- divnat: long, Word, DivMod, Exact. -/
namespace Go.Proofs.Ytmfafadchpglgaa
set_option maxRecDepth 20000

theorem NatR.le {h h' h'' : Hp} {s : Sl} {x : Nat} (o : NatR h h' s x) (hl : h'.le h'') : NatR h h'' s x := Own.le o hl
theorem NatR.ge {h0 h h' : Hp} {s : Sl} {x : Nat} (o : NatR h h' s x) (hl : h0.le h) : NatR h0 h' s x := Own.ge o hl

/-- Q: the quotient that the guess and the last step come to. -/
theorem guess_fix' {P V d q l : Nat} {W : Nat} (hq : q = P / V) (hV : 0 < V) (hd1 : q ≤ d) (hd2 : d ≤ q + 1) {a : Nat} (ha : a < W) (hPW : P < W) (hVW : V ≤ W) (hl : l ≤ 1) (e : a + d * V = P + W * l) :
    (l = 0 → d = q ∧ a = P % V) ∧ (l = 1 → d = q + 1 ∧ ∀ b l' : Nat, b < W → b + W * l' = a + V → b = P % V) := by
  have hdm := Nat.div_add_mod P V
  have hml := Nat.mod_lt P hV
  rw [← hq] at hdm
  rw [Nat.mul_comm] at hdm
  generalize P % V = r at *
  have hd : d = q ∨ d = q + 1 := by omega
  refine ⟨fun h0 => ?_, fun h1 => ?_⟩
  · subst h0
    rcases hd with rfl | rfl
    · exact ⟨rfl, by omega⟩
    · exfalso; rw [Nat.add_mul, Nat.one_mul] at e; omega
  · subst h1
    rcases hd with rfl | rfl
    · exfalso; omega
    · refine ⟨rfl, fun b l' hb eb => ?_⟩
      rw [Nat.add_mul, Nat.one_mul, Nat.mul_one] at e
      have : l' = 1 := by
        rcases Nat.lt_or_ge l' 1 with h | h
        · exfalso; have : l' = 0 := by omega
          subst this; omega
        · rcases Nat.lt_or_ge l' 2 with h' | h'
          · omega
          · exfalso
            have : W * 2 ≤ W * l' := Nat.mul_le_mul_left _ h'
            omega
      subst this
      omega

set_option maxHeartbeats 4000000 in
theorem divnat_long {h : Hp} {x y : Sl} {xs ys : List Nat} (gx : Ws h x xs) (gy : Ws h y ys) (hn : 2 ≤ ys.length) (hl : ys.length ≤ xs.length) (hx : xs.length < 1000000000000) (htop : sz ys = ys.length) :
    Tri Try.prog (.func (.func 98) #[] #[]) [x.v, y.v] h fun v h' => h.le h' ∧ ∃ q r : Sl, v = .tuple #[q.v, r.v] ∧ NatR h h' q (vl xs / vl ys) ∧ NatR h h' r (vl xs % vl ys) := by
  have hB : B = 18446744073709551616 := rfl
  have hxn := gx.len
  have hyn := gy.len
  obtain ⟨n, hnn⟩ : ∃ n, n = ys.length := ⟨_, rfl⟩
  obtain ⟨m, hm⟩ : ∃ m, m = xs.length - n := ⟨_, rfl⟩
  refine t_divnat_long fun x19 e19 => ?_
  rw [i64w (by omega) (by omega)] at e19
  have e19' : x19 = ((n - 1 : Nat) : Int) := by omega
  clear e19
  subst e19'
  refine ⟨by omega, by omega, gy.isS (by omega), _, gy.ld (by omega) (by omega), ?_⟩
  rw [Int.toNat_natCast]
  have ht0 : ys.getD (n - 1) 0 ≠ 0 := by have := sz_top ys (by omega); rw [htop, ← hnn] at this; exact this
  have htB := gy.getD_lt (n - 1)
  generalize hT : ys.getD (n - 1) 0 = top at *
  refine (bits_LeadingZeros64 top htB).const ?_
  obtain ⟨s1, s2, s3⟩ := lz_spec (Nat.pos_of_ne_zero ht0) htB
  have s4 := lz_up (Nat.pos_of_ne_zero ht0) htB
  generalize lz top = s at *
  refine ⟨_, rfl, fun x23 e23 => ?_⟩
  rw [u64w (by omega) (by omega)] at e23
  subst e23
  obtain ⟨V, hV⟩ : ∃ V, V = vl ys * 2 ^ s := ⟨_, rfl⟩
  obtain ⟨X2, hX2⟩ : ∃ X2, X2 = vl xs * 2 ^ s := ⟨_, rfl⟩
  have hps : 0 < 2 ^ s := Nat.pow_pos (by decide)
  obtain ⟨n1, hn1⟩ : ∃ n1, n = n1 + 1 := ⟨n - 1, by omega⟩
  have hyv : vl ys = vl (ys.take n1) + B ^ n1 * top := by
    have := vl_take_succ ys n1
    rw [← hn1, hnn, List.take_length] at this
    rw [this]; congr 2; rw [← hT]; congr 1; omega
  have hyl := vl_take_lt gy.lt n1
  have hVn : V < B ^ n := by
    have h1 : vl ys < B ^ n1 * (top + 1) := by rw [Nat.mul_add, Nat.mul_one]; omega
    have h2 : vl ys * 2 ^ s < B ^ n1 * (top + 1) * 2 ^ s := (Nat.mul_lt_mul_right hps).2 h1
    have h3 : B ^ n1 * ((top + 1) * 2 ^ s) ≤ B ^ n1 * B := Nat.mul_le_mul_left _ s4
    rw [Nat.mul_assoc] at h2
    rw [hV, hn1, Nat.pow_succ]
    omega
  have hVge : B ^ n1 * (B / 2) ≤ V := by
    have h1 : B ^ n1 * (B / 2) ≤ B ^ n1 * (top * 2 ^ s) := Nat.mul_le_mul_left _ s3
    have h2 : V = vl (ys.take n1) * 2 ^ s + B ^ n1 * (top * 2 ^ s) := by rw [hV, hyv, Nat.add_mul, Nat.mul_assoc]
    omega
  have hVp : 0 < V := by
    have : 0 < B ^ n1 * (B / 2) := Nat.mul_pos (Nat.pow_pos (by decide)) (by decide)
    omega
  have hxlt := vl_lt gx.lt
  have h2s : 2 ^ s ≤ B / 2 := by
    have : (2 : Nat) ^ s ≤ 2 ^ 63 := Nat.pow_le_pow_right (by decide) (by omega)
    exact this
  have hX2lt : X2 < B ^ xs.length * 2 ^ s := by rw [hX2]; exact (Nat.mul_lt_mul_right hps).2 hxlt
  have hX2n : X2 < B ^ (xs.length + 1) := by
    rw [Nat.pow_succ]
    have : B ^ xs.length * 2 ^ s ≤ B ^ xs.length * B := Nat.mul_le_mul_left _ (by omega)
    omega
  rw [hyn]
  refine (divnat_shifted gy s1 (by omega) (Nat.le_refl _) (by rw [← hV, ← hnn]; exact hVn)).mono ?_
  rintro _ h2 ⟨l1, kv, vs, rfl, nkv, hh2, vsl, vsb, vsv⟩
  rw [← hV] at vsv
  refine ⟨_, rfl, fun x32 e32 => ?_⟩
  rw [i64w (by omega) (by omega)] at e32
  have e32' : x32 = ((xs.length + 1 : Nat) : Int) := by omega
  clear e32
  subst e32'
  refine (divnat_shifted (gx.le l1) s1 (by omega) (by omega) (by rw [← hX2]; exact hX2n)).mono ?_
  rintro _ h3 ⟨l2, ku, us0, rfl, nku, hh3, usl, usb, usv⟩
  rw [← hX2] at usv
  refine ⟨_, rfl, fun x37 e37 x38 e38 => ?_⟩
  rw [i64w (by omega) (by omega)] at e37
  subst e37
  rw [i64w (by omega) (by omega)] at e38
  have e38' : x38 = ((m + 1 : Nat) : Int) := by omega
  clear e38
  subst e38'
  refine ⟨by omega, by omega, by omega, by omega, ?_⟩
  rintro kq h4 nkq hh4
  rw [Int.toNat_natCast, mkZ] at hh4
  intro x43 e43
  rw [i64w (by omega) (by omega)] at e43
  have e43' : x43 = (m : Int) := by omega
  clear e43
  subst e43'
  rw [Int.toNat_natCast]
  have dvu : kv ≠ ku := fun e => by rw [hh2, ← e, up_get] at nku; cases nku
  have dvq : kv ≠ kq := fun e => by rw [hh3, ← e, Hp.up_other _ _ dvu, hh2, up_get] at nkq; cases nkq
  have duq : ku ≠ kq := fun e => by rw [hh3, ← e, up_get] at nkq; cases nkq
  have nkq2 : h2 kq = none := by rw [hh3, Hp.up_other _ _ (Ne.symm duq)] at nkq; exact nkq
  have nq0 : h kq = none := Hp.none_of_le l1 nkq2
  obtain ⟨St, hSt⟩ : ∃ St : List Nat → List Nat → Hp, St = fun us qs => (h2.up ku ⟨us.map uw, true⟩).up kq ⟨qs.map uw, true⟩ := ⟨_, rfl⟩
  have St_u : ∀ us qs, St us qs ku = some ⟨us.map uw, true⟩ := fun us qs => by rw [hSt]; simp only; rw [Hp.up_other _ _ duq, up_get]
  have St_q : ∀ us qs, St us qs kq = some ⟨qs.map uw, true⟩ := fun us qs => by rw [hSt]; simp only; rw [up_get]
  have St_pu : ∀ us qs us', (St us qs).up ku ⟨us'.map uw, true⟩ = St us' qs := fun us qs us' => by rw [hSt]; simp only; rw [Hp.up_comm _ _ _ (Ne.symm duq), Hp.up_up]
  have St_pq : ∀ us qs qs', (St us qs).up kq ⟨qs'.map uw, true⟩ = St us qs' := fun us qs qs' => by rw [hSt]; simp only; rw [Hp.up_up]
  have St_le : ∀ us qs, h2.le (St us qs) := fun us qs => by
    rw [hSt]; exact Hp.le_trans (Hp.le_up _ nku) (Hp.le_up _ (by rw [Hp.up_other _ _ (Ne.symm duq)]; exact nkq2))
  have hh4' : h4 = St us0 (List.replicate (m + 1) 0) := by rw [hh4, hh3, hSt]
  rw [hh4']
  clear hh4' hh4
  have gv2 : Ws h2 ⟨some (blkA kv), ys.length, ys.length⟩ vs := by rw [← vsl]; exact Ws.blk (by rw [hh2, up_get]) vsb (Nat.le_refl _)
  have gvS : ∀ us qs, Ws (St us qs) ⟨some (blkA kv), ys.length, ys.length⟩ vs := fun us qs => gv2.le (St_le us qs)
  have gvD : ∀ us qs, Ws ((St us qs).del ku) ⟨some (blkA kv), ys.length, ys.length⟩ vs := fun us qs => (gvS us qs).del dvu
  have vs1 : vs.getD (n - 1) 0 < B := gv2.getD_lt _
  have vs0 : vs.getD (n - 2) 0 < B := gv2.getD_lt _
  have hBn : B ^ n1 = B ^ (n - 2) * B := by rw [← Nat.pow_succ]; congr 1; omega
  have v1ge : B / 2 ≤ vs.getD (n - 1) 0 := by
    have h1 : vl (vs.take (n - 1)) < B ^ (n - 1) := vl_take_lt vsb _
    have h2 := vl_take_succ vs (n - 1)
    rw [show n - 1 + 1 = n by omega, List.take_of_length_le (by omega), vsv, show n - 1 = n1 by omega] at h2
    rw [show n - 1 = n1 by omega] at h1 ⊢
    have h3 : B ^ n1 * (B / 2) < B ^ n1 * (vs.getD n1 0 + 1) := by rw [Nat.mul_add, Nat.mul_one]; omega
    exact Nat.lt_succ_iff.1 (Nat.lt_of_mul_lt_mul_left h3)
  have v1p : 0 < vs.getD (n - 1) 0 := by omega
  refine ⟨fun j h5 => ∃ us qs : List Nat, -1 ≤ j ∧ j ≤ m ∧ h5 = St us qs ∧ Lng X2 V (xs.length + 1) m j us qs, fun j _ => (j + 1).toNat, ⟨us0, List.replicate (m + 1) 0, by omega, by omega, rfl, ⟨usl, usb, by simp, lt_rep _, fun i _ => by simp [List.getD, List.getElem?_replicate]; split <;> rfl, by rw [vl_replicate_zero, usv]; omega, ?_⟩⟩, ?_⟩
  · have e : ((m : Int) + 1).toNat = m + 1 := by omega
    rw [e]
    have h1 := vl_split us0 (m + 1)
    rw [usv] at h1
    have h3 : B ^ (m + 1) * vl (us0.drop (m + 1)) < B ^ (m + 1) * V := by
      have h4 : B ^ (m + 1) * (B ^ n1 * (B / 2)) ≤ B ^ (m + 1) * V := Nat.mul_le_mul_left _ hVge
      rw [← Nat.mul_assoc, ← Nat.pow_add, show m + 1 + n1 = xs.length by omega] at h4
      have h5 : B ^ xs.length * 2 ^ s ≤ B ^ xs.length * (B / 2) := Nat.mul_le_mul_left _ h2s
      omega
    exact Nat.lt_of_mul_lt_mul_left h3
  rintro j h5 ⟨us, qs, hj1, hj2, hh5, sL⟩
  rw [hh5]
  clear hh5 hh3 hh2 hVge hX2lt h2s hX2n hxlt hyv hyl hBn v1ge s2 s3 s4 htB ht0 hT usv usb usl nkq nkq2 nku nkv dvq
  refine ⟨fun hc => ?_, fun hc => ?_⟩
  · simp only [decide_eq_true_eq] at hc
    obtain ⟨J, rfl⟩ : ∃ J : Nat, j = (J : Int) := ⟨j.toNat, by omega⟩
    have hul := sL.ul
    have hJ : J ≤ m := by omega
    intro x51 e51
    rw [i64w (by omega) (by omega)] at e51
    have e51' : x51 = ((J + n : Nat) : Int) := by omega
    clear e51
    subst e51'
    refine ⟨by omega, by dsimp only; omega, rfl, fun x57 e57 x58 e58 => ?_⟩
    rw [i64w (by omega) (by omega)] at e57
    subst e57
    rw [i64w (by omega) (by omega)] at e58
    have e58' : x58 = ((J + (n - 1) : Nat) : Int) := by omega
    clear e58
    subst e58'
    refine ⟨by omega, by dsimp only; omega, rfl, fun x64 e64 x65 e65 => ?_⟩
    rw [i64w (by omega) (by omega)] at e64
    subst e64
    rw [i64w (by omega) (by omega)] at e65
    have e65' : x65 = ((J + (n - 2) : Nat) : Int) := by omega
    clear e65
    subst e65'
    refine ⟨by omega, by dsimp only; omega, rfl, fun x70 e70 => ?_⟩
    rw [i64w (by omega) (by omega)] at e70
    have e70' : x70 = ((n - 1 : Nat) : Int) := by omega
    clear e70
    subst e70'
    refine ⟨by omega, by dsimp only; omega, rfl, fun x75 e75 => ?_⟩
    rw [i64w (by omega) (by omega)] at e75
    have e75' : x75 = ((n - 2 : Nat) : Int) := by omega
    clear e75
    subst e75'
    have gu : Ws (St us qs) ⟨some (blkA ku), xs.length + 1, xs.length + 1⟩ us := by rw [← hul]; exact Ws.blk (St_u us qs) sL.ub (Nat.le_refl _)
    refine ⟨by omega, by dsimp only; omega, rfl, _, gu.ld (by omega) (by omega), _, gu.ld (by omega) (by omega), _, gu.ld (by omega) (by omega), _, (gvS us qs).ld (by omega) (by omega), _, (gvS us qs).ld (by omega) (by omega), ?_⟩
    simp only [Int.toNat_natCast]
    obtain ⟨ps, q, d, husp, hpl, hpb, hP, hPW, hVW, u2le, hq, hd, kn1, kn2, hdB, hqB⟩ := long_digit (by omega) sL (by omega) vsb vsv hVn v1p (by omega)
    refine (divnat_guess _ _ _ _ _ (gu.getD_lt _) (gu.getD_lt _) (gu.getD_lt _) vs1 vs0 v1p u2le).const ?_
    rw [← hd]
    clear hd
    refine ⟨_, rfl, fun J1 hJ1 => ?_⟩
    have fin : ∀ part' : List Nat, part'.length = n + 1 → (∀ w ∈ part', w < B) → vl part' = vl (us.drop J) % V → ∀ x : Int, x = (q : Nat) → J1 x (St (us.take J ++ part' ++ us.drop (J + n + 1)) qs) := by
      rintro part' pl pb pv _ rfl
      have hql : ((J : Int)).toNat < qs.length := by rw [sL.ql]; omega
      have hst := hst_word (h := St (us.take J ++ part' ++ us.drop (J + n + 1)) qs) (j := (J : Int)) (x := q) (St_q _ qs) (by omega) (by rw [sL.ql]; omega)
      refine hJ1 _ _ ⟨by omega, by omega, rfl, _, hst, fun x47 e47 => ?_⟩
      rw [i64w (by omega) (by omega)] at e47
      subst e47
      rw [St_pq, Int.toNat_natCast]
      exact ⟨⟨_, _, by omega, by omega, rfl, sL.step hJ hVn (by omega) hq hqB pl pb pv⟩, by first | omega | (dsimp only; omega)⟩
    intro x83 e83 x84 e84
    rw [i64w (by omega) (by omega)] at e83
    subst e83
    rw [i64w (by omega) (by omega)] at e84
    have e84' : x84 = ((J + n + 1 : Nat) : Int) := by omega
    clear e84
    subst e84'
    refine ⟨by omega, by omega, by omega, by omega, ?_⟩
    rw [sliceA_off (k := ku) (off := 0) (l := (J : Int)) (m := ((xs.length + 1 : Nat) : Int)) (Or.inl (by omega))]
    have ez : 0 + (J : Int).toNat = (us.take J).length := by rw [List.length_take]; omega
    have ez2 : (((J + n + 1 : Nat) : Int) - (J : Int)).toNat = ps.length := by omega
    rw [ez, ez2]
    have htk := divnat_take (h := St us qs) (k := ku) (zc := (((xs.length + 1 : Nat) : Int) - (J : Int)).toNat) (pre := us.take J) (us := ps) (post := us.drop (J + n + 1)) (vs := vs) (v := ⟨some (blkA kv), ys.length, ys.length⟩)
      (by rw [husp]; exact St_u us qs) hpb (gvD us qs) (by omega) (by omega) hdB
    refine htk.mono ?_
    rintro _ h9 ⟨l, us1, rfl, hl1, hh9, ul1, ub1, uv1⟩
    rw [hh9, St_pu]
    rw [vsv, hP, hpl] at uv1
    have ua1 : vl us1 < B ^ (n + 1) := by have := vl_lt ub1; rw [ul1, hpl] at this; exact this
    obtain ⟨gf1, gf2⟩ := guess_fix' (W := B ^ (n + 1)) hq hVp kn1 kn2 ua1 hPW hVW hl1 uv1
    refine ⟨_, rfl, fun hb => ?_, fun hb => ?_⟩
    · simp only [decide_eq_true_eq] at hb
      obtain ⟨hdq, gf3⟩ := gf2 (by omega)
      intro x90 e90 x95 e95 x96 e96
      rw [i64w (by omega) (by omega)] at e95
      subst e95
      rw [i64w (by omega) (by omega)] at e96
      have e96' : x96 = ((J + n + 1 : Nat) : Int) := by omega
      clear e96
      subst e96'
      rw [u64w (by omega) (by omega)] at e90
      refine ⟨by omega, by omega, by omega, by omega, ?_⟩
      have ez3 : (((J + n + 1 : Nat) : Int) - (J : Int)).toNat = us1.length := by omega
      rw [ez3]
      have hgv := divnat_give (h := St (us.take J ++ us1 ++ us.drop (J + n + 1)) qs) (k := ku) (zc := (((xs.length + 1 : Nat) : Int) - (J : Int)).toNat) (pre := us.take J) (us := us1) (post := us.drop (J + n + 1)) (vs := vs) (v := ⟨some (blkA kv), ys.length, ys.length⟩)
        (St_u _ qs) ub1 (gvD _ qs) (by omega) (by omega)
      refine hgv.mono ?_
      rintro _ h10 ⟨rfl, l', us2, hh10, ul2, ub2, uv2⟩
      rw [hh10, St_pu]
      rw [vsv, ul1, hpl] at uv2
      have ua2 : vl us2 < B ^ (n + 1) := by have := vl_lt ub2; rw [ul2, ul1, hpl] at this; exact this
      exact ⟨rfl, fin us2 (by omega) ub2 (gf3 _ _ ua2 uv2) _ (by omega)⟩
    · simp only [decide_eq_false_iff_not, Decidable.not_not, ne_eq] at hb
      obtain ⟨g1, g2⟩ := gf1 hb
      exact fin us1 (by omega) ub1 g2 _ (by rw [g1])
  · simp only [decide_eq_false_iff_not] at hc
    have hj : j = -1 := by omega
    subst hj
    have hul := sL.ul
    have hfin := sL.lt
    have e0 : ((-1 : Int) + 1).toNat = 0 := by decide
    rw [e0, List.drop_zero] at hfin
    refine ⟨by omega, by omega, by dsimp only; omega, Int.le_refl _, fun x109 e109 => ?_⟩
    rw [i64w (by omega) (by omega)] at e109
    subst e109
    have gu : Ws (St us qs) ⟨some (blkA ku), xs.length + 1, xs.length + 1⟩ us := by rw [← hul]; exact Ws.blk (St_u us qs) sL.ub (Nat.le_refl _)
    have gup := gu.slice (l := 0) (e := (ys.length : Int)) (m := ((xs.length + 1 : Nat) : Int)) (c := (((xs.length + 1 : Nat) : Int) - 0).toNat) (by omega) (by omega) (by omega) (by omega) (by omega)
    have eqs : (us.drop (0 : Int).toNat).take ((ys.length : Int) - 0).toNat = us.take n := by rw [hnn]; simp
    rw [eqs] at gup
    refine (nat_Shr gup (by simp; omega) (n := s) (by omega)).mono ?_
    rintro _ h11 ⟨l11, r, rfl, hr⟩
    have hru : vl (us.take n) = vl us := by
      have h1 := vl_split us n
      rcases Nat.eq_zero_or_pos (vl (us.drop n)) with h | h
      · rw [h] at h1; omega
      · have : B ^ n * 1 ≤ B ^ n * vl (us.drop n) := Nat.mul_le_mul_left _ h
        omega
    rw [hru] at hr
    refine ⟨_, _, rfl, ?_⟩
    have gq : Ws h11 ⟨some (blkA kq), m + 1, m + 1⟩ qs := by rw [← sL.ql]; exact Ws.blk (l11 _ _ (St_q us qs)) sL.qb (Nat.le_refl _)
    refine (nat_Least gq (by rw [sL.ql]; omega)).mono ?_
    rintro _ h12 ⟨l12, q, rfl, hq⟩
    have L : h.le (St us qs) := Hp.le_trans l1 (St_le us qs)
    have hYp : 0 < vl ys := by
      rcases Nat.eq_zero_or_pos (vl ys) with h | h
      · rw [h, Nat.zero_mul] at hV; omega
      · exact h
    have hq1 : vl qs = vl xs / vl ys := by
      have h1 : X2 / V = vl qs := by rw [← sL.eq, Nat.mul_comm, Nat.mul_add_div hVp, Nat.div_eq_of_lt hfin, Nat.add_zero]
      rw [← h1, hX2, hV, Nat.mul_div_mul_right _ _ hps]
    have hr1 : vl us / 2 ^ s = vl xs % vl ys := by
      have h1 : vl us = X2 % V := by rw [← sL.eq, Nat.mul_comm, Nat.mul_add_mod, Nat.mod_eq_of_lt hfin]
      rw [h1, hX2, hV, Nat.mul_mod_mul_right, Nat.mul_div_cancel _ hps]
    rw [hq1] at hq
    rw [hr1] at hr
    exact ⟨_, rfl, Hp.le_trans L (Hp.le_trans l11 l12), q, r, rfl, hq.ge (Hp.le_trans L l11), (hr.ge L).le l12⟩

end Go.Proofs.Ytmfafadchpglgaa

/- divnat: Word, DivMod, Exact. -/
namespace Go.Proofs.Ytmfafadchpglgaa
set_option maxRecDepth 20000

theorem Ws.blk2 {h : Hp} {b c : Nat} {l t : List Nat} {wr : Bool} (h1 : h b = some ⟨(l ++ t).map uw, wr⟩) (hl : ∀ w ∈ l, w < B) (hc : l.length ≤ c) : Ws h ⟨some (blkA b), l.length, c⟩ l :=
  ⟨⟨by simp, fun _ => ⟨b, 0, _, rfl, h1, by simp, by rw [List.drop_zero, List.map_append, List.length_map, List.take_append_of_le_length (by simp), List.take_of_length_le (by simp)]⟩⟩, hl, hc⟩

theorem NatR.n {h h' : Hp} {s : Sl} {x : Nat} (o : NatR h h' s x) : s.n = wl x := by
  have := o.ws.len; exact this
theorem NatR.zero (h h' : Hp) : NatR h h' ⟨none, 0, 0⟩ 0 := Or.inl ⟨rfl, wd_zero⟩

theorem wl_zero {x : Nat} : wl x = 0 ↔ x = 0 := by
  constructor
  · intro h
    have := wl_lt x
    rw [h, Nat.pow_zero] at this
    omega
  · rintro rfl
    unfold wl; rw [wd_zero]; rfl

theorem divnat_Word {h : Hp} {a : Sl} {xs : List Nat} (g : Ws h a xs) (hl : xs.length < 1000000000000) {w : Nat} (hw : w < B) (h0 : 0 < w) :
    Tri Try.prog (.func (.func 97) #[] #[]) [a.v, .int .u64 (w : Nat)] h fun v h' => h.le h' ∧ ∃ q : Sl, v = .tuple #[q.v, .int .u64 ((vl xs % w : Nat) : Int), .int .i64 0] ∧ NatR h h' q (vl xs / w) := by
  have hB : B = 18446744073709551616 := rfl
  refine t_divnat_Word ⟨fun hc => ?_, fun _ => (nat_Least g (by omega)).mono ?_⟩
  · simp only [decide_eq_true_eq] at hc; omega
  rintro _ h1 ⟨l1, s, rfl, hr⟩
  refine ⟨_, rfl, ?_⟩
  have hws := hr.ws
  have hwb := wd_lt (vl xs)
  have hwl : (wd (vl xs)).length ≤ xs.length := wl_vl g.lt
  have hwv := vl_wd (vl xs)
  generalize hws' : wd (vl xs) = ws at *
  have hr' : Own h h1 s ws := by rw [← hws']; exact hr
  rcases hr' with ⟨rfl, hnil⟩ | ⟨b, cs, e1, e2, e3, e4, e5, e6, e7⟩
  · -- nothing
    have hx0 : vl xs = 0 := by rw [← hwv, hnil]; rfl
    intro i e
    rw [i64w (by dsimp only; omega) (by dsimp only; omega)] at e
    refine ⟨fun rest i h2 => h2 = h1 ∧ i = -1 ∧ rest = 0, fun _ _ _ => 0, ⟨rfl, by dsimp only at e; omega, rfl⟩, ?_⟩
    rintro rest i1 h2 ⟨rfl, rfl, rfl⟩
    refine ⟨fun hc => by simp at hc, fun _ => ?_⟩
    rw [hnil] at hws
    refine (nat_Least hws (by simp)).mono ?_
    rintro _ h5 ⟨l5, q, rfl, hq⟩
    refine ⟨_, rfl, Hp.le_trans l1 l5, q, ?_, ?_⟩
    · rw [hx0, Nat.zero_mod]; rfl
    · rw [hx0, Nat.zero_div]; exact hq.ge l1
  · obtain ⟨sa, sn, sc⟩ := s
    simp only at e1 e4 e5
    subst e1 e4 e5
    obtain ⟨tl, htl⟩ : ∃ tl, cs = ws ++ tl := ⟨cs.drop ws.length, by conv => lhs; rw [← List.take_append_drop ws.length cs, e6]⟩
    intro i e
    rw [i64w (by dsimp only; omega) (by dsimp only; omega)] at e
    dsimp only at e
    subst e
    have hle : ∀ x, h.le (h1.up b x) := fun x => le_up_of_none e2 l1
    refine ⟨fun rest i h2 => ∃ (ds : List Nat) (r p : Nat), i = (p : Int) - 1 ∧ rest = r ∧ p + ds.length = ws.length ∧ r < w ∧ (∀ w ∈ ds, w < B) ∧ h2 = h1.up b ⟨((ws.take p ++ ds) ++ tl).map uw, true⟩ ∧ vl (ws.drop p) = vl ds * w + r, fun _ i _ => (i + 1).toNat,
      ⟨[], 0, ws.length, by dsimp only, rfl, by simp, h0, by simp, ?_, by simp [vl]⟩, ?_⟩
    · rw [List.take_length, List.append_nil, ← htl]; exact (up_self e3).symm
    rintro _ _ h2 ⟨ds, r, p, rfl, rfl, hp, hrw, hdb, hh2, hv⟩
    rw [hh2]
    refine ⟨fun hc => ?_, fun hc => ?_⟩
    · simp only [decide_eq_true_eq] at hc
      obtain ⟨p', rfl⟩ : ∃ p', p = p' + 1 := ⟨p - 1, by omega⟩
      have hpw : p' < ws.length := by omega
      have hW : ws.getD p' 0 < B := hws.getD_lt p'
      have htp : ws.take (p' + 1) = ws.take p' ++ [ws.getD p' 0] := by
        rw [List.take_succ_eq_append_getElem hpw]; simp [List.getD, hpw]
      have hlt : (ws.take p').length = p' := by simp; omega
      have ej : (((p' + 1 : Nat) : Int) - 1) = (p' : Int) := by omega
      rw [ej]
      have hlist : (ws.take (p' + 1) ++ ds) ++ tl = ([] : List Nat) ++ (ws.take p' ++ ws.getD p' 0 :: ds) ++ tl := by rw [htp]; simp
      have hlen : 0 + (p' : Int).toNat < (([] : List Nat) ++ (ws.take p' ++ ws.getD p' 0 :: ds) ++ tl).length := by simp; omega
      have hld1 := ld_in (off := 0) (j := (p' : Int)) (up_get h1 b ⟨(([] : List Nat) ++ (ws.take p' ++ ws.getD p' 0 :: ds) ++ tl).map uw, true⟩) hlen
      have hget : (([] : List Nat) ++ (ws.take p' ++ ws.getD p' 0 :: ds) ++ tl).getD (0 + (p' : Int).toNat) 0 = ws.getD p' 0 := by
        have := getD_mid (pre := []) (ds := ws.take p') (rest := ws.getD p' 0 :: ds) (post := tl) (i := p') hlt.symm (by simp)
        simpa using this
      rw [hget] at hld1
      rw [hlist]
      refine ⟨by omega, by dsimp only; omega, rfl, _, hld1, ?_⟩
      refine (bits_Div64 r (ws.getD p' 0) w hW hw hrw).const ?_
      refine ⟨_, _, rfl, by omega, by dsimp only; omega, rfl, _, st_in (up_get _ _ _) hlen, fun i2 e2 => ?_⟩
      rw [i64w (by omega) (by omega)] at e2
      subst e2
      have hq : (r * B + ws.getD p' 0) / w < B := by
        rw [Nat.div_lt_iff_lt_mul h0]
        have : (r + 1) * B ≤ w * B := Nat.mul_le_mul_right _ hrw
        rw [Nat.add_mul, Nat.one_mul, Nat.mul_comm w B, Nat.mul_comm r B] at this
        rw [Nat.mul_comm r B]
        omega
      have hm : (r * B + ws.getD p' 0) % w < w := Nat.mod_lt _ h0
      have hdm := Nat.div_add_mod (r * B + ws.getD p' 0) w
      refine ⟨⟨(r * B + ws.getD p' 0) / w :: ds, (r * B + ws.getD p' 0) % w, p', rfl, rfl, by simp; omega, hm, ?_, ?_, ?_⟩, by dsimp only; omega⟩
      · intro z hz
        rcases List.mem_cons.1 hz with rfl | hz
        · exact hq
        · exact hdb z hz
      · rw [Hp.up_up]
        have := set_mid (pre := []) (ds := ws.take p') (rest := ds) (post := tl) (r := ws.getD p' 0) (x := (r * B + ws.getD p' 0) / w)
        rw [hlt] at this
        rw [Int.toNat_natCast]
        simp only [List.length_nil] at this
        rw [this]
        simp
      · rw [vl_drop, hv]
        generalize (r * B + ws.getD p' 0) / w = Q at *
        generalize (r * B + ws.getD p' 0) % w = R at *
        simp only [vl]
        rw [Nat.add_mul, Nat.mul_add, Nat.mul_assoc, Nat.mul_comm Q w]
        rw [Nat.mul_comm r B] at hdm
        omega
    · simp only [decide_eq_false_iff_not] at hc
      have hp0 : p = 0 := by omega
      subst hp0
      simp only [List.take_zero, List.nil_append, List.drop_zero] at hv ⊢
      have hdl : ws.length = ds.length := by omega
      have gd : Ws (h1.up b ⟨(ds ++ tl).map uw, true⟩) ⟨some (blkA b), ws.length, cs.length⟩ ds := by
        rw [hdl]; exact Ws.blk2 (up_get _ _ _) hdb (by omega)
      refine (nat_Least gd (by omega)).mono ?_
      rintro _ h5 ⟨l5, q, rfl, hq⟩
      have hx : vl xs = vl ds * w + r := by rw [← hv, hwv]
      refine ⟨_, rfl, Hp.le_trans (hle _) l5, q, ?_, ?_⟩
      · rw [hx, Nat.mul_comm, Nat.mul_add_mod, Nat.mod_eq_of_lt hrw]
      · have : vl xs / w = vl ds := by rw [hx, Nat.mul_comm, Nat.mul_add_div h0, Nat.div_eq_of_lt hrw, Nat.add_zero]
        rw [this]
        exact hq.ge (hle _)

theorem divnat_DivMod {h : Hp} {a b : Sl} {xs ys : List Nat} (ga : Ws h a xs) (gb : Ws h b ys) (hx : xs.length < 1000000000000) (hy : ys.length < 1000000000000) :
    Tri Try.prog (.func (.func 89) #[] #[]) [a.v, b.v] h fun v h' => h.le h' ∧
      ((vl ys = 0 ∧ v = .tuple #[.slice none 0 0, .slice none 0 0, .int .i64 4]) ∨ (0 < vl ys ∧ ∃ q r : Sl, v = .tuple #[q.v, r.v, .int .i64 0] ∧ NatR h h' q (vl xs / vl ys) ∧ NatR h h' r (vl xs % vl ys))) := by
  refine t_divnat_DivMod ((nat_Least gb (by omega)).mono ?_)
  rintro _ h1 ⟨l1, y, rfl, hyr⟩
  refine ⟨_, rfl, ?_⟩
  have hyn := hyr.n
  have gy := hyr.ws
  have hyl : wl (vl ys) ≤ ys.length := wl_vl gb.lt
  refine ⟨fun hc => ?_, fun hc => ⟨fun hd => ?_, fun hd => ?_⟩⟩
  · simp only [decide_eq_true_eq] at hc
    exact ⟨l1, Or.inl ⟨wl_zero.1 (by omega), rfl⟩⟩
  · simp only [decide_eq_true_eq] at hd
    have hw1 : wl (vl ys) = 1 := by omega
    have hyp : 0 < vl ys := by rcases Nat.eq_zero_or_pos (vl ys) with h | h; rw [h] at hw1; exact absurd (wl_zero.2 rfl) (by rw [hw1]; decide); exact h
    have hyB : vl ys < B := by have := wl_lt (vl ys); rwa [hw1, Nat.pow_one] at this
    have hwd : (wd (vl ys)).getD 0 0 = vl ys := by
      rw [wd_pos (by omega), List.getD_cons_zero, Nat.mod_eq_of_lt hyB]
    have hld := gy.ld (j := 0) (by omega) (by have : (wd (vl ys)).length = 1 := hw1; omega)
    rw [Int.toNat_zero, hwd] at hld
    refine ⟨by omega, by omega, gy.isS (by have : (wd (vl ys)).length = 1 := hw1; omega), _, hld, ?_⟩
    refine (divnat_Word (ga.le l1) hx hyB hyp).mono ?_
    rintro _ h2 ⟨l2, q, rfl, hq⟩
    refine ⟨_, _, _, rfl, fun b1 h3 n3 e3 => ?_⟩
    have l3 : h2.le h3 := by rw [e3]; exact Hp.le_up _ n3
    have hrB : vl xs % vl ys < B := Nat.lt_trans (Nat.mod_lt _ hyp) hyB
    have g3 : Ws h3 ⟨some (blkA b1), 1, 1⟩ [vl xs % vl ys] := Ws.blk (l := [vl xs % vl ys]) (by rw [e3]; exact up_get _ _ _) (by intro w hw; rw [List.mem_singleton] at hw; rw [hw]; exact hrB) (Nat.le_refl _)
    refine (nat_Least g3 (by simp)).mono ?_
    rintro _ h4 ⟨l4, r, rfl, hr⟩
    have L : h.le h2 := Hp.le_trans l1 l2
    have e : vl [vl xs % vl ys] = vl xs % vl ys := by simp [vl]
    rw [e] at hr
    exact ⟨_, rfl, Hp.le_trans L (Hp.le_trans l3 l4), Or.inr ⟨hyp, q, r, rfl, (hq.ge l1).le (Hp.le_trans l3 l4), hr.ge (Hp.le_trans L l3)⟩⟩
  · simp only [decide_eq_false_iff_not] at hc hd
    have hyp : 0 < vl ys := by rcases Nat.eq_zero_or_pos (vl ys) with h | h; exact absurd (by rw [hyn, h, wl_zero.2 rfl]; rfl) hc; exact h
    refine (nat_Least (ga.le l1) (by omega)).mono ?_
    rintro _ h5 ⟨l5, x, rfl, hxr⟩
    have gx := hxr.ws
    have gy5 := gy.le l5
    have hxl : wl (vl xs) ≤ xs.length := wl_vl ga.lt
    refine ⟨_, rfl, ?_⟩
    refine (nat_Cmp gx gy5 (by unfold wl at hxl; omega) (by unfold wl at hyl; omega)).const ?_
    rw [vl_wd, vl_wd]
    have L : h.le h5 := Hp.le_trans l1 l5
    refine ⟨_, rfl, fun he => ?_, fun he => ?_⟩
    · simp only [decide_eq_true_eq] at he
      have hlt : vl xs < vl ys := by
        unfold cmpN at he
        split at he
        · assumption
        · split at he <;> omega
      exact ⟨L, Or.inr ⟨hyp, ⟨none, 0, 0⟩, x, rfl, by rw [Nat.div_eq_of_lt hlt]; exact NatR.zero _ _, by rw [Nat.mod_eq_of_lt hlt]; exact hxr.ge l1⟩⟩
    · simp only [decide_eq_false_iff_not] at he
      have hge : vl ys ≤ vl xs := by
        unfold cmpN at he
        split at he
        · omega
        · omega
      have hmono := wl_mono hge
      have e1 : (wd (vl ys)).length = wl (vl ys) := rfl
      have e2 : (wd (vl xs)).length = wl (vl xs) := rfl
      refine (divnat_long gx gy5 (by omega) (by omega) (by omega) (sz_wd _)).mono ?_
      rintro _ h7 ⟨l7, q, r, rfl, hq, hr⟩
      rw [vl_wd, vl_wd] at hq hr
      exact ⟨_, _, rfl, Hp.le_trans L l7, Or.inr ⟨hyp, q, r, rfl, hq.ge L, hr.ge L⟩⟩

theorem divnat_Exact {h : Hp} {a b : Sl} {xs ys : List Nat} (ga : Ws h a xs) (gb : Ws h b ys) (hx : xs.length < 1000000000000) (hy : ys.length < 1000000000000) :
    Tri Try.prog (.func (.func 74) #[] #[]) [a.v, b.v] h fun v h' => h.le h' ∧
      ((vl ys = 0 ∧ v = .tuple #[.slice none 0 0, .int .i64 4]) ∨ (0 < vl ys ∧ vl xs % vl ys ≠ 0 ∧ v = .tuple #[.slice none 0 0, .int .i64 8]) ∨ (0 < vl ys ∧ vl xs % vl ys = 0 ∧ ∃ q : Sl, v = .tuple #[q.v, .int .i64 0] ∧ NatR h h' q (vl xs / vl ys))) := by
  refine t_divnat_Exact ((divnat_DivMod ga gb hx hy).mono ?_)
  rintro _ h1 ⟨l1, ⟨h0, rfl⟩ | ⟨hyp, q, r, rfl, hq, hr⟩⟩
  · exact ⟨⟨none, 0, 0⟩, ⟨none, 0, 0⟩, _, rfl, fun _ => ⟨l1, Or.inl ⟨h0, rfl⟩⟩, fun hc => by simp at hc⟩
  · refine ⟨_, _, _, rfl, fun hc => by simp at hc, fun _ => ⟨fun hc => ?_, fun hc => ?_⟩⟩
    · simp only [decide_eq_true_eq] at hc
      refine ⟨l1, Or.inr (Or.inl ⟨hyp, fun h0 => ?_, rfl⟩)⟩
      have := hr.n
      rw [h0, wl_zero.2 rfl] at this
      omega
    · simp only [decide_eq_false_iff_not] at hc
      refine ⟨l1, Or.inr (Or.inr ⟨hyp, wl_zero.1 ?_, q, rfl, hq⟩)⟩
      have := hr.n
      omega

end Go.Proofs.Ytmfafadchpglgaa
