import Derived.Test.YtmfafadchpglgaaKC
import Derived.Test.YtmfafadchpglgaaKE
import Derived.Laws.Append

/- PRINTED BY vcgen.py: code with hints, the formula to show, the theorem; each check by the kernel. -/
namespace Go.Proofs.Ytmfafadchpglgaa

/- trellis/zint.of -/
def d_zint_of : Vd :=
  .seq (.ops [.op 0 ⟨none, some 4, .new [.b false, .nil]⟩ false (.sh (.one .val))] [0, 1, 4]) (.seq (.ops [.op 0 ⟨none, some 5, .mov (.t 0)⟩ false (.no), .op 1 ⟨none, some 6, .mov (.t 5)⟩ false (.no), .grp ⟨[1, 4], [4], [4]⟩ [.t 10 (.bool)] [(2, ⟨some (6, true), some 7, .mov (.t 1)⟩, true, .no), (3, ⟨some (6, true), some 8, .len (.t 7)⟩, false, .no), (4, ⟨some (6, true), some 9, .bin .gtr (.t 8) (.i .i64 0)⟩, false, .sh (.one .val)), (5, ⟨none, some 10, .pick (.t 6) (.t 9) (.b false)⟩, false, .no)], .op 6 ⟨none, some 11, .mov (.t 1)⟩ false (.no), .op 7 ⟨none, some 12, .bd [.b false, .nil] [(0, 1, .t 10), (1, 1, .t 11)]⟩ false (.no), .op 8 ⟨none, none, .stb 4 4 2 (.t 12)⟩ false (.sh (.one .val))] [0, 1, 4]) (.ret))
def v_zint_of (neg : Bool) (mag : Sl) (h : Hp) (R : Value → Hp → Prop) : Prop :=
  ∀ J : Bool → Hp → Prop, (∀ x10 : Bool, ∀ h1 : Hp, (
    R (.agg #[.bool x10, mag.v]) h1
  ) → J x10 h1) →
  (neg = true →
  J (decide (0 < (mag.n : Int))) h
  ) ∧ (neg = false →
  J false h
  )
set_option maxRecDepth 100000 in
theorem t_zint_of {neg : Bool} {mag : Sl} {h : Hp} {R : Value → Hp → Prop} (hv : v_zint_of neg mag h R) : Tri Try.prog (.func (.func 34) #[] #[]) [.bool neg, mag.v] h R :=
  tri_of_vc mixed Try.func34 (d := d_zint_of) (RM := [(4, 4)]) (rvs := [.cell 4 (some 2)]) (args := [.bool neg, mag.v]) (caps := []) (by kernel_rfl) Try.ntmps34 (V := v_zint_of neg mag h R) (by kernel_rfl) (by simp) hv

/- trellis/zint.Least -/
def d_zint_Least : Vd :=
  .seq (.ops [.op 0 ⟨none, some 1, .box 2 (.t 0)⟩ false (.sh (.one .val)), .op 1 ⟨none, some 2, .new [.b false, .nil]⟩ false (.sh (.one .val))] [0, 1, 2]) (.seq (.ops [.op 0 ⟨none, some 3, .fab 1 1 0⟩ false (.no), .op 1 ⟨none, some 4, .ldb 3 1 none⟩ false (.no), .op 2 ⟨none, some 5, .fab 1 1 1⟩ false (.no), .op 3 ⟨none, some 6, .ldb 5 1 none⟩ false (.no), .op 4 ⟨none, some 7, .call false (.f 35) [.t 6]⟩ false (.sh (.one (.slice))), .op 5 ⟨none, some 8, .call false (.f 34) [.t 4, .t 7]⟩ false (.sh (.agg [.z])), .op 6 ⟨none, none, .stb 2 2 2 (.t 8)⟩ false (.sh (.one .val))] [0, 1, 2]) (.ret))
def v_zint_Least (a : Z) (h : Hp) (R : Value → Hp → Prop) : Prop :=
  Tri Try.prog (.func (.func 35) #[] #[]) [a.mag.v] h fun r h1 => ∃ x7 : Sl, r = x7.v ∧
  Tri Try.prog (.func (.func 34) #[] #[]) [.bool a.neg, x7.v] h1 fun r1 h2 => ∃ x8 : Z, r1 = x8.v ∧
  R (x8.v) h2
set_option maxRecDepth 100000 in
theorem t_zint_Least {a : Z} {h : Hp} {R : Value → Hp → Prop} (hv : v_zint_Least a h R) : Tri Try.prog (.func (.func 33) #[] #[]) [a.v] h R :=
  tri_of_vc mixed Try.func33 (d := d_zint_Least) (RM := [(1, 1), (2, 2), (3, 1), (5, 1)]) (rvs := [.cell 2 (some 2)]) (args := [a.v]) (caps := []) (by kernel_rfl) Try.ntmps33 (V := v_zint_Least a h R) (by kernel_rfl) (by simp) hv

/- trellis/zint.Of -/
def d_zint_Of : Vd :=
  .seq (.ops [.op 0 ⟨none, some 2, .new [.b false, .nil]⟩ false (.sh (.one .val))] [0, 2, 4]) (.seq (.seq (.ops [.op 0 ⟨none, some 3, .mov (.t 0)⟩ false (.no), .op 1 ⟨none, some 4, .bin .lss (.t 3) (.i .i64 0)⟩ false (.sh (.one .val))] [0, 2, 4]) (.cond (.t 4) (.seq (.ops [.op 0 ⟨none, some 5, .mov (.t 0)⟩ false (.no), .op 1 ⟨none, some 6, .cv .u64 (.t 5)⟩ false (.sh (.one .val)), .op 2 ⟨none, some 7, .un .neg (.t 6)⟩ false (.sh (.one .val)), .op 3 ⟨none, some 8, .bs [.i .u64 0] 1 1 [(0, .t 7)]⟩ false (.sh (.one .val)), .op 4 ⟨none, some 9, .call false (.f 35) [.t 8]⟩ false (.sh (.one (.slice))), .op 5 ⟨none, some 10, .call false (.f 34) [.b true, .t 9]⟩ false (.sh (.agg [.z])), .op 6 ⟨none, none, .stb 2 2 2 (.t 10)⟩ false (.sh (.one .val))] [0, 2, 4]) (.ret)) (.skip))) (.seq (.ops [.op 0 ⟨none, some 11, .mov (.t 0)⟩ false (.no), .op 1 ⟨none, some 12, .cv .u64 (.t 11)⟩ false (.sh (.one .val)), .op 2 ⟨none, some 13, .bs [.i .u64 0] 1 1 [(0, .t 12)]⟩ false (.sh (.one .val)), .op 3 ⟨none, some 14, .call false (.f 35) [.t 13]⟩ false (.sh (.one (.slice))), .op 4 ⟨none, some 15, .call false (.f 34) [.b false, .t 14]⟩ false (.sh (.agg [.z])), .op 5 ⟨none, none, .stb 2 2 2 (.t 15)⟩ false (.sh (.one .val))] [0, 2, 4]) (.ret)))
def v_zint_Of (n : Int) (h : Hp) (R : Value → Hp → Prop) : Prop :=
  ((decide (n < 0)) = true →
    ∀ x6 : Int, x6 = IntKind.u64.wrap n →
    ∀ x7 : Int, x7 = IntKind.u64.wrap (0 - x6) →
    ∀ b : Nat, ∀ h1 : Hp, h b = none → h1 = h.up b ⟨[.int .u64 x7], true⟩ →
    Tri Try.prog (.func (.func 35) #[] #[]) [.slice (some (blkA b)) 1 1] h1 fun r h2 => ∃ x9 : Sl, r = x9.v ∧
    Tri Try.prog (.func (.func 34) #[] #[]) [.bool true, x9.v] h2 fun r1 h3 => ∃ x10 : Z, r1 = x10.v ∧
    R (x10.v) h3
  ) ∧ ((decide (n < 0)) = false →
    ∀ x12 : Int, x12 = IntKind.u64.wrap n →
    ∀ b1 : Nat, ∀ h4 : Hp, h b1 = none → h4 = h.up b1 ⟨[.int .u64 x12], true⟩ →
    Tri Try.prog (.func (.func 35) #[] #[]) [.slice (some (blkA b1)) 1 1] h4 fun r2 h5 => ∃ x14 : Sl, r2 = x14.v ∧
    Tri Try.prog (.func (.func 34) #[] #[]) [.bool false, x14.v] h5 fun r3 h6 => ∃ x15 : Z, r3 = x15.v ∧
    R (x15.v) h6
  )
set_option maxRecDepth 100000 in
theorem t_zint_Of {n : Int} {h : Hp} {R : Value → Hp → Prop} (hv : v_zint_Of n h R) : Tri Try.prog (.func (.func 40) #[] #[]) [.int .i64 n] h R :=
  tri_of_vc mixed Try.func40 (d := d_zint_Of) (RM := [(2, 2)]) (rvs := [.cell 2 (some 2)]) (args := [.int .i64 n]) (caps := []) (by kernel_rfl) Try.ntmps40 (V := v_zint_Of n h R) (by kernel_rfl) (by simp) hv

/- trellis/zint.Sign -/
def d_zint_Sign : Vd :=
  .seq (.ops [.op 0 ⟨none, some 1, .box 2 (.t 0)⟩ false (.sh (.one .val)), .op 1 ⟨none, some 2, .mov (.i .i64 0)⟩ false (.no)] [0, 1, 2, 3, 8]) (.seq (.block 0 (.seq (.ops [.op 0 ⟨none, some 4, .fab 1 1 1⟩ false (.no), .op 1 ⟨none, some 5, .ldb 4 1 none⟩ false (.no), .op 2 ⟨none, some 6, .call false (.f 28) [.t 5]⟩ false (.sh (.one (.int .i64))), .op 3 ⟨none, some 7, .bin .eql (.t 6) (.i .i64 0)⟩ false (.sh (.one .val)), .op 4 ⟨none, some 3, .mov (.t 7)⟩ false (.no)] [0, 1, 2, 3, 8]) (.cond (.t 3) (.seq (.ops [.op 0 ⟨none, some 2, .mov (.i .i64 0)⟩ false (.no)] [0, 1, 2, 3, 8]) (.ret)) (.seq (.ops [.op 0 ⟨none, some 9, .fab 1 1 0⟩ false (.no), .op 1 ⟨none, some 10, .ldb 9 1 none⟩ false (.no), .op 2 ⟨none, some 8, .mov (.t 10)⟩ false (.no)] [0, 1, 2, 3, 8]) (.cond (.t 8) (.seq (.ops [.op 0 ⟨none, some 2, .mov (.i .i64 (-1))⟩ false (.no)] [0, 1, 2, 3, 8]) (.ret)) (.skip)))))) (.seq (.ops [.op 0 ⟨none, some 2, .mov (.i .i64 1)⟩ false (.no)] [0, 1, 2, 3, 8]) (.ret)))
def v_zint_Sign (a : Z) (h : Hp) (R : Value → Hp → Prop) : Prop :=
  Tri Try.prog (.func (.func 28) #[] #[]) [a.mag.v] h fun r h1 => ∃ x6 : Int, r = .int .i64 x6 ∧
  ((decide (x6 = 0)) = true →
    R (.int .i64 0) h1
  ) ∧ ((decide (x6 = 0)) = false →
    (a.neg = true →
      R (.int .i64 (-1)) h1
    ) ∧ (a.neg = false →
      R (.int .i64 1) h1
    )
  )
set_option maxRecDepth 100000 in
theorem t_zint_Sign {a : Z} {h : Hp} {R : Value → Hp → Prop} (hv : v_zint_Sign a h R) : Tri Try.prog (.func (.func 8) #[] #[]) [a.v] h R :=
  tri_of_vc mixed Try.func8 (d := d_zint_Sign) (RM := [(1, 1), (4, 1), (9, 1)]) (rvs := [.tmp 2]) (args := [a.v]) (caps := []) (by kernel_rfl) Try.ntmps8 (V := v_zint_Sign a h R) (by kernel_rfl) (by simp) hv

/- trellis/zint.Cmp -/
def d_zint_Cmp : Vd :=
  .seq (.ops [.op 0 ⟨none, some 2, .box 2 (.t 0)⟩ false (.sh (.one .val)), .op 1 ⟨none, some 3, .box 2 (.t 1)⟩ false (.sh (.one .val)), .op 2 ⟨none, some 4, .mov (.i .i64 0)⟩ false (.no)] [0, 1, 2, 3, 4, 5, 6, 13, 16]) (.seq (.ops [.op 0 ⟨none, some 7, .ldb 2 2 (some 2)⟩ false (.no), .op 2 ⟨none, some 9, .ldb 3 3 (some 2)⟩ false (.no), .op 1 ⟨none, some 8, .call false (.f 8) [.t 7]⟩ false (.sh (.one (.int .i64))), .op 3 ⟨none, some 10, .call false (.f 8) [.t 9]⟩ false (.sh (.one (.int .i64))), .op 4 ⟨none, some 5, .mov (.t 8)⟩ false (.no), .op 5 ⟨none, some 6, .mov (.t 10)⟩ false (.no)] [0, 1, 2, 3, 4, 5, 6, 13, 16]) (.seq (.seq (.ops [.op 0 ⟨none, some 11, .mov (.t 5)⟩ false (.no), .op 1 ⟨none, some 12, .mov (.t 6)⟩ false (.no), .op 2 ⟨none, some 13, .bin .neq (.t 11) (.t 12)⟩ false (.sh (.one .val))] [0, 1, 2, 3, 4, 5, 6, 13, 16]) (.cond (.t 13) (.seq (.seq (.ops [.op 0 ⟨none, some 14, .mov (.t 5)⟩ false (.no), .op 1 ⟨none, some 15, .mov (.t 6)⟩ false (.no), .op 2 ⟨none, some 16, .bin .lss (.t 14) (.t 15)⟩ false (.sh (.one .val))] [0, 1, 2, 3, 4, 5, 6, 13, 16]) (.cond (.t 16) (.seq (.ops [.op 0 ⟨none, some 4, .mov (.i .i64 (-1))⟩ false (.no)] [0, 1, 2, 3, 4, 5, 6, 13, 16]) (.ret)) (.skip))) (.seq (.ops [.op 0 ⟨none, some 4, .mov (.i .i64 1)⟩ false (.no)] [0, 1, 2, 3, 4, 5, 6, 13, 16]) (.ret))) (.skip))) (.seq (.ops [.op 0 ⟨none, some 17, .mov (.t 5)⟩ false (.no), .op 1 ⟨none, some 18, .fab 2 2 1⟩ false (.no), .op 2 ⟨none, some 19, .ldb 18 2 none⟩ false (.no), .op 3 ⟨none, some 20, .fab 3 3 1⟩ false (.no), .op 4 ⟨none, some 21, .ldb 20 3 none⟩ false (.no), .op 5 ⟨none, some 22, .call false (.f 53) [.t 19, .t 21]⟩ false (.sh (.one (.int .i64))), .op 6 ⟨none, some 23, .bin .mul (.t 17) (.t 22)⟩ false (.sh (.one .val)), .op 7 ⟨none, some 4, .mov (.t 23)⟩ false (.no)] [0, 1, 2, 3, 4, 5, 6, 13, 16]) (.ret))))
def v_zint_Cmp (a : Z) (b : Z) (h : Hp) (R : Value → Hp → Prop) : Prop :=
  Tri Try.prog (.func (.func 8) #[] #[]) [a.v] h fun r h1 => ∃ x8 : Int, r = .int .i64 x8 ∧
  Tri Try.prog (.func (.func 8) #[] #[]) [b.v] h1 fun r1 h2 => ∃ x10 : Int, r1 = .int .i64 x10 ∧
  ((!decide (x8 = x10)) = true →
    ((decide (x8 < x10)) = true →
      R (.int .i64 (-1)) h2
    ) ∧ ((decide (x8 < x10)) = false →
      R (.int .i64 1) h2
    )
  ) ∧ ((!decide (x8 = x10)) = false →
    Tri Try.prog (.func (.func 53) #[] #[]) [a.mag.v, b.mag.v] h2 fun r2 h3 => ∃ x22 : Int, r2 = .int .i64 x22 ∧
    ∀ x23 : Int, x23 = IntKind.i64.wrap (x8 * x22) →
    R (.int .i64 x23) h3
  )
set_option maxRecDepth 100000 in
theorem t_zint_Cmp {a : Z} {b : Z} {h : Hp} {R : Value → Hp → Prop} (hv : v_zint_Cmp a b h R) : Tri Try.prog (.func (.func 25) #[] #[]) [a.v, b.v] h R :=
  tri_of_vc mixed Try.func25 (d := d_zint_Cmp) (RM := [(2, 2), (3, 3), (18, 2), (20, 3)]) (rvs := [.tmp 4]) (args := [a.v, b.v]) (caps := []) (by kernel_rfl) Try.ntmps25 (V := v_zint_Cmp a b h R) (by kernel_rfl) (by simp) hv

/- trellis/zint.Neg -/
def d_zint_Neg : Vd :=
  .seq (.ops [.op 0 ⟨none, some 1, .box 2 (.t 0)⟩ false (.sh (.one .val)), .op 1 ⟨none, some 2, .new [.b false, .nil]⟩ false (.sh (.one .val))] [0, 1, 2]) (.seq (.ops [.op 0 ⟨none, some 3, .fab 1 1 0⟩ false (.no), .op 1 ⟨none, some 4, .ldb 3 1 none⟩ false (.no), .op 2 ⟨none, some 5, .un .not (.t 4)⟩ false (.no), .op 3 ⟨none, some 6, .fab 1 1 1⟩ false (.no), .op 4 ⟨none, some 7, .ldb 6 1 none⟩ false (.no), .op 5 ⟨none, some 8, .call false (.f 35) [.t 7]⟩ false (.sh (.one (.slice))), .op 6 ⟨none, some 9, .call false (.f 34) [.t 5, .t 8]⟩ false (.sh (.agg [.z])), .op 7 ⟨none, none, .stb 2 2 2 (.t 9)⟩ false (.sh (.one .val))] [0, 1, 2]) (.ret))
def v_zint_Neg (a : Z) (h : Hp) (R : Value → Hp → Prop) : Prop :=
  Tri Try.prog (.func (.func 35) #[] #[]) [a.mag.v] h fun r h1 => ∃ x8 : Sl, r = x8.v ∧
  Tri Try.prog (.func (.func 34) #[] #[]) [.bool (!a.neg), x8.v] h1 fun r1 h2 => ∃ x9 : Z, r1 = x9.v ∧
  R (x9.v) h2
set_option maxRecDepth 100000 in
theorem t_zint_Neg {a : Z} {h : Hp} {R : Value → Hp → Prop} (hv : v_zint_Neg a h R) : Tri Try.prog (.func (.func 10) #[] #[]) [a.v] h R :=
  tri_of_vc mixed Try.func10 (d := d_zint_Neg) (RM := [(1, 1), (2, 2), (3, 1), (6, 1)]) (rvs := [.cell 2 (some 2)]) (args := [a.v]) (caps := []) (by kernel_rfl) Try.ntmps10 (V := v_zint_Neg a h R) (by kernel_rfl) (by simp) hv

/- trellis/zint.Abs -/
def d_zint_Abs : Vd :=
  .seq (.ops [.op 0 ⟨none, some 1, .box 2 (.t 0)⟩ false (.sh (.one .val)), .op 1 ⟨none, some 2, .new [.b false, .nil]⟩ false (.sh (.one .val))] [0, 1, 2]) (.seq (.ops [.op 0 ⟨none, some 3, .fab 1 1 1⟩ false (.no), .op 1 ⟨none, some 4, .ldb 3 1 none⟩ false (.no), .op 2 ⟨none, some 5, .call false (.f 35) [.t 4]⟩ false (.sh (.one (.slice))), .op 3 ⟨none, some 6, .call false (.f 34) [.b false, .t 5]⟩ false (.sh (.agg [.z])), .op 4 ⟨none, none, .stb 2 2 2 (.t 6)⟩ false (.sh (.one .val))] [0, 1, 2]) (.ret))
def v_zint_Abs (a : Z) (h : Hp) (R : Value → Hp → Prop) : Prop :=
  Tri Try.prog (.func (.func 35) #[] #[]) [a.mag.v] h fun r h1 => ∃ x5 : Sl, r = x5.v ∧
  Tri Try.prog (.func (.func 34) #[] #[]) [.bool false, x5.v] h1 fun r1 h2 => ∃ x6 : Z, r1 = x6.v ∧
  R (x6.v) h2
set_option maxRecDepth 100000 in
theorem t_zint_Abs {a : Z} {h : Hp} {R : Value → Hp → Prop} (hv : v_zint_Abs a h R) : Tri Try.prog (.func (.func 16) #[] #[]) [a.v] h R :=
  tri_of_vc mixed Try.func16 (d := d_zint_Abs) (RM := [(1, 1), (2, 2), (3, 1)]) (rvs := [.cell 2 (some 2)]) (args := [a.v]) (caps := []) (by kernel_rfl) Try.ntmps16 (V := v_zint_Abs a h R) (by kernel_rfl) (by simp) hv

/- trellis/zint.Add -/
def d_zint_Add : Vd :=
  .seq (.ops [.op 0 ⟨none, some 2, .box 2 (.t 0)⟩ false (.sh (.one .val)), .op 1 ⟨none, some 3, .box 2 (.t 1)⟩ false (.sh (.one .val)), .op 2 ⟨none, some 4, .new [.b false, .nil]⟩ false (.sh (.one .val))] [0, 1, 2, 3, 4, 5, 11, 25]) (.seq (.seq (.ops [.op 0 ⟨none, some 7, .fab 2 2 0⟩ false (.no), .op 1 ⟨none, some 8, .ldb 7 2 none⟩ false (.no), .op 2 ⟨none, some 9, .fab 3 3 0⟩ false (.no), .op 3 ⟨none, some 10, .ldb 9 3 none⟩ false (.no), .op 4 ⟨none, some 11, .beq false (.t 8) (.t 10)⟩ false (.sh (.one .val))] [0, 1, 2, 3, 4, 5, 11, 25]) (.cond (.t 11) (.seq (.ops [.op 0 ⟨none, some 12, .fab 2 2 0⟩ false (.no), .op 1 ⟨none, some 13, .ldb 12 2 none⟩ false (.no), .op 2 ⟨none, some 14, .fab 2 2 1⟩ false (.no), .op 3 ⟨none, some 15, .ldb 14 2 none⟩ false (.no), .op 4 ⟨none, some 16, .fab 3 3 1⟩ false (.no), .op 5 ⟨none, some 17, .ldb 16 3 none⟩ false (.no), .op 6 ⟨none, some 18, .call false (.f 75) [.t 15, .t 17]⟩ false (.sh (.one (.slice))), .op 7 ⟨none, some 19, .call false (.f 34) [.t 13, .t 18]⟩ false (.sh (.agg [.z])), .op 8 ⟨none, none, .stb 4 4 2 (.t 19)⟩ false (.sh (.one .val))] [0, 1, 2, 3, 4, 5, 11, 25]) (.ret)) (.skip))) (.join ⟨[2, 3, 4], [4], [2, 3, 4]⟩ [.x 2 [.z], .x 3 [.z]] (.seq (.ops [.op 0 ⟨none, some 20, .fab 2 2 1⟩ false (.no), .op 1 ⟨none, some 21, .ldb 20 2 none⟩ false (.no), .op 2 ⟨none, some 22, .fab 3 3 1⟩ false (.no), .op 3 ⟨none, some 23, .ldb 22 3 none⟩ false (.no), .op 4 ⟨none, some 24, .call false (.f 53) [.t 21, .t 23]⟩ false (.sh (.one (.int .i64))), .op 5 ⟨none, some 25, .bin .lss (.t 24) (.i .i64 0)⟩ false (.sh (.one .val))] [0, 1, 2, 3, 4, 5, 11, 25]) (.cond (.t 25) (.ops [.op 0 ⟨none, some 26, .ldb 3 3 (some 2)⟩ false (.no), .op 1 ⟨none, some 27, .ldb 2 2 (some 2)⟩ false (.no), .op 2 ⟨none, none, .stb 2 2 2 (.t 26)⟩ false (.sh (.one .val)), .op 3 ⟨none, none, .stb 3 3 2 (.t 27)⟩ false (.sh (.one .val))] [0, 1, 2, 3, 4, 5, 11, 25]) (.skip))) (.seq (.ops [.op 0 ⟨none, some 29, .fab 2 2 1⟩ false (.no), .op 1 ⟨none, some 30, .ldb 29 2 none⟩ false (.no), .op 2 ⟨none, some 31, .fab 3 3 1⟩ false (.no), .op 3 ⟨none, some 32, .ldb 31 3 none⟩ false (.no), .op 4 ⟨none, some 33, .call false (.f 76) [.t 30, .t 32]⟩ false (.sh (.tup [(none, .slice), (none, .int .i64)])), .op 5 ⟨none, some 28, .mov (.t 33)⟩ false (.no), .op 6 ⟨none, some 34, .ext (.t 28) 0⟩ false (.no), .op 7 ⟨none, some 35, .ext (.t 28) 1⟩ false (.no), .op 8 ⟨none, some 5, .mov (.t 34)⟩ false (.no), .op 9 ⟨none, some 6, .mov (.t 35)⟩ false (.no)] [0, 1, 2, 3, 4, 5, 11, 25]) (.seq (.ops [.op 0 ⟨none, some 36, .fab 2 2 0⟩ false (.no), .op 1 ⟨none, some 37, .ldb 36 2 none⟩ false (.no), .op 2 ⟨none, some 38, .mov (.t 5)⟩ false (.no), .op 3 ⟨none, some 39, .call false (.f 34) [.t 37, .t 38]⟩ false (.sh (.agg [.z])), .op 4 ⟨none, none, .stb 4 4 2 (.t 39)⟩ false (.sh (.one .val))] [0, 1, 2, 3, 4, 5, 11, 25]) (.ret)))))
def v_zint_Add (a : Z) (b : Z) (h : Hp) (R : Value → Hp → Prop) : Prop :=
  ((beqI false a.neg b.neg) = true →
    Tri Try.prog (.func (.func 75) #[] #[]) [a.mag.v, b.mag.v] h fun r h1 => ∃ x18 : Sl, r = x18.v ∧
    Tri Try.prog (.func (.func 34) #[] #[]) [.bool a.neg, x18.v] h1 fun r1 h2 => ∃ x19 : Z, r1 = x19.v ∧
    R (x19.v) h2
  ) ∧ ((beqI false a.neg b.neg) = false →
    ∀ J : Z → Z → Hp → Prop, (∀ a1 : Z, ∀ b1 : Z, ∀ h3 : Hp, (
      Tri Try.prog (.func (.func 76) #[] #[]) [a1.mag.v, b1.mag.v] h3 fun r2 h4 => ∃ x33a : Sl, ∃ x33b : Int, r2 = .tuple #[x33a.v, .int .i64 x33b] ∧
      Tri Try.prog (.func (.func 34) #[] #[]) [.bool a1.neg, x33a.v] h4 fun r3 h5 => ∃ x39 : Z, r3 = x39.v ∧
      R (x39.v) h5
    ) → J a1 b1 h3) →
    Tri Try.prog (.func (.func 53) #[] #[]) [a.mag.v, b.mag.v] h fun r4 h6 => ∃ x24 : Int, r4 = .int .i64 x24 ∧
    ((decide (x24 < 0)) = true →
      J b a h6
    ) ∧ ((decide (x24 < 0)) = false →
      J a b h6
    )
  )
set_option maxRecDepth 100000 in
theorem t_zint_Add {a : Z} {b : Z} {h : Hp} {R : Value → Hp → Prop} (hv : v_zint_Add a b h R) : Tri Try.prog (.func (.func 52) #[] #[]) [a.v, b.v] h R :=
  tri_of_vc mixed Try.func52 (d := d_zint_Add) (RM := [(2, 2), (3, 3), (4, 4), (7, 2), (9, 3), (12, 2), (14, 2), (16, 3), (20, 2), (22, 3), (29, 2), (31, 3), (36, 2)]) (rvs := [.cell 4 (some 2)]) (args := [a.v, b.v]) (caps := []) (by kernel_rfl) Try.ntmps52 (V := v_zint_Add a b h R) (by kernel_rfl) (by simp) hv

/- trellis/zint.Sub -/
def d_zint_Sub : Vd :=
  .seq (.ops [.op 0 ⟨none, some 2, .box 2 (.t 0)⟩ false (.sh (.one .val)), .op 1 ⟨none, some 3, .box 2 (.t 1)⟩ false (.sh (.one .val)), .op 2 ⟨none, some 4, .new [.b false, .nil]⟩ false (.sh (.one .val))] [0, 1, 2, 3, 4]) (.seq (.ops [.op 0 ⟨none, some 5, .ldb 2 2 (some 2)⟩ false (.no), .op 1 ⟨none, some 6, .fab 3 3 0⟩ false (.no), .op 2 ⟨none, some 7, .ldb 6 3 none⟩ false (.no), .op 3 ⟨none, some 8, .un .not (.t 7)⟩ false (.no), .op 4 ⟨none, some 9, .fab 3 3 1⟩ false (.no), .op 5 ⟨none, some 10, .ldb 9 3 none⟩ false (.no), .op 6 ⟨none, some 11, .bd [.b false, .nil] [(0, 1, .t 8), (1, 1, .t 10)]⟩ false (.no), .op 7 ⟨none, some 12, .call false (.f 52) [.t 5, .t 11]⟩ false (.sh (.agg [.z])), .op 8 ⟨none, none, .stb 4 4 2 (.t 12)⟩ false (.sh (.one .val))] [0, 1, 2, 3, 4]) (.ret))
def v_zint_Sub (a : Z) (b : Z) (h : Hp) (R : Value → Hp → Prop) : Prop :=
  Tri Try.prog (.func (.func 52) #[] #[]) [a.v, .agg #[.bool (!b.neg), b.mag.v]] h fun r h1 => ∃ x12 : Z, r = x12.v ∧
  R (x12.v) h1
set_option maxRecDepth 100000 in
theorem t_zint_Sub {a : Z} {b : Z} {h : Hp} {R : Value → Hp → Prop} (hv : v_zint_Sub a b h R) : Tri Try.prog (.func (.func 79) #[] #[]) [a.v, b.v] h R :=
  tri_of_vc mixed Try.func79 (d := d_zint_Sub) (RM := [(2, 2), (3, 3), (4, 4), (6, 3), (9, 3)]) (rvs := [.cell 4 (some 2)]) (args := [a.v, b.v]) (caps := []) (by kernel_rfl) Try.ntmps79 (V := v_zint_Sub a b h R) (by kernel_rfl) (by simp) hv

/- trellis/zint.Mul -/
def d_zint_Mul : Vd :=
  .seq (.ops [.op 0 ⟨none, some 2, .box 2 (.t 0)⟩ false (.sh (.one .val)), .op 1 ⟨none, some 3, .box 2 (.t 1)⟩ false (.sh (.one .val)), .op 2 ⟨none, some 4, .new [.b false, .nil]⟩ false (.sh (.one .val))] [0, 1, 2, 3, 4]) (.seq (.ops [.op 0 ⟨none, some 5, .fab 2 2 0⟩ false (.no), .op 1 ⟨none, some 6, .ldb 5 2 none⟩ false (.no), .op 2 ⟨none, some 7, .fab 3 3 0⟩ false (.no), .op 3 ⟨none, some 8, .ldb 7 3 none⟩ false (.no), .op 4 ⟨none, some 9, .beq true (.t 6) (.t 8)⟩ false (.sh (.one .val)), .op 5 ⟨none, some 10, .fab 2 2 1⟩ false (.no), .op 6 ⟨none, some 11, .ldb 10 2 none⟩ false (.no), .op 7 ⟨none, some 12, .fab 3 3 1⟩ false (.no), .op 8 ⟨none, some 13, .ldb 12 3 none⟩ false (.no), .op 9 ⟨none, some 14, .call false (.f 36) [.t 11, .t 13]⟩ false (.sh (.one (.slice))), .op 10 ⟨none, some 15, .call false (.f 34) [.t 9, .t 14]⟩ false (.sh (.agg [.z])), .op 11 ⟨none, none, .stb 4 4 2 (.t 15)⟩ false (.sh (.one .val))] [0, 1, 2, 3, 4]) (.ret))
def v_zint_Mul (a : Z) (b : Z) (h : Hp) (R : Value → Hp → Prop) : Prop :=
  Tri Try.prog (.func (.func 36) #[] #[]) [a.mag.v, b.mag.v] h fun r h1 => ∃ x14 : Sl, r = x14.v ∧
  Tri Try.prog (.func (.func 34) #[] #[]) [.bool (beqI true a.neg b.neg), x14.v] h1 fun r1 h2 => ∃ x15 : Z, r1 = x15.v ∧
  R (x15.v) h2
set_option maxRecDepth 100000 in
theorem t_zint_Mul {a : Z} {b : Z} {h : Hp} {R : Value → Hp → Prop} (hv : v_zint_Mul a b h R) : Tri Try.prog (.func (.func 11) #[] #[]) [a.v, b.v] h R :=
  tri_of_vc mixed Try.func11 (d := d_zint_Mul) (RM := [(2, 2), (3, 3), (4, 4), (5, 2), (7, 3), (10, 2), (12, 3)]) (rvs := [.cell 4 (some 2)]) (args := [a.v, b.v]) (caps := []) (by kernel_rfl) Try.ntmps11 (V := v_zint_Mul a b h R) (by kernel_rfl) (by simp) hv

/- trellis/zint.MulAdd -/
def d_zint_MulAdd : Vd :=
  .seq (.ops [.op 0 ⟨none, some 3, .box 2 (.t 0)⟩ false (.sh (.one .val)), .op 1 ⟨none, some 4, .box 2 (.t 1)⟩ false (.sh (.one .val)), .op 2 ⟨none, some 5, .box 2 (.t 2)⟩ false (.sh (.one .val)), .op 3 ⟨none, some 6, .new [.b false, .nil]⟩ false (.sh (.one .val))] [0, 1, 2, 3, 4, 5, 6]) (.seq (.ops [.op 0 ⟨none, some 7, .ldb 3 3 (some 2)⟩ false (.no), .op 1 ⟨none, some 8, .ldb 4 4 (some 2)⟩ false (.no), .op 3 ⟨none, some 10, .ldb 5 5 (some 2)⟩ false (.no), .op 2 ⟨none, some 9, .call false (.f 11) [.t 7, .t 8]⟩ false (.sh (.agg [.z])), .op 4 ⟨none, some 11, .call false (.f 52) [.t 9, .t 10]⟩ false (.sh (.agg [.z])), .op 5 ⟨none, none, .stb 6 6 2 (.t 11)⟩ false (.sh (.one .val))] [0, 1, 2, 3, 4, 5, 6]) (.ret))
def v_zint_MulAdd (a : Z) (b : Z) (c : Z) (h : Hp) (R : Value → Hp → Prop) : Prop :=
  Tri Try.prog (.func (.func 11) #[] #[]) [a.v, b.v] h fun r h1 => ∃ x9 : Z, r = x9.v ∧
  Tri Try.prog (.func (.func 52) #[] #[]) [x9.v, c.v] h1 fun r1 h2 => ∃ x11 : Z, r1 = x11.v ∧
  R (x11.v) h2
set_option maxRecDepth 100000 in
theorem t_zint_MulAdd {a : Z} {b : Z} {c : Z} {h : Hp} {R : Value → Hp → Prop} (hv : v_zint_MulAdd a b c h R) : Tri Try.prog (.func (.func 24) #[] #[]) [a.v, b.v, c.v] h R :=
  tri_of_vc mixed Try.func24 (d := d_zint_MulAdd) (RM := [(3, 3), (4, 4), (5, 5), (6, 6)]) (rvs := [.cell 6 (some 2)]) (args := [a.v, b.v, c.v]) (caps := []) (by kernel_rfl) Try.ntmps24 (V := v_zint_MulAdd a b c h R) (by kernel_rfl) (by simp) hv

/- trellis/zint.Trunc -/
def d_zint_Trunc : Vd :=
  .seq (.ops [.op 0 ⟨none, some 2, .box 2 (.t 0)⟩ false (.sh (.one .val)), .op 1 ⟨none, some 3, .box 2 (.t 1)⟩ false (.sh (.one .val)), .op 2 ⟨none, some 4, .new [.b false, .nil]⟩ false (.sh (.one .val)), .op 3 ⟨none, some 5, .new [.b false, .nil]⟩ false (.sh (.one .val)), .op 4 ⟨none, some 6, .mov (.i .i64 0)⟩ false (.no)] [0, 1, 2, 3, 4, 5, 6, 7, 8, 9, 20]) (.seq (.ops [.op 0 ⟨none, some 11, .fab 2 2 1⟩ false (.no), .op 1 ⟨none, some 12, .ldb 11 2 none⟩ false (.no), .op 2 ⟨none, some 13, .fab 3 3 1⟩ false (.no), .op 3 ⟨none, some 14, .ldb 13 3 none⟩ false (.no), .op 4 ⟨none, some 15, .call false (.f 89) [.t 12, .t 14]⟩ false (.sh (.tup [(none, .slice), (none, .slice), (none, .int .i64)])), .op 5 ⟨none, some 10, .mov (.t 15)⟩ false (.no), .op 6 ⟨none, some 16, .ext (.t 10) 0⟩ false (.no), .op 7 ⟨none, some 17, .ext (.t 10) 1⟩ false (.no), .op 8 ⟨none, some 18, .ext (.t 10) 2⟩ false (.no), .op 9 ⟨none, some 7, .mov (.t 16)⟩ false (.no), .op 10 ⟨none, some 8, .mov (.t 17)⟩ false (.no), .op 11 ⟨none, some 9, .mov (.t 18)⟩ false (.no)] [0, 1, 2, 3, 4, 5, 6, 7, 8, 9, 20]) (.seq (.seq (.ops [.op 0 ⟨none, some 19, .mov (.t 9)⟩ false (.no), .op 1 ⟨none, some 20, .bin .neq (.t 19) (.i .i64 0)⟩ false (.sh (.one .val))] [0, 1, 2, 3, 4, 5, 6, 7, 8, 9, 20]) (.cond (.t 20) (.seq (.ops [.op 0 ⟨none, some 21, .bd [.b false, .nil] []⟩ false (.no), .op 1 ⟨none, some 22, .bd [.b false, .nil] []⟩ false (.no), .op 2 ⟨none, some 23, .mov (.t 9)⟩ false (.no), .op 3 ⟨none, none, .stb 4 4 2 (.t 21)⟩ false (.sh (.one .val)), .op 4 ⟨none, none, .stb 5 5 2 (.t 22)⟩ false (.sh (.one .val)), .op 5 ⟨none, some 6, .mov (.t 23)⟩ false (.no)] [0, 1, 2, 3, 4, 5, 6, 7, 8, 9, 20]) (.ret)) (.skip))) (.seq (.ops [.op 0 ⟨none, some 24, .fab 2 2 0⟩ false (.no), .op 1 ⟨none, some 25, .ldb 24 2 none⟩ false (.no), .op 2 ⟨none, some 26, .fab 3 3 0⟩ false (.no), .op 3 ⟨none, some 27, .ldb 26 3 none⟩ false (.no), .op 4 ⟨none, some 28, .beq true (.t 25) (.t 27)⟩ false (.sh (.one .val)), .op 5 ⟨none, some 29, .mov (.t 7)⟩ false (.no), .op 7 ⟨none, some 31, .fab 2 2 0⟩ false (.no), .op 8 ⟨none, some 32, .ldb 31 2 none⟩ false (.no), .op 9 ⟨none, some 33, .mov (.t 8)⟩ false (.no), .op 6 ⟨none, some 30, .call false (.f 34) [.t 28, .t 29]⟩ false (.sh (.agg [.z])), .op 10 ⟨none, some 34, .call false (.f 34) [.t 32, .t 33]⟩ false (.sh (.agg [.z])), .op 11 ⟨none, none, .stb 4 4 2 (.t 30)⟩ false (.sh (.one .val)), .op 12 ⟨none, none, .stb 5 5 2 (.t 34)⟩ false (.sh (.one .val)), .op 13 ⟨none, some 6, .mov (.i .i64 0)⟩ false (.no)] [0, 1, 2, 3, 4, 5, 6, 7, 8, 9, 20]) (.ret))))
def v_zint_Trunc (a : Z) (b : Z) (h : Hp) (R : Value → Hp → Prop) : Prop :=
  Tri Try.prog (.func (.func 89) #[] #[]) [a.mag.v, b.mag.v] h fun r h1 => ∃ x15a : Sl, ∃ x15b : Sl, ∃ x15c : Int, r = .tuple #[x15a.v, x15b.v, .int .i64 x15c] ∧
  ((!decide (x15c = 0)) = true →
    R (.tuple #[.agg #[.bool false, .slice none 0 0], .agg #[.bool false, .slice none 0 0], .int .i64 x15c]) h1
  ) ∧ ((!decide (x15c = 0)) = false →
    Tri Try.prog (.func (.func 34) #[] #[]) [.bool (beqI true a.neg b.neg), x15a.v] h1 fun r1 h2 => ∃ x30 : Z, r1 = x30.v ∧
    Tri Try.prog (.func (.func 34) #[] #[]) [.bool a.neg, x15b.v] h2 fun r2 h3 => ∃ x34 : Z, r2 = x34.v ∧
    R (.tuple #[x30.v, x34.v, .int .i64 0]) h3
  )
set_option maxRecDepth 100000 in
theorem t_zint_Trunc {a : Z} {b : Z} {h : Hp} {R : Value → Hp → Prop} (hv : v_zint_Trunc a b h R) : Tri Try.prog (.func (.func 78) #[] #[]) [a.v, b.v] h R :=
  tri_of_vc mixed Try.func78 (d := d_zint_Trunc) (RM := [(2, 2), (3, 3), (4, 4), (5, 5), (11, 2), (13, 3), (24, 2), (26, 3), (31, 2)]) (rvs := [.cell 4 (some 2), .cell 5 (some 2), .tmp 6]) (args := [a.v, b.v]) (caps := []) (by kernel_rfl) Try.ntmps78 (V := v_zint_Trunc a b h R) (by kernel_rfl) (by simp) hv

/- trellis/zint.Floor -/
def d_zint_Floor : Vd :=
  .seq (.ops [.op 0 ⟨none, some 2, .box 2 (.t 0)⟩ false (.sh (.one .val)), .op 1 ⟨none, some 3, .box 2 (.t 1)⟩ false (.sh (.one .val)), .op 2 ⟨none, some 4, .new [.b false, .nil]⟩ false (.sh (.one .val)), .op 3 ⟨none, some 5, .new [.b false, .nil]⟩ false (.sh (.one .val)), .op 4 ⟨none, some 6, .mov (.i .i64 0)⟩ false (.no)] [0, 1, 2, 3, 4, 5, 6, 7, 8, 9, 31]) (.seq (.ops [.op 0 ⟨none, some 11, .ldb 2 2 (some 2)⟩ false (.no), .op 1 ⟨none, some 12, .ldb 3 3 (some 2)⟩ false (.no), .op 2 ⟨none, some 13, .call false (.f 78) [.t 11, .t 12]⟩ false (.sh (.tup [(some [.z], .val), (some [.z], .val), (none, .int .i64)])), .op 3 ⟨none, some 10, .mov (.t 13)⟩ false (.no), .op 4 ⟨none, some 14, .ext (.t 10) 0⟩ false (.no), .op 5 ⟨none, some 15, .ext (.t 10) 1⟩ false (.no), .op 6 ⟨none, some 16, .ext (.t 10) 2⟩ false (.no), .op 7 ⟨none, some 7, .new [.b false, .nil]⟩ false (.sh (.one .val)), .op 8 ⟨none, some 8, .new [.b false, .nil]⟩ false (.sh (.one .val)), .op 9 ⟨none, none, .stb 7 7 2 (.t 14)⟩ false (.sh (.one .val)), .op 10 ⟨none, none, .stb 8 8 2 (.t 15)⟩ false (.sh (.one .val)), .op 11 ⟨none, some 9, .mov (.t 16)⟩ false (.no)] [0, 1, 2, 3, 4, 5, 6, 7, 8, 9, 31]) (.join ⟨[4, 5, 7, 8, 9], [4, 5], [4, 5, 7, 8]⟩ [.x 7 [.z], .x 8 [.z]] (.seq (.ops [.op 0 ⟨none, some 17, .mov (.t 9)⟩ false (.no), .op 1 ⟨none, some 18, .bin .eql (.t 17) (.i .i64 0)⟩ false (.sh (.one .val)), .op 2 ⟨none, some 19, .mov (.t 18)⟩ false (.no), .grp ⟨[3, 4, 5, 7, 8, 9], [3, 4, 5, 7, 8], [3, 4, 5, 7, 8]⟩ [.t 24 (.bool)] [(3, ⟨some (19, true), some 20, .fab 8 8 1⟩, true, .no), (4, ⟨some (19, true), some 21, .ldb 20 8 none⟩, false, .no), (5, ⟨some (19, true), some 22, .len (.t 21)⟩, false, .no), (6, ⟨some (19, true), some 23, .bin .gtr (.t 22) (.i .i64 0)⟩, false, .sh (.one .val)), (7, ⟨none, some 24, .pick (.t 19) (.t 23) (.b false)⟩, false, .no)], .op 8 ⟨none, some 25, .mov (.t 24)⟩ false (.no), .grp ⟨[3, 4, 5, 7, 8, 9], [3, 4, 5, 7, 8], [3, 4, 5, 7, 8]⟩ [.t 31 (.bool)] [(9, ⟨some (25, true), some 26, .fab 8 8 0⟩, true, .no), (10, ⟨some (25, true), some 27, .ldb 26 8 none⟩, false, .no), (11, ⟨some (25, true), some 28, .fab 3 3 0⟩, false, .no), (12, ⟨some (25, true), some 29, .ldb 28 3 none⟩, false, .no), (13, ⟨some (25, true), some 30, .beq true (.t 27) (.t 29)⟩, false, .sh (.one .val)), (14, ⟨none, some 31, .pick (.t 25) (.t 30) (.b false)⟩, false, .no)]] [0, 1, 2, 3, 4, 5, 6, 7, 8, 9, 31]) (.cond (.t 31) (.seq (.ops [.op 0 ⟨none, some 32, .ldb 7 7 (some 2)⟩ false (.no), .op 1 ⟨none, some 33, .call false (.f 40) [.i .i64 1]⟩ false (.sh (.agg [.z])), .op 2 ⟨none, some 34, .call false (.f 79) [.t 32, .t 33]⟩ false (.sh (.agg [.z])), .op 3 ⟨none, none, .stb 7 7 2 (.t 34)⟩ false (.sh (.one .val))] [0, 1, 2, 3, 4, 5, 6, 7, 8, 9, 31]) (.ops [.op 0 ⟨none, some 35, .ldb 8 8 (some 2)⟩ false (.no), .op 1 ⟨none, some 36, .ldb 3 3 (some 2)⟩ false (.no), .op 2 ⟨none, some 37, .call false (.f 52) [.t 35, .t 36]⟩ false (.sh (.agg [.z])), .op 3 ⟨none, none, .stb 8 8 2 (.t 37)⟩ false (.sh (.one .val))] [0, 1, 2, 3, 4, 5, 6, 7, 8, 9, 31])) (.skip))) (.seq (.ops [.op 0 ⟨none, some 38, .ldb 7 7 (some 2)⟩ false (.no), .op 1 ⟨none, some 39, .ldb 8 8 (some 2)⟩ false (.no), .op 2 ⟨none, some 40, .mov (.t 9)⟩ false (.no), .op 3 ⟨none, none, .stb 4 4 2 (.t 38)⟩ false (.sh (.one .val)), .op 4 ⟨none, none, .stb 5 5 2 (.t 39)⟩ false (.sh (.one .val)), .op 5 ⟨none, some 6, .mov (.t 40)⟩ false (.no)] [0, 1, 2, 3, 4, 5, 6, 7, 8, 9, 31]) (.ret))))
def v_zint_Floor (a : Z) (b : Z) (h : Hp) (R : Value → Hp → Prop) : Prop :=
  Tri Try.prog (.func (.func 78) #[] #[]) [a.v, b.v] h fun r h1 => ∃ x13a : Z, ∃ x13b : Z, ∃ x13c : Int, r = .tuple #[x13a.v, x13b.v, .int .i64 x13c] ∧
  ∀ J : Z → Z → Hp → Prop, (∀ q : Z, ∀ r1 : Z, ∀ h2 : Hp, (
    R (.tuple #[q.v, r1.v, .int .i64 x13c]) h2
  ) → J q r1 h2) →
  ∀ J1 : Bool → Hp → Prop, (∀ x24 : Bool, ∀ h3 : Hp, (
    ∀ J2 : Bool → Hp → Prop, (∀ x31 : Bool, ∀ h4 : Hp, (
      (x31 = true →
        Tri Try.prog (.func (.func 40) #[] #[]) [.int .i64 1] h4 fun r2 h5 => ∃ x33 : Z, r2 = x33.v ∧
        Tri Try.prog (.func (.func 79) #[] #[]) [x13a.v, x33.v] h5 fun r3 h6 => ∃ x34 : Z, r3 = x34.v ∧
        Tri Try.prog (.func (.func 52) #[] #[]) [x13b.v, b.v] h6 fun r4 h7 => ∃ x37 : Z, r4 = x37.v ∧
        J x34 x37 h7
      ) ∧ (x31 = false →
        J x13a x13b h4
      )
    ) → J2 x31 h4) →
    (x24 = true →
    J2 (beqI true x13b.neg b.neg) h3
    ) ∧ (x24 = false →
    J2 false h3
    )
  ) → J1 x24 h3) →
  ((decide (x13c = 0)) = true →
  J1 (decide (0 < (x13b.mag.n : Int))) h1
  ) ∧ ((decide (x13c = 0)) = false →
  J1 false h1
  )
set_option maxRecDepth 100000 in
theorem t_zint_Floor {a : Z} {b : Z} {h : Hp} {R : Value → Hp → Prop} (hv : v_zint_Floor a b h R) : Tri Try.prog (.func (.func 61) #[] #[]) [a.v, b.v] h R :=
  tri_of_vc mixed Try.func61 (d := d_zint_Floor) (RM := [(2, 2), (3, 3), (4, 4), (5, 5), (7, 7), (8, 8), (20, 8), (26, 8), (28, 3)]) (rvs := [.cell 4 (some 2), .cell 5 (some 2), .tmp 6]) (args := [a.v, b.v]) (caps := []) (by kernel_rfl) Try.ntmps61 (V := v_zint_Floor a b h R) (by kernel_rfl) (by simp) hv

/- trellis/zint.Euclid -/
def d_zint_Euclid : Vd :=
  .seq (.ops [.op 0 ⟨none, some 2, .box 2 (.t 0)⟩ false (.sh (.one .val)), .op 1 ⟨none, some 3, .box 2 (.t 1)⟩ false (.sh (.one .val)), .op 2 ⟨none, some 4, .new [.b false, .nil]⟩ false (.sh (.one .val)), .op 3 ⟨none, some 5, .new [.b false, .nil]⟩ false (.sh (.one .val)), .op 4 ⟨none, some 6, .mov (.i .i64 0)⟩ false (.no)] [0, 1, 2, 3, 4, 5, 6, 7, 8, 9, 23, 28]) (.seq (.ops [.op 0 ⟨none, some 11, .ldb 2 2 (some 2)⟩ false (.no), .op 1 ⟨none, some 12, .ldb 3 3 (some 2)⟩ false (.no), .op 2 ⟨none, some 13, .call false (.f 78) [.t 11, .t 12]⟩ false (.sh (.tup [(some [.z], .val), (some [.z], .val), (none, .int .i64)])), .op 3 ⟨none, some 10, .mov (.t 13)⟩ false (.no), .op 4 ⟨none, some 14, .ext (.t 10) 0⟩ false (.no), .op 5 ⟨none, some 15, .ext (.t 10) 1⟩ false (.no), .op 6 ⟨none, some 16, .ext (.t 10) 2⟩ false (.no), .op 7 ⟨none, some 7, .new [.b false, .nil]⟩ false (.sh (.one .val)), .op 8 ⟨none, some 8, .new [.b false, .nil]⟩ false (.sh (.one .val)), .op 9 ⟨none, none, .stb 7 7 2 (.t 14)⟩ false (.sh (.one .val)), .op 10 ⟨none, none, .stb 8 8 2 (.t 15)⟩ false (.sh (.one .val)), .op 11 ⟨none, some 9, .mov (.t 16)⟩ false (.no)] [0, 1, 2, 3, 4, 5, 6, 7, 8, 9, 23, 28]) (.seq (.seq (.ops [.op 0 ⟨none, some 17, .mov (.t 9)⟩ false (.no), .op 1 ⟨none, some 18, .bin .neq (.t 17) (.i .i64 0)⟩ false (.sh (.one .val)), .op 2 ⟨none, some 19, .mov (.t 18)⟩ false (.no), .grp ⟨[3, 4, 5, 7, 8, 9], [3, 4, 5, 7, 8], [3, 4, 5, 7, 8]⟩ [.t 23 (.bool)] [(3, ⟨some (19, false), some 20, .fab 8 8 0⟩, true, .no), (4, ⟨some (19, false), some 21, .ldb 20 8 none⟩, false, .no), (5, ⟨some (19, false), some 22, .un .not (.t 21)⟩, false, .no), (6, ⟨none, some 23, .pick (.t 19) (.b true) (.t 22)⟩, false, .no)]] [0, 1, 2, 3, 4, 5, 6, 7, 8, 9, 23, 28]) (.cond (.t 23) (.seq (.ops [.op 0 ⟨none, some 24, .ldb 7 7 (some 2)⟩ false (.no), .op 1 ⟨none, some 25, .ldb 8 8 (some 2)⟩ false (.no), .op 2 ⟨none, some 26, .mov (.t 9)⟩ false (.no), .op 3 ⟨none, none, .stb 4 4 2 (.t 24)⟩ false (.sh (.one .val)), .op 4 ⟨none, none, .stb 5 5 2 (.t 25)⟩ false (.sh (.one .val)), .op 5 ⟨none, some 6, .mov (.t 26)⟩ false (.no)] [0, 1, 2, 3, 4, 5, 6, 7, 8, 9, 23, 28]) (.ret)) (.skip))) (.seq (.seq (.ops [.op 0 ⟨none, some 27, .fab 3 3 0⟩ false (.no), .op 1 ⟨none, some 28, .ldb 27 3 none⟩ false (.no)] [0, 1, 2, 3, 4, 5, 6, 7, 8, 9, 23, 28]) (.cond (.t 28) (.seq (.ops [.op 0 ⟨none, some 29, .ldb 7 7 (some 2)⟩ false (.no), .op 3 ⟨none, some 32, .ldb 8 8 (some 2)⟩ false (.no), .op 4 ⟨none, some 33, .ldb 3 3 (some 2)⟩ false (.no), .op 1 ⟨none, some 30, .call false (.f 40) [.i .i64 1]⟩ false (.sh (.agg [.z])), .op 2 ⟨none, some 31, .call false (.f 52) [.t 29, .t 30]⟩ false (.sh (.agg [.z])), .op 5 ⟨none, some 34, .call false (.f 79) [.t 32, .t 33]⟩ false (.sh (.agg [.z])), .op 6 ⟨none, none, .stb 4 4 2 (.t 31)⟩ false (.sh (.one .val)), .op 7 ⟨none, none, .stb 5 5 2 (.t 34)⟩ false (.sh (.one .val)), .op 8 ⟨none, some 6, .mov (.i .i64 0)⟩ false (.no)] [0, 1, 2, 3, 4, 5, 6, 7, 8, 9, 23, 28]) (.ret)) (.skip))) (.seq (.ops [.op 0 ⟨none, some 35, .ldb 7 7 (some 2)⟩ false (.no), .op 3 ⟨none, some 38, .ldb 8 8 (some 2)⟩ false (.no), .op 4 ⟨none, some 39, .ldb 3 3 (some 2)⟩ false (.no), .op 1 ⟨none, some 36, .call false (.f 40) [.i .i64 1]⟩ false (.sh (.agg [.z])), .op 2 ⟨none, some 37, .call false (.f 79) [.t 35, .t 36]⟩ false (.sh (.agg [.z])), .op 5 ⟨none, some 40, .call false (.f 52) [.t 38, .t 39]⟩ false (.sh (.agg [.z])), .op 6 ⟨none, none, .stb 4 4 2 (.t 37)⟩ false (.sh (.one .val)), .op 7 ⟨none, none, .stb 5 5 2 (.t 40)⟩ false (.sh (.one .val)), .op 8 ⟨none, some 6, .mov (.i .i64 0)⟩ false (.no)] [0, 1, 2, 3, 4, 5, 6, 7, 8, 9, 23, 28]) (.ret)))))
def v_zint_Euclid (a : Z) (b : Z) (h : Hp) (R : Value → Hp → Prop) : Prop :=
  Tri Try.prog (.func (.func 78) #[] #[]) [a.v, b.v] h fun r h1 => ∃ x13a : Z, ∃ x13b : Z, ∃ x13c : Int, r = .tuple #[x13a.v, x13b.v, .int .i64 x13c] ∧
  ∀ J : Bool → Hp → Prop, (∀ x23 : Bool, ∀ h2 : Hp, (
    (x23 = true →
      R (.tuple #[x13a.v, x13b.v, .int .i64 x13c]) h2
    ) ∧ (x23 = false →
      (b.neg = true →
        Tri Try.prog (.func (.func 40) #[] #[]) [.int .i64 1] h2 fun r1 h3 => ∃ x30 : Z, r1 = x30.v ∧
        Tri Try.prog (.func (.func 52) #[] #[]) [x13a.v, x30.v] h3 fun r2 h4 => ∃ x31 : Z, r2 = x31.v ∧
        Tri Try.prog (.func (.func 79) #[] #[]) [x13b.v, b.v] h4 fun r3 h5 => ∃ x34 : Z, r3 = x34.v ∧
        R (.tuple #[x31.v, x34.v, .int .i64 0]) h5
      ) ∧ (b.neg = false →
        Tri Try.prog (.func (.func 40) #[] #[]) [.int .i64 1] h2 fun r4 h6 => ∃ x36 : Z, r4 = x36.v ∧
        Tri Try.prog (.func (.func 79) #[] #[]) [x13a.v, x36.v] h6 fun r5 h7 => ∃ x37 : Z, r5 = x37.v ∧
        Tri Try.prog (.func (.func 52) #[] #[]) [x13b.v, b.v] h7 fun r6 h8 => ∃ x40 : Z, r6 = x40.v ∧
        R (.tuple #[x37.v, x40.v, .int .i64 0]) h8
      )
    )
  ) → J x23 h2) →
  ((!decide (x13c = 0)) = true →
  J true h1
  ) ∧ ((!decide (x13c = 0)) = false →
  J (!x13b.neg) h1
  )
set_option maxRecDepth 100000 in
theorem t_zint_Euclid {a : Z} {b : Z} {h : Hp} {R : Value → Hp → Prop} (hv : v_zint_Euclid a b h R) : Tri Try.prog (.func (.func 77) #[] #[]) [a.v, b.v] h R :=
  tri_of_vc mixed Try.func77 (d := d_zint_Euclid) (RM := [(2, 2), (3, 3), (4, 4), (5, 5), (7, 7), (8, 8), (20, 8), (27, 3)]) (rvs := [.cell 4 (some 2), .cell 5 (some 2), .tmp 6]) (args := [a.v, b.v]) (caps := []) (by kernel_rfl) Try.ntmps77 (V := v_zint_Euclid a b h R) (by kernel_rfl) (by simp) hv

/- trellis/zint.Exact -/
def d_zint_Exact : Vd :=
  .seq (.ops [.op 0 ⟨none, some 2, .box 2 (.t 0)⟩ false (.sh (.one .val)), .op 1 ⟨none, some 3, .box 2 (.t 1)⟩ false (.sh (.one .val)), .op 2 ⟨none, some 4, .new [.b false, .nil]⟩ false (.sh (.one .val)), .op 3 ⟨none, some 5, .mov (.i .i64 0)⟩ false (.no)] [0, 1, 2, 3, 4, 5, 6, 7, 17]) (.seq (.ops [.op 0 ⟨none, some 9, .fab 2 2 1⟩ false (.no), .op 1 ⟨none, some 10, .ldb 9 2 none⟩ false (.no), .op 2 ⟨none, some 11, .fab 3 3 1⟩ false (.no), .op 3 ⟨none, some 12, .ldb 11 3 none⟩ false (.no), .op 4 ⟨none, some 13, .call false (.f 74) [.t 10, .t 12]⟩ false (.sh (.tup [(none, .slice), (none, .int .i64)])), .op 5 ⟨none, some 8, .mov (.t 13)⟩ false (.no), .op 6 ⟨none, some 14, .ext (.t 8) 0⟩ false (.no), .op 7 ⟨none, some 15, .ext (.t 8) 1⟩ false (.no), .op 8 ⟨none, some 6, .mov (.t 14)⟩ false (.no), .op 9 ⟨none, some 7, .mov (.t 15)⟩ false (.no)] [0, 1, 2, 3, 4, 5, 6, 7, 17]) (.seq (.seq (.ops [.op 0 ⟨none, some 16, .mov (.t 7)⟩ false (.no), .op 1 ⟨none, some 17, .bin .neq (.t 16) (.i .i64 0)⟩ false (.sh (.one .val))] [0, 1, 2, 3, 4, 5, 6, 7, 17]) (.cond (.t 17) (.seq (.ops [.op 0 ⟨none, some 18, .bd [.b false, .nil] []⟩ false (.no), .op 1 ⟨none, some 19, .mov (.t 7)⟩ false (.no), .op 2 ⟨none, none, .stb 4 4 2 (.t 18)⟩ false (.sh (.one .val)), .op 3 ⟨none, some 5, .mov (.t 19)⟩ false (.no)] [0, 1, 2, 3, 4, 5, 6, 7, 17]) (.ret)) (.skip))) (.seq (.ops [.op 0 ⟨none, some 20, .fab 2 2 0⟩ false (.no), .op 1 ⟨none, some 21, .ldb 20 2 none⟩ false (.no), .op 2 ⟨none, some 22, .fab 3 3 0⟩ false (.no), .op 3 ⟨none, some 23, .ldb 22 3 none⟩ false (.no), .op 4 ⟨none, some 24, .beq true (.t 21) (.t 23)⟩ false (.sh (.one .val)), .op 5 ⟨none, some 25, .mov (.t 6)⟩ false (.no), .op 6 ⟨none, some 26, .call false (.f 34) [.t 24, .t 25]⟩ false (.sh (.agg [.z])), .op 7 ⟨none, none, .stb 4 4 2 (.t 26)⟩ false (.sh (.one .val)), .op 8 ⟨none, some 5, .mov (.i .i64 0)⟩ false (.no)] [0, 1, 2, 3, 4, 5, 6, 7, 17]) (.ret))))
def v_zint_Exact (a : Z) (b : Z) (h : Hp) (R : Value → Hp → Prop) : Prop :=
  Tri Try.prog (.func (.func 74) #[] #[]) [a.mag.v, b.mag.v] h fun r h1 => ∃ x13a : Sl, ∃ x13b : Int, r = .tuple #[x13a.v, .int .i64 x13b] ∧
  ((!decide (x13b = 0)) = true →
    R (.tuple #[.agg #[.bool false, .slice none 0 0], .int .i64 x13b]) h1
  ) ∧ ((!decide (x13b = 0)) = false →
    Tri Try.prog (.func (.func 34) #[] #[]) [.bool (beqI true a.neg b.neg), x13a.v] h1 fun r1 h2 => ∃ x26 : Z, r1 = x26.v ∧
    R (.tuple #[x26.v, .int .i64 0]) h2
  )
set_option maxRecDepth 100000 in
theorem t_zint_Exact {a : Z} {b : Z} {h : Hp} {R : Value → Hp → Prop} (hv : v_zint_Exact a b h R) : Tri Try.prog (.func (.func 51) #[] #[]) [a.v, b.v] h R :=
  tri_of_vc mixed Try.func51 (d := d_zint_Exact) (RM := [(2, 2), (3, 3), (4, 4), (9, 2), (11, 3), (20, 2), (22, 3)]) (rvs := [.cell 4 (some 2), .tmp 5]) (args := [a.v, b.v]) (caps := []) (by kernel_rfl) Try.ntmps51 (V := v_zint_Exact a b h R) (by kernel_rfl) (by simp) hv

/- trellis/zint.Mod -/
def d_zint_Mod : Vd :=
  .seq (.ops [.op 0 ⟨none, some 2, .box 2 (.t 0)⟩ false (.sh (.one .val)), .op 1 ⟨none, some 3, .box 2 (.t 1)⟩ false (.sh (.one .val)), .op 2 ⟨none, some 4, .new [.b false, .nil]⟩ false (.sh (.one .val)), .op 3 ⟨none, some 5, .mov (.i .i64 0)⟩ false (.no)] [0, 1, 2, 3, 4, 5, 7, 8]) (.seq (.ops [.op 0 ⟨none, some 10, .ldb 2 2 (some 2)⟩ false (.no), .op 1 ⟨none, some 11, .ldb 3 3 (some 2)⟩ false (.no), .op 2 ⟨none, some 12, .call false (.f 77) [.t 10, .t 11]⟩ false (.sh (.tup [(some [.z], .val), (some [.z], .val), (none, .int .i64)])), .op 3 ⟨none, some 9, .mov (.t 12)⟩ false (.no), .op 4 ⟨none, some 13, .ext (.t 9) 0⟩ false (.no), .op 5 ⟨none, some 14, .ext (.t 9) 1⟩ false (.no), .op 6 ⟨none, some 15, .ext (.t 9) 2⟩ false (.no), .op 7 ⟨none, some 6, .new [.b false, .nil]⟩ false (.sh (.one .val)), .op 8 ⟨none, some 7, .new [.b false, .nil]⟩ false (.sh (.one .val)), .op 9 ⟨none, none, .stb 6 6 2 (.t 13)⟩ false (.sh (.one .val)), .op 10 ⟨none, none, .stb 7 7 2 (.t 14)⟩ false (.sh (.one .val)), .op 11 ⟨none, some 8, .mov (.t 15)⟩ false (.no)] [0, 1, 2, 3, 4, 5, 7, 8]) (.seq (.ops [.op 0 ⟨none, some 16, .ldb 7 7 (some 2)⟩ false (.no), .op 1 ⟨none, some 17, .mov (.t 8)⟩ false (.no), .op 2 ⟨none, none, .stb 4 4 2 (.t 16)⟩ false (.sh (.one .val)), .op 3 ⟨none, some 5, .mov (.t 17)⟩ false (.no)] [0, 1, 2, 3, 4, 5, 7, 8]) (.ret)))
def v_zint_Mod (a : Z) (m : Z) (h : Hp) (R : Value → Hp → Prop) : Prop :=
  Tri Try.prog (.func (.func 77) #[] #[]) [a.v, m.v] h fun r h1 => ∃ x12a : Z, ∃ x12b : Z, ∃ x12c : Int, r = .tuple #[x12a.v, x12b.v, .int .i64 x12c] ∧
  R (.tuple #[x12b.v, .int .i64 x12c]) h1
set_option maxRecDepth 100000 in
theorem t_zint_Mod {a : Z} {m : Z} {h : Hp} {R : Value → Hp → Prop} (hv : v_zint_Mod a m h R) : Tri Try.prog (.func (.func 58) #[] #[]) [a.v, m.v] h R :=
  tri_of_vc mixed Try.func58 (d := d_zint_Mod) (RM := [(2, 2), (3, 3), (4, 4), (6, 6), (7, 7)]) (rvs := [.cell 4 (some 2), .tmp 5]) (args := [a.v, m.v]) (caps := []) (by kernel_rfl) Try.ntmps58 (V := v_zint_Mod a m h R) (by kernel_rfl) (by simp) hv

/- trellis/bezout.Ext -/
def d_bezout_Ext : Vd :=
  .seq (.ops [.op 0 ⟨none, some 2, .box 2 (.t 0)⟩ false (.sh (.one .val)), .op 1 ⟨none, some 3, .box 2 (.t 1)⟩ false (.sh (.one .val)), .op 2 ⟨none, some 4, .new [.b false, .nil]⟩ false (.sh (.one .val)), .op 3 ⟨none, some 5, .new [.b false, .nil]⟩ false (.sh (.one .val)), .op 4 ⟨none, some 6, .new [.b false, .nil]⟩ false (.sh (.one .val))] [0, 1, 2, 3, 4, 5, 6, 7, 8, 9, 10, 12, 13, 17, 35, 66]) (.seq (.seq (.ops [.op 0 ⟨none, some 15, .ldb 3 3 (some 2)⟩ false (.no), .op 1 ⟨none, some 16, .call false (.f 8) [.t 15]⟩ false (.sh (.one (.int .i64))), .op 2 ⟨none, some 17, .bin .eql (.t 16) (.i .i64 0)⟩ false (.sh (.one .val))] [0, 1, 2, 3, 4, 5, 6, 7, 8, 9, 10, 12, 13, 17, 35, 66]) (.cond (.t 17) (.seq (.ops [.op 0 ⟨none, some 18, .ldb 2 2 (some 2)⟩ false (.no), .op 2 ⟨none, some 20, .ldb 2 2 (some 2)⟩ false (.no), .op 5 ⟨none, some 23, .bd [.b false, .nil] []⟩ false (.no), .op 1 ⟨none, some 19, .call false (.f 16) [.t 18]⟩ false (.sh (.agg [.z])), .op 3 ⟨none, some 21, .call false (.f 8) [.t 20]⟩ false (.sh (.one (.int .i64))), .op 4 ⟨none, some 22, .call false (.f 40) [.t 21]⟩ false (.sh (.agg [.z])), .op 6 ⟨none, none, .stb 4 4 2 (.t 19)⟩ false (.sh (.one .val)), .op 7 ⟨none, none, .stb 5 5 2 (.t 22)⟩ false (.sh (.one .val)), .op 8 ⟨none, none, .stb 6 6 2 (.t 23)⟩ false (.sh (.one .val))] [0, 1, 2, 3, 4, 5, 6, 7, 8, 9, 10, 12, 13, 17, 35, 66]) (.ret)) (.skip))) (.seq (.ops [.op 0 ⟨none, some 24, .ldb 2 2 (some 2)⟩ false (.no), .op 2 ⟨none, some 26, .ldb 3 3 (some 2)⟩ false (.no), .op 5 ⟨none, some 7, .new [.b false, .nil, .b false, .nil]⟩ false (.sh (.one .val)), .op 1 ⟨none, some 25, .call false (.f 16) [.t 24]⟩ false (.sh (.agg [.z])), .op 3 ⟨none, some 27, .call false (.f 16) [.t 26]⟩ false (.sh (.agg [.z])), .op 4 ⟨none, some 28, .bd [.b false, .nil, .b false, .nil] [(0, 2, .t 25), (2, 2, .t 27)]⟩ false (.no), .op 6 ⟨none, none, .stb 7 7 4 (.t 28)⟩ false (.sh (.one .val))] [0, 1, 2, 3, 4, 5, 6, 7, 8, 9, 10, 12, 13, 17, 35, 66]) (.seq (.ops [.op 0 ⟨none, some 29, .call false (.f 40) [.i .i64 1]⟩ false (.sh (.agg [.z])), .op 1 ⟨none, some 30, .call false (.f 40) [.i .i64 0]⟩ false (.sh (.agg [.z])), .op 2 ⟨none, some 31, .bd [.b false, .nil, .b false, .nil] [(0, 2, .t 29), (2, 2, .t 30)]⟩ false (.no), .op 3 ⟨none, some 8, .new [.b false, .nil, .b false, .nil]⟩ false (.sh (.one .val)), .op 4 ⟨none, none, .stb 8 8 4 (.t 31)⟩ false (.sh (.one .val))] [0, 1, 2, 3, 4, 5, 6, 7, 8, 9, 10, 12, 13, 17, 35, 66]) (.seq (.block 0 (.loop ⟨[2, 3, 4, 5, 6, 7, 8], [2, 3, 4, 5, 6], [2, 3, 4, 5, 6, 7, 8]⟩ [.x 7 [.z, .z], .x 8 [.z, .z]] (.seq (.seq (.ops [.op 0 ⟨none, some 32, .iab 7 7 2 2 (.i .i64 1)⟩ false (.no), .op 1 ⟨none, some 33, .ldb 32 7 (some 2)⟩ false (.no), .op 2 ⟨none, some 34, .call false (.f 8) [.t 33]⟩ false (.sh (.one (.int .i64))), .op 3 ⟨none, some 35, .bin .neq (.t 34) (.i .i64 0)⟩ false (.sh (.one .val))] [0, 1, 2, 3, 4, 5, 6, 7, 8, 9, 10, 12, 13, 17, 35, 66]) (.cond (.t 35) (.skip) (.exit 0))) (.block 1 (.seq (.ops [.op 0 ⟨none, some 37, .iab 7 7 2 2 (.i .i64 0)⟩ false (.no), .op 1 ⟨none, some 38, .ldb 37 7 (some 2)⟩ false (.no), .op 2 ⟨none, some 39, .iab 7 7 2 2 (.i .i64 1)⟩ false (.no), .op 3 ⟨none, some 40, .ldb 39 7 (some 2)⟩ false (.no), .op 4 ⟨none, some 41, .call false (.f 78) [.t 38, .t 40]⟩ false (.sh (.tup [(some [.z], .val), (some [.z], .val), (none, .int .i64)])), .op 5 ⟨none, some 36, .mov (.t 41)⟩ false (.no), .op 6 ⟨none, some 42, .ext (.t 36) 0⟩ false (.no), .op 7 ⟨none, some 43, .ext (.t 36) 1⟩ false (.no), .op 8 ⟨none, some 44, .ext (.t 36) 2⟩ false (.no), .op 9 ⟨none, some 9, .new [.b false, .nil]⟩ false (.sh (.one .val)), .op 10 ⟨none, some 10, .new [.b false, .nil]⟩ false (.sh (.one .val)), .op 11 ⟨none, none, .stb 9 9 2 (.t 42)⟩ false (.sh (.one .val)), .op 12 ⟨none, none, .stb 10 10 2 (.t 43)⟩ false (.sh (.one .val)), .op 13 ⟨none, some 11, .mov (.t 44)⟩ false (.no)] [0, 1, 2, 3, 4, 5, 6, 7, 8, 9, 10, 12, 13, 17, 35, 66]) (.seq (.ops [.op 0 ⟨none, some 45, .iab 8 8 2 2 (.i .i64 0)⟩ false (.no), .op 1 ⟨none, some 46, .ldb 45 8 (some 2)⟩ false (.no), .op 2 ⟨none, some 47, .ldb 9 9 (some 2)⟩ false (.no), .op 3 ⟨none, some 48, .iab 8 8 2 2 (.i .i64 1)⟩ false (.no), .op 4 ⟨none, some 49, .ldb 48 8 (some 2)⟩ false (.no), .op 7 ⟨none, some 12, .new [.b false, .nil]⟩ false (.sh (.one .val)), .op 5 ⟨none, some 50, .call false (.f 11) [.t 47, .t 49]⟩ false (.sh (.agg [.z])), .op 6 ⟨none, some 51, .call false (.f 79) [.t 46, .t 50]⟩ false (.sh (.agg [.z])), .op 8 ⟨none, none, .stb 12 12 2 (.t 51)⟩ false (.sh (.one .val))] [0, 1, 2, 3, 4, 5, 6, 7, 8, 9, 10, 12, 13, 17, 35, 66]) (.seq (.ops [.op 0 ⟨none, some 52, .iab 7 7 2 2 (.i .i64 1)⟩ false (.no), .op 1 ⟨none, some 53, .ldb 52 7 (some 2)⟩ false (.no), .op 2 ⟨none, some 54, .ldb 10 10 (some 2)⟩ false (.no), .op 3 ⟨none, some 55, .bd [.b false, .nil, .b false, .nil] [(0, 2, .t 53), (2, 2, .t 54)]⟩ false (.no), .op 4 ⟨none, none, .stb 7 7 4 (.t 55)⟩ false (.sh (.one .val))] [0, 1, 2, 3, 4, 5, 6, 7, 8, 9, 10, 12, 13, 17, 35, 66]) (.ops [.op 0 ⟨none, some 56, .iab 8 8 2 2 (.i .i64 1)⟩ false (.no), .op 1 ⟨none, some 57, .ldb 56 8 (some 2)⟩ false (.no), .op 2 ⟨none, some 58, .ldb 12 12 (some 2)⟩ false (.no), .op 3 ⟨none, some 59, .bd [.b false, .nil, .b false, .nil] [(0, 2, .t 57), (2, 2, .t 58)]⟩ false (.no), .op 4 ⟨none, none, .stb 8 8 4 (.t 59)⟩ false (.sh (.one .val))] [0, 1, 2, 3, 4, 5, 6, 7, 8, 9, 10, 12, 13, 17, 35, 66])))))))) (.seq (.ops [.op 0 ⟨none, some 60, .iab 7 7 2 2 (.i .i64 0)⟩ false (.no), .op 1 ⟨none, some 61, .ldb 60 7 (some 2)⟩ false (.no), .op 2 ⟨none, some 62, .iab 8 8 2 2 (.i .i64 0)⟩ false (.no), .op 3 ⟨none, some 63, .ldb 62 8 (some 2)⟩ false (.no), .op 4 ⟨none, none, .stb 4 4 2 (.t 61)⟩ false (.sh (.one .val)), .op 5 ⟨none, none, .stb 5 5 2 (.t 63)⟩ false (.sh (.one .val))] [0, 1, 2, 3, 4, 5, 6, 7, 8, 9, 10, 12, 13, 17, 35, 66]) (.join ⟨[2, 3, 4, 5, 6], [2, 3, 4, 6], [2, 3, 4, 5, 6]⟩ [.x 5 [.z]] (.seq (.ops [.op 0 ⟨none, some 64, .ldb 2 2 (some 2)⟩ false (.no), .op 1 ⟨none, some 65, .call false (.f 8) [.t 64]⟩ false (.sh (.one (.int .i64))), .op 2 ⟨none, some 66, .bin .lss (.t 65) (.i .i64 0)⟩ false (.sh (.one .val))] [0, 1, 2, 3, 4, 5, 6, 7, 8, 9, 10, 12, 13, 17, 35, 66]) (.cond (.t 66) (.ops [.op 0 ⟨none, some 67, .ldb 5 5 (some 2)⟩ false (.no), .op 1 ⟨none, some 68, .call false (.f 10) [.t 67]⟩ false (.sh (.agg [.z])), .op 2 ⟨none, none, .stb 5 5 2 (.t 68)⟩ false (.sh (.one .val))] [0, 1, 2, 3, 4, 5, 6, 7, 8, 9, 10, 12, 13, 17, 35, 66]) (.skip))) (.seq (.ops [.op 0 ⟨none, some 70, .ldb 3 3 (some 2)⟩ false (.no), .op 1 ⟨none, some 71, .ldb 4 4 (some 2)⟩ false (.no), .op 2 ⟨none, some 72, .call false (.f 51) [.t 70, .t 71]⟩ false (.sh (.tup [(some [.z], .val), (none, .int .i64)])), .op 3 ⟨none, some 69, .mov (.t 72)⟩ false (.no), .op 4 ⟨none, some 73, .ext (.t 69) 0⟩ false (.no), .op 5 ⟨none, some 74, .ext (.t 69) 1⟩ false (.no), .op 6 ⟨none, some 13, .new [.b false, .nil]⟩ false (.sh (.one .val)), .op 7 ⟨none, none, .stb 13 13 2 (.t 73)⟩ false (.sh (.one .val)), .op 8 ⟨none, some 14, .mov (.t 74)⟩ false (.no)] [0, 1, 2, 3, 4, 5, 6, 7, 8, 9, 10, 12, 13, 17, 35, 66]) (.seq (.ops [.op 0 ⟨none, some 76, .ldb 5 5 (some 2)⟩ false (.no), .op 1 ⟨none, some 77, .ldb 13 13 (some 2)⟩ false (.no), .op 2 ⟨none, some 78, .call false (.f 58) [.t 76, .t 77]⟩ false (.sh (.tup [(some [.z], .val), (none, .int .i64)])), .op 3 ⟨none, some 75, .mov (.t 78)⟩ false (.no), .op 4 ⟨none, some 79, .ext (.t 75) 0⟩ false (.no), .op 5 ⟨none, some 80, .ext (.t 75) 1⟩ false (.no), .op 6 ⟨none, none, .stb 5 5 2 (.t 79)⟩ false (.sh (.one .val))] [0, 1, 2, 3, 4, 5, 6, 7, 8, 9, 10, 12, 13, 17, 35, 66]) (.seq (.ops [.op 0 ⟨none, some 82, .ldb 4 4 (some 2)⟩ false (.no), .op 1 ⟨none, some 83, .ldb 2 2 (some 2)⟩ false (.no), .op 2 ⟨none, some 84, .ldb 5 5 (some 2)⟩ false (.no), .op 5 ⟨none, some 87, .ldb 3 3 (some 2)⟩ false (.no), .op 3 ⟨none, some 85, .call false (.f 11) [.t 83, .t 84]⟩ false (.sh (.agg [.z])), .op 4 ⟨none, some 86, .call false (.f 79) [.t 82, .t 85]⟩ false (.sh (.agg [.z])), .op 6 ⟨none, some 88, .call false (.f 51) [.t 86, .t 87]⟩ false (.sh (.tup [(some [.z], .val), (none, .int .i64)])), .op 7 ⟨none, some 81, .mov (.t 88)⟩ false (.no), .op 8 ⟨none, some 89, .ext (.t 81) 0⟩ false (.no), .op 9 ⟨none, some 90, .ext (.t 81) 1⟩ false (.no), .op 10 ⟨none, none, .stb 6 6 2 (.t 89)⟩ false (.sh (.one .val))] [0, 1, 2, 3, 4, 5, 6, 7, 8, 9, 10, 12, 13, 17, 35, 66]) (.seq (.ops [.op 0 ⟨none, some 91, .ldb 4 4 (some 2)⟩ false (.no), .op 1 ⟨none, some 92, .ldb 5 5 (some 2)⟩ false (.no), .op 2 ⟨none, some 93, .ldb 6 6 (some 2)⟩ false (.no), .op 3 ⟨none, none, .stb 4 4 2 (.t 91)⟩ false (.sh (.one .val)), .op 4 ⟨none, none, .stb 5 5 2 (.t 92)⟩ false (.sh (.one .val)), .op 5 ⟨none, none, .stb 6 6 2 (.t 93)⟩ false (.sh (.one .val))] [0, 1, 2, 3, 4, 5, 6, 7, 8, 9, 10, 12, 13, 17, 35, 66]) (.ret)))))))))))
def v_bezout_Ext (x0 : Z) (x1 : Z) (h : Hp) (R : Value → Hp → Prop) : Prop :=
  Tri Try.prog (.func (.func 8) #[] #[]) [x1.v] h fun r h1 => ∃ x16 : Int, r = .int .i64 x16 ∧
  ((decide (x16 = 0)) = true →
    Tri Try.prog (.func (.func 16) #[] #[]) [x0.v] h1 fun r1 h2 => ∃ x19 : Z, r1 = x19.v ∧
    Tri Try.prog (.func (.func 8) #[] #[]) [x0.v] h2 fun r2 h3 => ∃ x21 : Int, r2 = .int .i64 x21 ∧
    Tri Try.prog (.func (.func 40) #[] #[]) [.int .i64 x21] h3 fun r3 h4 => ∃ x22 : Z, r3 = x22.v ∧
    R (.tuple #[x19.v, x22.v, .agg #[.bool false, .slice none 0 0]]) h4
  ) ∧ ((decide (x16 = 0)) = false →
    Tri Try.prog (.func (.func 16) #[] #[]) [x0.v] h1 fun r4 h5 => ∃ x25 : Z, r4 = x25.v ∧
    Tri Try.prog (.func (.func 16) #[] #[]) [x1.v] h5 fun r5 h6 => ∃ x27 : Z, r5 = x27.v ∧
    Tri Try.prog (.func (.func 40) #[] #[]) [.int .i64 1] h6 fun r6 h7 => ∃ x29 : Z, r6 = x29.v ∧
    Tri Try.prog (.func (.func 40) #[] #[]) [.int .i64 0] h7 fun r7 h8 => ∃ x30 : Z, r7 = x30.v ∧
    ∃ I : Z → Z → Z → Z → Hp → Prop, ∃ mu : Z → Z → Z → Z → Hp → Nat, I x25 x27 x29 x30 h8 ∧ (∀ x7_0 : Z, ∀ x7_1 : Z, ∀ x8_0 : Z, ∀ x8_1 : Z, ∀ h9 : Hp, I x7_0 x7_1 x8_0 x8_1 h9 →
      (0 : Int) ≤ 1 ∧ 1 < (2 : Int) ∧
      Tri Try.prog (.func (.func 8) #[] #[]) [x7_1.v] h9 fun r8 h10 => ∃ x34 : Int, r8 = .int .i64 x34 ∧
      ((!decide (x34 = 0)) = true →
        (0 : Int) ≤ 0 ∧ 0 < (2 : Int) ∧
        (0 : Int) ≤ 1 ∧ 1 < (2 : Int) ∧
        Tri Try.prog (.func (.func 78) #[] #[]) [x7_0.v, x7_1.v] h10 fun r9 h11 => ∃ x41a : Z, ∃ x41b : Z, ∃ x41c : Int, r9 = .tuple #[x41a.v, x41b.v, .int .i64 x41c] ∧
        (0 : Int) ≤ 0 ∧ 0 < (2 : Int) ∧
        (0 : Int) ≤ 1 ∧ 1 < (2 : Int) ∧
        Tri Try.prog (.func (.func 11) #[] #[]) [x41a.v, x8_1.v] h11 fun r10 h12 => ∃ x50 : Z, r10 = x50.v ∧
        Tri Try.prog (.func (.func 79) #[] #[]) [x8_0.v, x50.v] h12 fun r11 h13 => ∃ x51 : Z, r11 = x51.v ∧
        (0 : Int) ≤ 1 ∧ 1 < (2 : Int) ∧
        (0 : Int) ≤ 1 ∧ 1 < (2 : Int) ∧
        I x7_1 x41b x8_1 x51 h13 ∧ mu x7_1 x41b x8_1 x51 h13 < mu x7_0 x7_1 x8_0 x8_1 h9
      ) ∧ ((!decide (x34 = 0)) = false →
        (0 : Int) ≤ 0 ∧ 0 < (2 : Int) ∧
        (0 : Int) ≤ 0 ∧ 0 < (2 : Int) ∧
        ∀ J : Z → Hp → Prop, (∀ x5 : Z, ∀ h14 : Hp, (
          Tri Try.prog (.func (.func 51) #[] #[]) [x1.v, x7_0.v] h14 fun r12 h15 => ∃ x72a : Z, ∃ x72b : Int, r12 = .tuple #[x72a.v, .int .i64 x72b] ∧
          Tri Try.prog (.func (.func 58) #[] #[]) [x5.v, x72a.v] h15 fun r13 h16 => ∃ x78a : Z, ∃ x78b : Int, r13 = .tuple #[x78a.v, .int .i64 x78b] ∧
          Tri Try.prog (.func (.func 11) #[] #[]) [x0.v, x78a.v] h16 fun r14 h17 => ∃ x85 : Z, r14 = x85.v ∧
          Tri Try.prog (.func (.func 79) #[] #[]) [x7_0.v, x85.v] h17 fun r15 h18 => ∃ x86 : Z, r15 = x86.v ∧
          Tri Try.prog (.func (.func 51) #[] #[]) [x86.v, x1.v] h18 fun r16 h19 => ∃ x88a : Z, ∃ x88b : Int, r16 = .tuple #[x88a.v, .int .i64 x88b] ∧
          R (.tuple #[x7_0.v, x78a.v, x88a.v]) h19
        ) → J x5 h14) →
        Tri Try.prog (.func (.func 8) #[] #[]) [x0.v] h10 fun r17 h20 => ∃ x65 : Int, r17 = .int .i64 x65 ∧
        ((decide (x65 < 0)) = true →
          Tri Try.prog (.func (.func 10) #[] #[]) [x8_0.v] h20 fun r18 h21 => ∃ x68 : Z, r18 = x68.v ∧
          J x68 h21
        ) ∧ ((decide (x65 < 0)) = false →
          J x8_0 h20
        )
      )
    )
  )
set_option maxRecDepth 100000 in
theorem t_bezout_Ext {x0 : Z} {x1 : Z} {h : Hp} {R : Value → Hp → Prop} (hv : v_bezout_Ext x0 x1 h R) : Tri Try.prog (.func (.func 59) #[] #[]) [x0.v, x1.v] h R :=
  tri_of_vc mixed Try.func59 (d := d_bezout_Ext) (RM := [(2, 2), (3, 3), (4, 4), (5, 5), (6, 6), (7, 7), (8, 8), (9, 9), (10, 10), (12, 12), (13, 13), (32, 7), (37, 7), (39, 7), (45, 8), (48, 8), (52, 7), (56, 8), (60, 7), (62, 8)]) (rvs := [.cell 4 (some 2), .cell 5 (some 2), .cell 6 (some 2)]) (args := [x0.v, x1.v]) (caps := []) (by kernel_rfl) Try.ntmps59 (V := v_bezout_Ext x0 x1 h R) (by kernel_rfl) (by simp) hv

end Go.Proofs.Ytmfafadchpglgaa

/- zint: integers. -/
namespace Go.Proofs.Ytmfafadchpglgaa
set_option maxRecDepth 20000

/-- A sign and a size. -/
def sg (b : Bool) (k : Nat) : Int := if b then -(k : Int) else k
theorem sg_abs (b : Bool) (k : Nat) : (sg b k).natAbs = k := by unfold sg; split <;> omega
theorem sg_nn (b : Bool) (k : Nat) (n : Int) (h : sg b k = n) : n.natAbs = k := by rw [← h, sg_abs]
theorem sg_self (n : Int) : sg (decide (n < 0)) n.natAbs = n := by unfold sg; split <;> simp_all <;> omega

/-- A number of no more words than any number here may have. -/
def Sz (n : Int) : Prop := ∃ k, k ≤ 34359738368 ∧ n.natAbs < B ^ k

/-- The words of z, and its sign, make n. -/
structure Zs (h : Hp) (z : Z) (n : Int) : Prop where
  ex : ∃ ws : List Nat, Ws h z.mag ws ∧ ws.length ≤ 34359738368 ∧ n = sg z.neg (vl ws)

/-- A new integer in least form. -/
structure ZR (h h' : Hp) (z : Z) (n : Int) : Prop where
  neg : z.neg = decide (n < 0)
  mag : NatR h h' z.mag n.natAbs

theorem Zs.le {h h' : Hp} {z : Z} {n : Int} (g : Zs h z n) (l : h.le h') : Zs h' z n := let ⟨ws, a, b, c⟩ := g.ex; ⟨ws, a.le l, b, c⟩
theorem ZR.le {h h' h'' : Hp} {z : Z} {n : Int} (g : ZR h h' z n) (l : h'.le h'') : ZR h h'' z n := ⟨g.neg, g.mag.le l⟩
theorem ZR.ge {h0 h h' : Hp} {z : Z} {n : Int} (g : ZR h h' z n) (l : h0.le h) : ZR h0 h' z n := ⟨g.neg, g.mag.ge l⟩
theorem Zs.sz {h : Hp} {z : Z} {n : Int} (g : Zs h z n) : Sz n := by
  obtain ⟨ws, a, b, rfl⟩ := g.ex
  exact ⟨ws.length, b, by rw [sg_abs]; exact vl_lt a.lt⟩
theorem ZR.zs {h h' : Hp} {z : Z} {n : Int} (g : ZR h h' z n) (s : Sz n) : Zs h' z n :=
  let ⟨_, hk, hs⟩ := s; ⟨wd n.natAbs, g.mag.ws, Nat.le_trans (wl_le hs) hk, by rw [vl_wd, g.neg, sg_self]⟩

def ZP (h h' : Hp) (v : Value) (n : Int) : Prop := h.le h' ∧ ∃ z : Z, v = z.v ∧ ZR h h' z n

theorem zint_of {h h0 : Hp} {neg : Bool} {s : Sl} {k : Nat} (hr : NatR h0 h s k) : Tri Try.prog (.func (.func 34) #[] #[]) [.bool neg, s.v] h fun v h' => h' = h ∧ ∃ z : Z, v = z.v ∧ ZR h0 h z (sg neg k) := by
  refine t_zint_of ?_
  intro J hJ
  have key : ∀ x : Bool, x = decide (sg neg k < 0) → J x h := by
    rintro _ rfl
    exact hJ _ h ⟨rfl, ⟨_, s⟩, rfl, rfl, by rw [sg_abs]; exact hr⟩
  have hn := hr.n
  refine ⟨fun e => key _ ?_, fun e => key _ ?_⟩
  · subst e
    have : 0 < wl k ↔ 0 < k := by have := @wl_zero k; omega
    simp only [sg, if_true]
    rw [decide_eq_decide]
    omega
  · subst e
    simp [sg]

theorem zint_Least {h : Hp} {a : Z} {x : Int} (g : Zs h a x) : Tri Try.prog (.func (.func 33) #[] #[]) [a.v] h fun v h' => ZP h h' v x := by
  obtain ⟨ws, gw, hl, rfl⟩ := g.ex
  refine t_zint_Least ((nat_Least gw (by omega)).mono ?_)
  rintro _ h1 ⟨l1, s, rfl, hs⟩
  refine ⟨_, rfl, (zint_of hs).mono ?_⟩
  rintro _ _ ⟨rfl, z, rfl, hz⟩
  exact ⟨_, rfl, l1, z, rfl, hz⟩

theorem zint_Neg {h : Hp} {a : Z} {x : Int} (g : Zs h a x) : Tri Try.prog (.func (.func 10) #[] #[]) [a.v] h fun v h' => ZP h h' v (-x) := by
  obtain ⟨ws, gw, hl, rfl⟩ := g.ex
  refine t_zint_Neg ((nat_Least gw (by omega)).mono ?_)
  rintro _ h1 ⟨l1, s, rfl, hs⟩
  refine ⟨_, rfl, (zint_of hs).mono ?_⟩
  rintro _ _ ⟨rfl, z, rfl, hz⟩
  refine ⟨_, rfl, l1, z, rfl, ?_⟩
  have : sg (!a.neg) (vl ws) = -sg a.neg (vl ws) := by cases a.neg <;> simp [sg]
  rw [← this]; exact hz

theorem zint_Abs {h : Hp} {a : Z} {x : Int} (g : Zs h a x) : Tri Try.prog (.func (.func 16) #[] #[]) [a.v] h fun v h' => ZP h h' v (x.natAbs : Nat) := by
  obtain ⟨ws, gw, hl, rfl⟩ := g.ex
  refine t_zint_Abs ((nat_Least gw (by omega)).mono ?_)
  rintro _ h1 ⟨l1, s, rfl, hs⟩
  refine ⟨_, rfl, (zint_of hs).mono ?_⟩
  rintro _ _ ⟨rfl, z, rfl, hz⟩
  refine ⟨_, rfl, l1, z, rfl, ?_⟩
  rw [sg_abs]; exact hz

theorem zint_Of {h : Hp} {n : Int} (h1 : -9223372036854775808 ≤ n) (h2 : n ≤ 9223372036854775807) : Tri Try.prog (.func (.func 40) #[] #[]) [.int .i64 n] h fun v h' => ZP h h' v n := by
  have hB : B = 18446744073709551616 := rfl
  have one : ∀ (b : Nat) (h' : Hp) (k : Nat), h b = none → k < B → h' = h.up b ⟨[.int .u64 (k : Nat)], true⟩ → h.le h' ∧ Ws h' ⟨some (blkA b), 1, 1⟩ [k] := fun b h' k hb hk e => by
    subst e
    exact ⟨Hp.le_up _ hb, Ws.blk (l := [k]) (up_get _ _ _) (by intro w hw; rw [List.mem_singleton] at hw; rw [hw]; exact hk) (Nat.le_refl _)⟩
  have e1 : ∀ k, vl [k] = k := fun k => by simp [vl]
  refine t_zint_Of ⟨fun hc => ?_, fun hc => ?_⟩
  · simp only [decide_eq_true_eq] at hc
    intro x6 e6 x7 e7 b h' hb e
    have e7' : x7 = (n.natAbs : Nat) := by rw [wrapI] at e6 e7; omega
    subst e7'
    obtain ⟨l1, g⟩ := one b h' n.natAbs hb (by omega) e
    refine (nat_Least g (by simp)).mono ?_
    rintro _ h3 ⟨l3, s, rfl, hs⟩
    rw [e1] at hs
    refine ⟨_, rfl, (zint_of hs).mono ?_⟩
    rintro _ _ ⟨rfl, z, rfl, hz⟩
    refine ⟨_, rfl, Hp.le_trans l1 l3, z, rfl, ?_⟩
    have : sg true n.natAbs = n := by simp only [sg, if_true]; omega
    rw [this] at hz; exact hz.ge l1
  · simp only [decide_eq_false_iff_not] at hc
    intro x12 e12 b h' hb e
    have e12' : x12 = (n.natAbs : Nat) := by rw [wrapI] at e12; omega
    subst e12'
    obtain ⟨l1, g⟩ := one b h' n.natAbs hb (by omega) e
    refine (nat_Least g (by simp)).mono ?_
    rintro _ h3 ⟨l3, s, rfl, hs⟩
    rw [e1] at hs
    refine ⟨_, rfl, (zint_of hs).mono ?_⟩
    rintro _ _ ⟨rfl, z, rfl, hz⟩
    refine ⟨_, rfl, Hp.le_trans l1 l3, z, rfl, ?_⟩
    have : sg false n.natAbs = n := by simp only [sg, Bool.false_eq_true, if_false]; omega
    rw [this] at hz; exact hz.ge l1

theorem zint_Sign {h : Hp} {a : Z} {x : Int} (g : Zs h a x) : Tri Try.prog (.func (.func 8) #[] #[]) [a.v] h fun v h' => h' = h ∧ v = .int .i64 x.sign := by
  obtain ⟨ws, gw, hl, rfl⟩ := g.ex
  refine t_zint_Sign ((nat_BitLen gw (by omega)).const ?_)
  have hz := @blen_zero (vl ws)
  refine ⟨_, rfl, fun hc => ⟨rfl, ?_⟩, fun hc => ⟨fun hn => ⟨rfl, ?_⟩, fun hn => ⟨rfl, ?_⟩⟩⟩
  · simp only [decide_eq_true_eq] at hc
    have : vl ws = 0 := hz.1 (by omega)
    rw [this]; unfold sg; split <;> rfl
  · simp only [decide_eq_false_iff_not] at hc
    have : vl ws ≠ 0 := fun h => hc (by rw [hz.2 h]; rfl)
    rw [hn]; simp only [sg, if_true]
    rw [Int.sign_eq_neg_one_of_neg (by omega)]
  · simp only [decide_eq_false_iff_not] at hc
    have : vl ws ≠ 0 := fun h => hc (by rw [hz.2 h]; rfl)
    rw [hn]; simp only [sg, Bool.false_eq_true, if_false]
    rw [Int.sign_eq_one_of_pos (by simp; omega)]

/-- How two integers stand to one another. -/
def cmpZ (x y : Int) : Int := if x < y then -1 else if y < x then 1 else 0

theorem zint_Cmp {h : Hp} {a b : Z} {x y : Int} (ga : Zs h a x) (gb : Zs h b y) : Tri Try.prog (.func (.func 25) #[] #[]) [a.v, b.v] h fun v h' => h' = h ∧ v = .int .i64 (cmpZ x y) := by
  refine t_zint_Cmp ((zint_Sign ga).const ?_)
  refine ⟨_, rfl, (zint_Sign gb).const ?_⟩
  have s1 : ∀ z : Int, (z < 0 ∧ z.sign = -1) ∨ (z = 0 ∧ z.sign = 0) ∨ (0 < z ∧ z.sign = 1) := fun z => by
    rcases Int.lt_trichotomy z 0 with h | h | h
    · exact Or.inl ⟨h, Int.sign_eq_neg_one_of_neg h⟩
    · exact Or.inr (Or.inl ⟨h, by rw [h]; rfl⟩)
    · exact Or.inr (Or.inr ⟨h, Int.sign_eq_one_of_pos h⟩)
  have hx := s1 x
  have hy := s1 y
  refine ⟨_, rfl, fun hne => ⟨fun hc => ⟨rfl, ?_⟩, fun hc => ⟨rfl, ?_⟩⟩, fun he => ?_⟩
  · simp only [decide_eq_true_eq] at hc
    unfold cmpZ; rw [if_pos (by omega)]
  · simp only [decide_eq_false_iff_not] at hc
    simp only [Bool.not_eq_true', decide_eq_false_iff_not] at hne
    unfold cmpZ; rw [if_neg (by omega), if_pos (by omega)]
  · simp only [Bool.not_eq_false', decide_eq_true_eq] at he
    obtain ⟨xs, gx, lx, ex⟩ := ga.ex
    obtain ⟨ys, gy, ly, ey⟩ := gb.ex
    refine (nat_Cmp gx gy (by omega) (by omega)).const ?_
    refine ⟨_, rfl, fun x23 e23 => ⟨rfl, ?_⟩⟩
    have hb : x23 = cmpZ x y := by
      have ax := sg_nn _ _ _ ex.symm
      have ay := sg_nn _ _ _ ey.symm
      rw [← ax, ← ay] at e23
      have hcm : cmpN x.natAbs y.natAbs = -1 ∧ x.natAbs < y.natAbs ∨ cmpN x.natAbs y.natAbs = 1 ∧ y.natAbs < x.natAbs ∨ cmpN x.natAbs y.natAbs = 0 ∧ x.natAbs = y.natAbs := by
        unfold cmpN; split
        · left; omega
        · split
          · right; left; omega
          · right; right; omega
      have hcz : cmpZ x y = -1 ∧ x < y ∨ cmpZ x y = 1 ∧ y < x ∨ cmpZ x y = 0 ∧ x = y := by
        unfold cmpZ; split
        · left; omega
        · split
          · right; left; omega
          · right; right; omega
      generalize cmpN x.natAbs y.natAbs = c at *
      generalize cmpZ x y = d at *
      rcases hx with ⟨h1, h2⟩ | ⟨h1, h2⟩ | ⟨h1, h2⟩ <;> rw [h2] at e23 he <;> rcases hcm with ⟨h3, h4⟩ | ⟨h3, h4⟩ | ⟨h3, h4⟩ <;> subst h3 <;> rw [i64w (by decide) (by decide)] at e23 <;> omega
    rw [hb]

theorem zint_Add {h : Hp} {a b : Z} {x y : Int} (ga : Zs h a x) (gb : Zs h b y) : Tri Try.prog (.func (.func 52) #[] #[]) [a.v, b.v] h fun v h' => ZP h h' v (x + y) := by
  obtain ⟨xs, gx, lx, rfl⟩ := ga.ex
  obtain ⟨ys, gy, ly, rfl⟩ := gb.ex
  refine t_zint_Add ⟨fun hs => ?_, fun hs J hJ => ?_⟩
  · have hs' : a.neg = b.neg := by simpa [beqI] using hs
    refine (nat_Add gx gy (by omega) (by omega)).mono ?_
    rintro _ h1 ⟨l1, s, rfl, hs⟩
    refine ⟨_, rfl, (zint_of hs).mono ?_⟩
    rintro _ _ ⟨rfl, z, rfl, hz⟩
    refine ⟨_, rfl, l1, z, rfl, ?_⟩
    have : sg a.neg (vl xs + vl ys) = sg a.neg (vl xs) + sg b.neg (vl ys) := by
      rw [← hs']; cases a.neg <;> simp [sg]; omega
    rw [← this]; exact hz
  · have hs' : a.neg ≠ b.neg := by simpa [beqI] using hs
    have main : ∀ (a1 b1 : Z) (us ws : List Nat), Ws h a1.mag us → Ws h b1.mag ws → us.length ≤ 34359738368 → ws.length ≤ 34359738368 → vl ws ≤ vl us → a1.neg ≠ b1.neg → sg a1.neg (vl us) + sg b1.neg (vl ws) = sg a.neg (vl xs) + sg b.neg (vl ys) → J a1 b1 h := by
      intro a1 b1 us ws g1 g2 h1 h2 hle hne he
      refine hJ _ _ _ ((nat_Sub g1 g2 (by omega) (by omega)).mono ?_)
      rintro _ h3 (⟨hlt, _, _⟩ | ⟨_, l3, s, rfl, hs⟩)
      · omega
      refine ⟨_, _, rfl, (zint_of hs).mono ?_⟩
      rintro _ _ ⟨rfl, z, rfl, hz⟩
      refine ⟨_, rfl, l3, z, rfl, ?_⟩
      have : sg a1.neg (vl us - vl ws) = sg a1.neg (vl us) + sg b1.neg (vl ws) := by
        cases h4 : a1.neg <;> cases h5 : b1.neg <;> simp_all [sg] <;> omega
      rw [← he, ← this]; exact hz
    refine (nat_Cmp gx gy (by omega) (by omega)).const ?_
    refine ⟨_, rfl, fun hc => ?_, fun hc => ?_⟩
    · simp only [decide_eq_true_eq] at hc
      refine main b a ys xs gy gx ly lx ?_ (Ne.symm hs') (by omega)
      unfold cmpN at hc; split at hc
      · omega
      · split at hc <;> omega
    · simp only [decide_eq_false_iff_not] at hc
      refine main a b xs ys gx gy lx ly ?_ hs' rfl
      unfold cmpN at hc; split at hc
      · omega
      · omega

theorem zint_Sub {h : Hp} {a b : Z} {x y : Int} (ga : Zs h a x) (gb : Zs h b y) : Tri Try.prog (.func (.func 79) #[] #[]) [a.v, b.v] h fun v h' => ZP h h' v (x - y) := by
  have gn : Zs h ⟨!b.neg, b.mag⟩ (-y) := by
    obtain ⟨ys, gy, ly, rfl⟩ := gb.ex
    exact ⟨ys, gy, ly, by cases b.neg <;> simp [sg]⟩
  refine t_zint_Sub ((zint_Add ga gn).mono ?_)
  rintro _ h1 ⟨l1, z, rfl, hz⟩
  exact ⟨_, rfl, l1, z, rfl, hz⟩

theorem zint_Mul {h : Hp} {a b : Z} {x y : Int} (ga : Zs h a x) (gb : Zs h b y) : Tri Try.prog (.func (.func 11) #[] #[]) [a.v, b.v] h fun v h' => ZP h h' v (x * y) := by
  obtain ⟨xs, gx, lx, rfl⟩ := ga.ex
  obtain ⟨ys, gy, ly, rfl⟩ := gb.ex
  refine t_zint_Mul ((mulnat_Mul gx gy (by omega)).mono ?_)
  rintro _ h1 ⟨l1, s, rfl, hs⟩
  refine ⟨_, rfl, (zint_of hs).mono ?_⟩
  rintro _ _ ⟨rfl, z, rfl, hz⟩
  refine ⟨_, rfl, l1, z, rfl, ?_⟩
  have : sg (beqI true a.neg b.neg) (vl xs * vl ys) = sg a.neg (vl xs) * sg b.neg (vl ys) := by
    cases a.neg <;> cases b.neg <;> simp [sg, beqI, Int.neg_mul, Int.mul_neg]
  rw [← this]; exact hz

/-- The size of a product and a sum. -/
theorem Sz.le {x y : Int} (h : Sz y) (hl : x.natAbs ≤ y.natAbs) : Sz x := let ⟨k, hk, hs⟩ := h; ⟨k, hk, Nat.lt_of_le_of_lt hl hs⟩

theorem zint_MulAdd {h : Hp} {a b c : Z} {x y w : Int} (ga : Zs h a x) (gb : Zs h b y) (gc : Zs h c w) (hs : Sz (x * y)) : Tri Try.prog (.func (.func 24) #[] #[]) [a.v, b.v, c.v] h fun v h' => ZP h h' v (x * y + w) := by
  refine t_zint_MulAdd ((zint_Mul ga gb).mono ?_)
  rintro _ h1 ⟨l1, z, rfl, hz⟩
  refine ⟨_, rfl, (zint_Add (hz.zs hs) (gc.le l1)).mono ?_⟩
  rintro _ h2 ⟨l2, z2, rfl, hz2⟩
  exact ⟨_, rfl, Hp.le_trans l1 l2, z2, rfl, hz2.ge l1⟩

end Go.Proofs.Ytmfafadchpglgaa

/- zint: division. -/
namespace Go.Proofs.Ytmfafadchpglgaa
set_option maxRecDepth 20000

theorem sg_tdiv (a b : Bool) (X Y : Nat) : (sg a X).tdiv (sg b Y) = sg (beqI true a b) (X / Y) := by
  cases a <;> cases b <;> simp [sg, beqI, Int.neg_tdiv, Int.tdiv_neg, Int.ofNat_tdiv]
theorem sg_tmod (a b : Bool) (X Y : Nat) : (sg a X).tmod (sg b Y) = sg a (X % Y) := by
  cases a <;> cases b <;> simp [sg, Int.neg_tmod, Int.tmod_neg, Int.tmod_eq_emod_of_nonneg]

theorem sg_ne {b : Bool} {Y : Nat} (h : sg b Y ≠ 0) : 0 < Y := by
  rcases Nat.eq_zero_or_pos Y with h0 | h0
  · exfalso; apply h; rw [h0]; unfold sg; split <;> rfl
  · exact h0

theorem zint_Trunc {h : Hp} {a b : Z} {x y : Int} (ga : Zs h a x) (gb : Zs h b y) (hy : y ≠ 0) : Tri Try.prog (.func (.func 78) #[] #[]) [a.v, b.v] h fun v h' =>
    h.le h' ∧ ∃ q r : Z, v = .tuple #[q.v, r.v, .int .i64 0] ∧ ZR h h' q (x.tdiv y) ∧ ZR h h' r (x.tmod y) := by
  obtain ⟨xs, gx, lx, rfl⟩ := ga.ex
  obtain ⟨ys, gy, ly, rfl⟩ := gb.ex
  refine t_zint_Trunc ((divnat_DivMod gx gy (by omega) (by omega)).mono ?_)
  rintro _ h1 ⟨l1, ⟨h0, _⟩ | ⟨_, q, r, rfl, hq, hr⟩⟩
  · exfalso; have := sg_ne hy; omega
  refine ⟨_, _, _, rfl, fun hc => by simp at hc, fun _ => (zint_of hq).mono ?_⟩
  rintro _ _ ⟨rfl, z1, rfl, hz1⟩
  refine ⟨_, rfl, (zint_of hr).mono ?_⟩
  rintro _ _ ⟨rfl, z2, rfl, hz2⟩
  refine ⟨_, rfl, l1, z1, z2, rfl, ?_, ?_⟩
  · rw [sg_tdiv]; exact hz1
  · rw [sg_tmod]; exact hz2

theorem eu {x y q r : Int} (hy : y ≠ 0) (h : x = y * q + r) (h0 : 0 ≤ r) (h1 : r < y.natAbs) : x / y = q ∧ x % y = r := by
  rcases Int.lt_or_lt_of_ne hy with hn | hp
  · obtain ⟨z, rfl⟩ : ∃ z, y = -z := ⟨-y, by omega⟩
    have := (Int.ediv_emod_unique (a := x) (b := z) (r := r) (q := -q) (by omega)).2 ⟨by rw [h, Int.neg_mul, Int.mul_neg]; omega, h0, by omega⟩
    rw [Int.ediv_neg, Int.emod_neg, this.1, this.2]
    exact ⟨by omega, rfl⟩
  · exact (Int.ediv_emod_unique hp).2 ⟨by rw [h]; omega, h0, by omega⟩

theorem tm_lt {x y : Int} (hy : y ≠ 0) : (x.tmod y).natAbs < y.natAbs := by
  rw [Int.natAbs_tmod]; exact Nat.mod_lt _ (by omega)

theorem eu1 {x y : Int} (hy : y ≠ 0) (h : 0 ≤ x.tmod y) : x / y = x.tdiv y ∧ x % y = x.tmod y := by
  have := tm_lt (x := x) hy
  exact eu hy (Int.mul_tdiv_add_tmod x y).symm h (by omega)
theorem eu2 {x y : Int} (hy : 0 < y) (h : x.tmod y < 0) : x / y = x.tdiv y - 1 ∧ x % y = x.tmod y + y := by
  have h1 := tm_lt (x := x) (y := y) (by omega)
  have h2 := Int.mul_tdiv_add_tmod x y
  exact eu (by omega) (by rw [Int.mul_sub, Int.mul_one]; omega) (by omega) (by omega)
theorem eu3 {x y : Int} (hy : y < 0) (h : x.tmod y < 0) : x / y = x.tdiv y + 1 ∧ x % y = x.tmod y - y := by
  have h1 := tm_lt (x := x) (y := y) (by omega)
  have h2 := Int.mul_tdiv_add_tmod x y
  exact eu (by omega) (by rw [Int.mul_add, Int.mul_one]; omega) (by omega) (by omega)

theorem Sz.tdiv {x y : Int} (h : Sz x) : Sz (x.tdiv y) := h.le (by rw [Int.natAbs_tdiv]; exact Nat.div_le_self _ _)
theorem Sz.tmod {x y : Int} (h : Sz x) : Sz (x.tmod y) := h.le (by rw [Int.natAbs_tmod]; exact Nat.mod_le _ _)

theorem neg_of {h : Hp} {b : Z} {y : Int} (g : Zs h b y) : (b.neg = true → y ≤ 0) ∧ (b.neg = false → 0 ≤ y) := by
  obtain ⟨ys, _, _, rfl⟩ := g.ex
  constructor <;> intro e <;> rw [e] <;> simp [sg]

theorem one_i64 : (-9223372036854775808 : Int) ≤ 1 ∧ (1 : Int) ≤ 9223372036854775807 := by decide

theorem Sz.one : Sz 1 := ⟨1, by decide, by decide⟩
theorem Sz.zero : Sz 0 := ⟨1, by decide, by decide⟩

theorem zint_Euclid {h : Hp} {a b : Z} {x y : Int} (ga : Zs h a x) (gb : Zs h b y) (hy : y ≠ 0) : Tri Try.prog (.func (.func 77) #[] #[]) [a.v, b.v] h fun v h' =>
    h.le h' ∧ ∃ q r : Z, v = .tuple #[q.v, r.v, .int .i64 0] ∧ ZR h h' q (x / y) ∧ ZR h h' r (x % y) := by
  refine t_zint_Euclid ((zint_Trunc ga gb hy).mono ?_)
  rintro _ h1 ⟨l1, q, r, rfl, hq, hr⟩
  refine ⟨_, _, _, rfl, ?_⟩
  intro J hJ
  have key : ∀ c : Bool, c = (!decide (x.tmod y < 0)) → J c h1 := by
    rintro _ rfl
    refine hJ _ _ ⟨fun e => ?_, fun e => ?_⟩
    · have h0 : 0 ≤ x.tmod y := by simpa using e
      obtain ⟨e1, e2⟩ := eu1 hy h0
      exact ⟨l1, q, r, rfl, by rw [e1]; exact hq, by rw [e2]; exact hr⟩
    · have h0 : x.tmod y < 0 := by simpa using e
      obtain ⟨n1, n2⟩ := neg_of gb
      refine ⟨fun hb => ?_, fun hb => ?_⟩
      · have hyn : y < 0 := by have := n1 hb; omega
        obtain ⟨e1, e2⟩ := eu3 hyn h0
        refine (zint_Of one_i64.1 one_i64.2).mono ?_
        rintro _ h3 ⟨l3, o, rfl, ho⟩
        refine ⟨_, rfl, (zint_Add ((hq.zs ga.sz.tdiv).le l3) (ho.zs Sz.one)).mono ?_⟩
        rintro _ h4 ⟨l4, q', rfl, hq'⟩
        refine ⟨_, rfl, (zint_Sub (((hr.zs ga.sz.tmod).le l3).le l4) (((gb.le l1).le l3).le l4)).mono ?_⟩
        rintro _ h5 ⟨l5, r', rfl, hr'⟩
        have L : h.le h4 := Hp.le_trans l1 (Hp.le_trans l3 l4)
        refine ⟨_, rfl, Hp.le_trans L l5, q', r', rfl, ?_, ?_⟩
        · rw [e1]; exact (hq'.ge (Hp.le_trans l1 l3)).le l5
        · rw [e2]; exact hr'.ge L
      · have hyn : 0 < y := by have := n2 hb; omega
        obtain ⟨e1, e2⟩ := eu2 hyn h0
        refine (zint_Of one_i64.1 one_i64.2).mono ?_
        rintro _ h3 ⟨l3, o, rfl, ho⟩
        refine ⟨_, rfl, (zint_Sub ((hq.zs ga.sz.tdiv).le l3) (ho.zs Sz.one)).mono ?_⟩
        rintro _ h4 ⟨l4, q', rfl, hq'⟩
        refine ⟨_, rfl, (zint_Add (((hr.zs ga.sz.tmod).le l3).le l4) (((gb.le l1).le l3).le l4)).mono ?_⟩
        rintro _ h5 ⟨l5, r', rfl, hr'⟩
        have L : h.le h4 := Hp.le_trans l1 (Hp.le_trans l3 l4)
        refine ⟨_, rfl, Hp.le_trans L l5, q', r', rfl, ?_, ?_⟩
        · rw [e1]; exact (hq'.ge (Hp.le_trans l1 l3)).le l5
        · rw [e2]; exact hr'.ge L
  exact ⟨fun hc => by simp at hc, fun _ => key _ (by rw [hr.neg])⟩

theorem zint_Mod {h : Hp} {a b : Z} {x y : Int} (ga : Zs h a x) (gb : Zs h b y) (hy : y ≠ 0) : Tri Try.prog (.func (.func 58) #[] #[]) [a.v, b.v] h fun v h' =>
    h.le h' ∧ ∃ r : Z, v = .tuple #[r.v, .int .i64 0] ∧ ZR h h' r (x % y) := by
  refine t_zint_Mod ((zint_Euclid ga gb hy).mono ?_)
  rintro _ h1 ⟨l1, q, r, rfl, hq, hr⟩
  exact ⟨_, _, _, rfl, l1, r, rfl, hr⟩

theorem zint_Floor {h : Hp} {a b : Z} {x y : Int} (ga : Zs h a x) (gb : Zs h b y) (hy : 0 < y) : Tri Try.prog (.func (.func 61) #[] #[]) [a.v, b.v] h fun v h' =>
    h.le h' ∧ ∃ q r : Z, v = .tuple #[q.v, r.v, .int .i64 0] ∧ ZR h h' q (x / y) ∧ ZR h h' r (x % y) := by
  have hy0 : y ≠ 0 := by omega
  refine t_zint_Floor ((zint_Trunc ga gb hy0).mono ?_)
  rintro _ h1 ⟨l1, q, r, rfl, hq, hr⟩
  refine ⟨_, _, _, rfl, fun J hJ J1 hJ1 => ?_⟩
  have hbn : b.neg = false := by
    cases e : b.neg with
    | false => rfl
    | true => have := (neg_of gb).1 e; omega
  have hrn := hr.mag.n
  have key : ∀ c : Bool, c = decide (x.tmod y < 0) → (c = true → J1 true h1 ∧ True) → True := fun _ _ _ => trivial
  have go : ∀ c d : Bool, (c = true ∧ d = true ↔ x.tmod y < 0) → d = beqI true r.neg b.neg → J1 c h1 := by
    intro c d hcd hd
    refine hJ1 c h1 fun J2 hJ2 => ?_
    have fin : ∀ e : Bool, (e = true ↔ x.tmod y < 0) → J2 e h1 := by
      intro e he
      refine hJ2 e h1 ⟨fun e1 => ?_, fun e1 => ?_⟩
      · obtain ⟨x1, x2⟩ := eu2 hy (he.1 e1)
        refine (zint_Of one_i64.1 one_i64.2).mono ?_
        rintro _ h3 ⟨l3, o, rfl, ho⟩
        refine ⟨_, rfl, (zint_Sub ((hq.zs ga.sz.tdiv).le l3) (ho.zs Sz.one)).mono ?_⟩
        rintro _ h4 ⟨l4, q', rfl, hq'⟩
        refine ⟨_, rfl, (zint_Add (((hr.zs ga.sz.tmod).le l3).le l4) (((gb.le l1).le l3).le l4)).mono ?_⟩
        rintro _ h5 ⟨l5, r', rfl, hr'⟩
        have L : h.le h4 := Hp.le_trans l1 (Hp.le_trans l3 l4)
        refine ⟨_, rfl, hJ _ _ _ ⟨Hp.le_trans L l5, q', r', rfl, ?_, ?_⟩⟩
        · rw [x1]; exact (hq'.ge (Hp.le_trans l1 l3)).le l5
        · rw [x2]; exact hr'.ge L
      · have h0 : 0 ≤ x.tmod y := by
          rcases Int.lt_or_le (x.tmod y) 0 with h | h
          · rw [he.2 h] at e1; cases e1
          · exact h
        obtain ⟨x1, x2⟩ := eu1 hy0 h0
        exact hJ _ _ _ ⟨l1, q, r, rfl, by rw [x1]; exact hq, by rw [x2]; exact hr⟩
    refine ⟨fun e => ?_, fun e => ?_⟩
    · rw [← hd]
      refine fin d ?_
      rw [← hcd]; simp [e]
    · refine fin false ?_
      rw [← hcd]; simp [e]
  have hrneg := hr.neg
  have hwz := @wl_zero (x.tmod y).natAbs
  refine ⟨fun _ => go _ (beqI true r.neg b.neg) ?_ rfl, fun hc => by simp at hc⟩
  rw [hbn, hrneg]
  simp only [beqI, if_true, decide_eq_true_eq]
  by_cases hneg : x.tmod y < 0
  · simp [hneg]; omega
  · simp [hneg]

theorem zint_Exact {h : Hp} {a b : Z} {x y c : Int} (ga : Zs h a x) (gb : Zs h b y) (hy : y ≠ 0) (hc : x = y * c) : Tri Try.prog (.func (.func 51) #[] #[]) [a.v, b.v] h fun v h' =>
    h.le h' ∧ ∃ q : Z, v = .tuple #[q.v, .int .i64 0] ∧ ZR h h' q c := by
  have hq0 : x.tdiv y = c := by rw [hc]; exact Int.mul_tdiv_cancel_left c hy
  have hm0 : x.natAbs % y.natAbs = 0 := by rw [hc, Int.natAbs_mul]; exact Nat.mul_mod_right _ _
  obtain ⟨xs, gx, lx, rfl⟩ := ga.ex
  obtain ⟨ys, gy, ly, rfl⟩ := gb.ex
  rw [sg_abs, sg_abs] at hm0
  have hyp := sg_ne hy
  refine t_zint_Exact ((divnat_Exact gx gy (by omega) (by omega)).mono ?_)
  rintro _ h1 ⟨l1, ⟨h0, _⟩ | ⟨_, h0, _⟩ | ⟨_, _, q, rfl, hq⟩⟩
  · omega
  · exact absurd hm0 h0
  refine ⟨_, _, rfl, fun hc => by simp at hc, fun _ => (zint_of hq).mono ?_⟩
  rintro _ _ ⟨rfl, z, rfl, hz⟩
  refine ⟨_, rfl, l1, z, rfl, ?_⟩
  rw [← hq0, sg_tdiv]; exact hz

end Go.Proofs.Ytmfafadchpglgaa

/- bezout.Ext. -/
namespace Go.Proofs.Ytmfafadchpglgaa
set_option maxRecDepth 20000

/-- What the loop keeps: a, b the sizes; r0, r1 the rests; m0, m1 their multipliers. -/
structure Bez (a b r0 r1 m0 m1 : Int) : Prop where
  p0 : 0 ≤ r0
  p1 : 0 ≤ r1
  ne : r0 ≠ 0 ∨ r1 ≠ 0
  gc : Int.gcd r0 r1 = Int.gcd a b
  d0 : ∃ t, r0 = m0 * a + t * b
  d1 : ∃ t, r1 = m1 * a + t * b
  al : m0 * m1 ≤ 0
  dt : (m0.natAbs : Int) * r1 + m1.natAbs * r0 = b
  b0 : (m0.natAbs : Int) ≤ b
  b1 : (m1.natAbs : Int) ≤ b
  s0 : r0.natAbs ≤ max a.natAbs b.natAbs
  s1 : r1.natAbs ≤ max a.natAbs b.natAbs

theorem Bez.start {a b : Int} (ha : 0 ≤ a) (hb : 0 < b) : Bez a b a b 1 0 where
  p0 := ha
  p1 := by omega
  ne := Or.inr (by omega)
  gc := rfl
  d0 := ⟨0, by omega⟩
  d1 := ⟨1, by omega⟩
  al := by decide
  dt := by simp
  b0 := by simp; omega
  b1 := by simp; omega
  s0 := Nat.le_max_left _ _
  s1 := Nat.le_max_right _ _

theorem al_abs {m0 m1 q : Int} (hq : 0 ≤ q) (h : m0 * m1 ≤ 0) : ((m0 - q * m1).natAbs : Int) = m0.natAbs + q * m1.natAbs := by
  rcases Int.lt_trichotomy m1 0 with h1 | h1 | h1
  · have h0 : 0 ≤ m0 := by
      rcases Int.lt_or_le m0 0 with h2 | h2
      · have := Int.mul_pos_of_neg_of_neg h2 h1; omega
      · exact h2
    have h3 : q * m1 ≤ 0 := Int.mul_nonpos_of_nonneg_of_nonpos hq (by omega)
    have h4 : (m1.natAbs : Int) = -m1 := by omega
    rw [h4, Int.mul_neg]
    omega
  · subst h1; simp
  · have h0 : m0 ≤ 0 := by
      rcases Int.lt_or_le 0 m0 with h2 | h2
      · have := Int.mul_pos h2 h1; omega
      · exact h2
    have h3 : 0 ≤ q * m1 := Int.mul_nonneg hq (by omega)
    have h4 : (m1.natAbs : Int) = m1 := by omega
    rw [h4]
    omega

theorem Bez.step {a b r0 r1 m0 m1 : Int} (s : Bez a b r0 r1 m0 m1) (h1 : r1 ≠ 0) : Bez a b r1 (r0.tmod r1) m1 (m0 - r0.tdiv r1 * m1) := by
  have hq : 0 ≤ r0.tdiv r1 := Int.tdiv_nonneg s.p0 s.p1
  have he := Int.mul_tdiv_add_tmod r0 r1
  have hr : r0.tmod r1 = r0 - r0.tdiv r1 * r1 := by rw [Int.mul_comm]; omega
  have hab := al_abs hq s.al
  obtain ⟨t0, e0⟩ := s.d0
  obtain ⟨t1, e1⟩ := s.d1
  have hp := s.p1
  have hm0 : 0 ≤ r0.tmod r1 := Int.tmod_nonneg _ s.p0
  have hmlt : (r0.tmod r1).natAbs ≤ r0.natAbs := by rw [Int.natAbs_tmod]; exact Nat.mod_le _ _
  generalize r0.tdiv r1 = q at *
  have hdt : (m1.natAbs : Int) * (r0.tmod r1) + (m0 - q * m1).natAbs * r1 = b := by
    rw [hab, hr, ← s.dt, Int.mul_sub, Int.add_mul, Int.mul_assoc q]
    have : (m1.natAbs : Int) * (q * r1) = q * (m1.natAbs * r1) := Int.mul_left_comm _ _ _
    omega
  have hnn : (0 : Int) ≤ m1.natAbs * (r0.tmod r1) := Int.mul_nonneg (by omega) hm0
  refine ⟨s.p1, hm0, Or.inl h1, ?_, ⟨t1, e1⟩, ⟨t0 - q * t1, ?_⟩, ?_, hdt, s.b1, ?_, s.s1, Nat.le_trans hmlt s.s0⟩
  · rw [← s.gc, hr, Int.gcd_sub_mul_right_right, Int.gcd_comm]
  · rw [hr, Int.sub_mul, Int.sub_mul]
    have h2 : q * r1 = q * m1 * a + q * t1 * b := by rw [e1, Int.mul_add, Int.mul_assoc, Int.mul_assoc]
    omega
  · rw [Int.mul_sub]
    have h2 : m1 * (q * m1) = q * (m1 * m1) := Int.mul_left_comm _ _ _
    have h3 : 0 ≤ q * (m1 * m1) := Int.mul_nonneg hq (by rcases Int.lt_or_le m1 0 with h | h; exact Int.le_of_lt (Int.mul_pos_of_neg_of_neg h h); exact Int.mul_nonneg h h)
    have h4 := s.al
    rw [Int.mul_comm] at h4
    omega
  · have h2 : ((m0 - q * m1).natAbs : Int) * 1 ≤ (m0 - q * m1).natAbs * r1 := Int.mul_le_mul_of_nonneg_left (by omega) (by omega)
    omega

/-- What Ext answers: α X + β Y is the greatest common divisor; X the least that may be. -/
structure ExtR (α β X Y : Int) : Prop where
  e : α * X + β * Y = (Int.gcd α β : Int)
  z : β = 0 → X = α.sign ∧ Y = 0
  x0 : β ≠ 0 → 0 ≤ X ∧ X * (Int.gcd α β : Int) < β.natAbs
  y : β ≠ 0 → Y.natAbs ≤ α.natAbs + 1

theorem sgn_mul (α : Int) : α.sign * (α.natAbs : Int) = α := by
  rcases Int.lt_trichotomy α 0 with h | h | h
  · rw [Int.sign_eq_neg_one_of_neg h]; omega
  · subst h; rfl
  · rw [Int.sign_eq_one_of_pos h]; omega

/-- The end: r0 the divisor, m0 its multiplier, X that one modulo the period. -/
theorem ext_end {α β g m X x5 : Int} (hβ : β ≠ 0) (hg : g = (Int.gcd α β : Int)) (hd : ∃ t, g = m * α.natAbs + t * β.natAbs) (hx5 : x5 = if α < 0 then -m else m) {per : Int} (hper : β = g * per) (hX : X = x5 % per) :
    ∃ Y, g - α * X = β * Y ∧ ExtR α β X Y := by
  obtain ⟨t, ht⟩ := hd
  have hgp : 0 < g := by rw [hg]; have := Int.gcd_pos_of_ne_zero_right α hβ; omega
  have hx : α * x5 = m * α.natAbs := by
    rw [hx5]; split
    · rw [Int.mul_neg, ← Int.neg_mul, Int.mul_comm]; congr 1; omega
    · rw [Int.mul_comm]; congr 1; omega
  obtain ⟨c, hc⟩ : ∃ c, α = g * c := by rw [hg]; exact Int.gcd_dvd_left ..
  have hβs : (β.natAbs : Int) = β * β.sign := by
    rw [Int.mul_comm]
    rcases Int.lt_or_lt_of_ne hβ with h | h
    · rw [Int.sign_eq_neg_one_of_neg h]; omega
    · rw [Int.sign_eq_one_of_pos h]; omega
  have hpn : per ≠ 0 := fun h => by rw [h, Int.mul_zero] at hper; exact hβ hper
  have hdm := Int.mul_ediv_add_emod x5 per
  rw [← hX] at hdm
  have hX0 : 0 ≤ X := by rw [hX]; exact Int.emod_nonneg _ hpn
  have hXl : X < per.natAbs := by rw [hX]; exact Int.emod_lt _ hpn
  have hbg : (β.natAbs : Int) = g * per.natAbs := by rw [hper, Int.natAbs_mul, Int.natCast_mul]; congr 1; omega
  obtain ⟨Y, hY⟩ : ∃ Y, Y = t * β.sign + c * (x5 / per) := ⟨_, rfl⟩
  have hfin : g - α * X = β * Y := by
    have h1 : α * X = α * x5 - α * (per * (x5 / per)) := by have := congrArg (α * ·) hdm; simp only [Int.mul_add] at this; omega
    have h2 : α * (per * (x5 / per)) = β * (c * (x5 / per)) := by rw [hper, hc]; rw [Int.mul_assoc, Int.mul_assoc, Int.mul_left_comm c]
    have h3 : t * (β.natAbs : Int) = β * (t * β.sign) := by rw [hβs]; exact Int.mul_left_comm _ _ _
    rw [hY, Int.mul_add, h1, h2, hx, ← h3]
    omega
  refine ⟨Y, hfin, ⟨by rw [← hg]; omega, fun h => absurd h hβ, fun _ => ⟨hX0, ?_⟩, fun _ => ?_⟩⟩
  · rw [← hg, hbg, Int.mul_comm]
    exact Int.mul_lt_mul_of_pos_left hXl hgp
  · -- |β| |Y| <= g + |α| |X| <= |β| + |α| |β|
    have h1 : (β.natAbs : Int) * Y.natAbs = (g - α * X).natAbs := by rw [hfin, Int.natAbs_mul]; simp
    have h2 : ((g - α * X).natAbs : Int) ≤ g + α.natAbs * X := by
      have h3 : ((α * X).natAbs : Int) = α.natAbs * X := by rw [Int.natAbs_mul]; simp; rw [Int.ofNat_natAbs_of_nonneg hX0] <;> simp
      omega
    have hbp : (0 : Int) < β.natAbs := by omega
    have hXb : X < β.natAbs := by
      rw [hbg]
      have : (1 : Int) * per.natAbs ≤ g * per.natAbs := Int.mul_le_mul_of_nonneg_right (by omega) (by omega)
      omega
    have hgb : g ≤ β.natAbs := by
      rw [hbg]
      have : g * 1 ≤ g * per.natAbs := Int.mul_le_mul_of_nonneg_left (by omega) (by omega)
      omega
    have h4 : (α.natAbs : Int) * X ≤ α.natAbs * β.natAbs := Int.mul_le_mul_of_nonneg_left (by omega) (by omega)
    have h5 : (β.natAbs : Int) * Y.natAbs ≤ β.natAbs * (α.natAbs + 1) := by rw [Int.mul_add, Int.mul_one, Int.mul_comm (β.natAbs : Int) α.natAbs]; omega
    have := Int.le_of_mul_le_mul_left h5 hbp
    omega

/-! ## Sizes -/

def SzK (k : Nat) (n : Int) : Prop := n.natAbs < B ^ k
theorem SzK.mono {k j : Nat} {n : Int} (h : SzK k n) (l : k ≤ j) : SzK j n := Nat.lt_of_lt_of_le h (Nat.pow_le_pow_right (by decide) l)
theorem SzK.sz {k : Nat} {n : Int} (h : SzK k n) (l : k ≤ 34359738368) : Sz n := ⟨k, l, h⟩
theorem SzK.mul {i j : Nat} {x y : Int} (hx : SzK i x) (hy : SzK j y) : SzK (i + j) (x * y) := by
  unfold SzK at *
  rw [Int.natAbs_mul, Nat.pow_add]
  exact Nat.mul_lt_mul'' hx hy
theorem SzK.add {i : Nat} {x y : Int} (hx : SzK i x) (hy : SzK i y) : SzK (i + 1) (x + y) := by
  unfold SzK at *
  have h1 := Int.natAbs_add_le x y
  have h2 : 2 * B ^ i ≤ B * B ^ i := Nat.mul_le_mul_right _ (by decide)
  rw [Nat.pow_succ, Nat.mul_comm (B ^ i) B]
  omega
theorem SzK.neg {i : Nat} {x : Int} (hx : SzK i x) : SzK i (-x) := by unfold SzK at *; rw [Int.natAbs_neg]; exact hx
theorem SzK.sub {i : Nat} {x y : Int} (hx : SzK i x) (hy : SzK i y) : SzK (i + 1) (x - y) := by rw [Int.sub_eq_add_neg]; exact hx.add hy.neg
theorem SzK.le {k : Nat} {x y : Int} (h : SzK k y) (l : x.natAbs ≤ y.natAbs) : SzK k x := Nat.lt_of_le_of_lt l h
theorem SzK.nat {k : Nat} {x : Int} (h : SzK k x) : SzK k (x.natAbs : Nat) := by unfold SzK at *; simpa using h

/-! ## What a number's words make, as a function of the memory -/

theorem uw_inj {a b : List Nat} (h : a.map uw = b.map uw) : a = b := by
  refine List.map_inj_right (f := uw) (fun x y hxy => ?_) |>.1 h
  unfold uw at hxy
  injection hxy with _ h2
  omega
theorem Ws.uniq {h : Hp} {s : Sl} {a b : List Nat} (g : Ws h s a) (g' : Ws h s b) : a = b := by
  have l1 := g.len
  have l2 := g'.len
  rcases Nat.eq_zero_or_pos s.n with h0 | h0
  · rw [List.eq_nil_of_length_eq_zero (by omega : a.length = 0), List.eq_nil_of_length_eq_zero (by omega : b.length = 0)]
  · obtain ⟨k, off, bl, e1, e2, e3, e4⟩ := g.seg.mem (by intro e; rw [List.map_eq_nil_iff] at e; rw [e] at l1; simp at l1; omega)
    obtain ⟨k', off', bl', e1', e2', e3', e4'⟩ := g'.seg.mem (by intro e; rw [List.map_eq_nil_iff] at e; rw [e] at l2; simp at l2; omega)
    rw [e1] at e1'
    cases e1'
    rw [e2] at e2'
    cases e2'
    apply uw_inj
    rw [← e4, ← e4', List.length_map, List.length_map, ← l1, ← l2]

noncomputable def mz (z : Z) (h : Hp) : Nat := Classical.epsilon fun n => ∃ ws, Ws h z.mag ws ∧ vl ws = n
theorem mz_eq {h : Hp} {z : Z} {ws : List Nat} (g : Ws h z.mag ws) : mz z h = vl ws := by
  obtain ⟨ws', g', e⟩ := Classical.epsilon_spec (p := fun n => ∃ ws, Ws h z.mag ws ∧ vl ws = n) ⟨_, ws, g, rfl⟩
  unfold mz
  rw [← e, Ws.uniq g' g]
theorem ZR.mz {h h' : Hp} {z : Z} {n : Int} (g : ZR h h' z n) : mz z h' = n.natAbs := by rw [mz_eq g.mag.ws, vl_wd]

theorem bezout_Ext {h : Hp} {a b : Z} {α β : Int} (ga : Zs h a α) (gb : Zs h b β) {k : Nat} (ka : SzK k α) (kb : SzK k β) (hk : 2 * k + 1 ≤ 34359738368) :
    Tri Try.prog (.func (.func 59) #[] #[]) [a.v, b.v] h fun v h' => h.le h' ∧ ∃ (g x y : Z) (X Y : Int), v = .tuple #[g.v, x.v, y.v] ∧ ZR h h' g (Int.gcd α β : Nat) ∧ ZR h h' x X ∧ ZR h h' y Y ∧ ExtR α β X Y := by
  refine t_bezout_Ext ((zint_Sign gb).const ?_)
  refine ⟨_, rfl, fun hc => ?_, fun hc => ?_⟩
  · simp only [decide_eq_true_eq] at hc
    have hb0 : β = 0 := Int.sign_eq_zero_iff_zero.1 hc
    refine (zint_Abs ga).mono ?_
    rintro _ h2 ⟨l2, g, rfl, hg⟩
    refine ⟨_, rfl, (zint_Sign (ga.le l2)).const ?_⟩
    have hs : -1 ≤ α.sign ∧ α.sign ≤ 1 := by
      rcases Int.lt_trichotomy α 0 with h | h | h
      · rw [Int.sign_eq_neg_one_of_neg h]; decide
      · rw [h]; decide
      · rw [Int.sign_eq_one_of_pos h]; decide
    refine ⟨_, rfl, (zint_Of (by omega) (by omega)).mono ?_⟩
    rintro _ h4 ⟨l4, x, rfl, hx⟩
    have hgcd : Int.gcd α β = α.natAbs := by rw [hb0, Int.gcd_zero_right]
    refine ⟨_, rfl, Hp.le_trans l2 l4, g, x, ⟨false, ⟨none, 0, 0⟩⟩, α.sign, 0, rfl, by rw [hgcd]; exact hg.le l4, hx.ge l2, ⟨rfl, NatR.zero _ _⟩, ⟨?_, fun _ => ⟨rfl, rfl⟩, fun h => absurd hb0 h, fun h => absurd hb0 h⟩⟩
    rw [hgcd, hb0, Int.mul_zero, Int.add_zero, Int.mul_comm]
    rcases Int.lt_trichotomy α 0 with h | h | h
    · rw [Int.sign_eq_neg_one_of_neg h]; omega
    · rw [h]; rfl
    · rw [Int.sign_eq_one_of_pos h]; omega
  · simp only [decide_eq_false_iff_not] at hc
    have hβ : β ≠ 0 := fun e => hc (by rw [e]; rfl)
    refine (zint_Abs ga).mono ?_
    rintro _ h5 ⟨l5, r0, rfl, hr0⟩
    refine ⟨_, rfl, (zint_Abs (gb.le l5)).mono ?_⟩
    rintro _ h6 ⟨l6, r1, rfl, hr1⟩
    refine ⟨_, rfl, (zint_Of one_i64.1 one_i64.2).mono ?_⟩
    rintro _ h7 ⟨l7, m0, rfl, hm0⟩
    refine ⟨_, rfl, (zint_Of (by decide) (by decide)).mono ?_⟩
    rintro _ h8 ⟨l8, m1, rfl, hm1⟩
    have L5 : h.le h6 := Hp.le_trans l5 l6
    have L7 : h.le h7 := Hp.le_trans L5 l7
    have hmax : max α.natAbs β.natAbs < B ^ k := by
      rcases Nat.le_total α.natAbs β.natAbs with h | h
      · rw [Nat.max_eq_right h]; exact kb
      · rw [Nat.max_eq_left h]; exact ka
    have szr : ∀ r : Int, r.natAbs ≤ max ((α.natAbs : Int)).natAbs ((β.natAbs : Int)).natAbs → SzK k r := fun r hr => by
      have h1 : ((α.natAbs : Int)).natAbs = α.natAbs := by simp
      have h2 : ((β.natAbs : Int)).natAbs = β.natAbs := by simp
      rw [h1, h2] at hr
      exact Nat.lt_of_le_of_lt hr hmax
    have szm : ∀ m : Int, (m.natAbs : Int) ≤ (β.natAbs : Int) → SzK k m := fun m hm => kb.le (by omega)
    have hk1 : k ≤ 34359738368 := by omega
    refine ⟨_, rfl, fun z0 z1 y0 y1 h9 => ∃ r0 r1 m0 m1 : Int, h.le h9 ∧ ZR h h9 z0 r0 ∧ ZR h h9 z1 r1 ∧ ZR h h9 y0 m0 ∧ ZR h h9 y1 m1 ∧ Bez α.natAbs β.natAbs r0 r1 m0 m1, fun _ z1 _ _ h9 => mz z1 h9,
      ⟨_, _, _, _, Hp.le_trans L7 l8, ((hr0.le l6).le l7).le l8, ((hr1.ge l5).le l7).le l8, (hm0.ge L5).le l8, hm1.ge L7, Bez.start (by omega) (by omega)⟩, ?_⟩
    clear hr0 hr1 hm0 hm1
    rintro z0 z1 y0 y1 h9 ⟨r0, r1, m0, m1, L9, g0, g1, k0, k1, s⟩
    have gz0 := g0.zs ((szr _ s.s0).sz hk1)
    have gz1 := g1.zs ((szr _ s.s1).sz hk1)
    have ky0 := k0.zs ((szm _ s.b0).sz hk1)
    have ky1 := k1.zs ((szm _ s.b1).sz hk1)
    refine ⟨by decide, by decide, (zint_Sign gz1).const ?_⟩
    refine ⟨_, rfl, fun hd => ?_, fun hd => ?_⟩
    · simp only [Bool.not_eq_true', decide_eq_false_iff_not] at hd
      have hr1 : r1 ≠ 0 := fun e => hd (by rw [e]; rfl)
      refine ⟨by decide, by decide, by decide, by decide, (zint_Trunc gz0 gz1 hr1).mono ?_⟩
      rintro _ h11 ⟨l11, q, r, rfl, hq, hr⟩
      have st := s.step hr1
      have hqm : SzK k (r0.tdiv r1 * m1) := by
        have h1 := al_abs (Int.tdiv_nonneg s.p0 s.p1) s.al
        have h2 := st.b1
        have h3 : ((r0.tdiv r1 * m1).natAbs : Int) = r0.tdiv r1 * m1.natAbs := by
          rw [Int.natAbs_mul, Int.natCast_mul]; congr 1
          have := Int.tdiv_nonneg s.p0 s.p1; omega
        exact szm _ (by omega)
      refine ⟨_, _, _, rfl, by decide, by decide, by decide, by decide, (zint_Mul (hq.zs (((szr _ s.s0).sz hk1).tdiv)) (ky1.le l11)).mono ?_⟩
      rintro _ h12 ⟨l12, p, rfl, hp⟩
      refine ⟨_, rfl, (zint_Sub ((ky0.le l11).le l12) (hp.zs (hqm.sz hk1))).mono ?_⟩
      rintro _ h13 ⟨l13, m, rfl, hm⟩
      have L11 : h.le h11 := Hp.le_trans L9 l11
      have l1113 : h11.le h13 := Hp.le_trans l12 l13
      have l913 : h9.le h13 := Hp.le_trans l11 l1113
      refine ⟨_, rfl, by decide, by decide, by decide, by decide, ⟨r1, r0.tmod r1, m1, _, Hp.le_trans L11 l1113, g1.le l913, (hr.ge L9).le l1113, k1.le l913, hm.ge (Hp.le_trans L11 l12), st⟩, ?_⟩
      show mz r h13 < mz z1 h9
      rw [(hr.le l1113).mz, g1.mz]
      exact tm_lt hr1
    · simp only [Bool.not_eq_false', decide_eq_true_eq] at hd
      have hr1 : r1 = 0 := Int.sign_eq_zero_iff_zero.1 hd
      subst hr1
      have hgc : r0 = (Int.gcd α β : Int) := by
        have h1 := s.gc
        rw [Int.gcd_zero_right] at h1
        have h2 : Int.gcd (α.natAbs : Int) (β.natAbs : Int) = Int.gcd α β := by simp [Int.gcd]
        rw [h2] at h1
        have := s.p0
        omega
      have hr0 : r0 ≠ 0 := by rcases s.ne with h | h; exact h; exact absurd rfl h
      obtain ⟨per, hper⟩ : ∃ per, β = r0 * per := by rw [hgc]; exact Int.gcd_dvd_right ..
      have hpn : per ≠ 0 := fun h => by rw [h, Int.mul_zero] at hper; exact hβ hper
      have kper : SzK k per := kb.le (by
        rw [hper, Int.natAbs_mul]
        have : 1 * per.natAbs ≤ r0.natAbs * per.natAbs := Nat.mul_le_mul_right _ (by omega)
        omega)
      refine ⟨by decide, by decide, by decide, by decide, fun J hJ => ?_⟩
      have fin : ∀ (x5 : Z) (h14 : Hp) (n5 : Int), h9.le h14 → ZR h h14 x5 n5 → n5 = (if α < 0 then -m0 else m0) → J x5 h14 := by
        intro x5 h14 n5 l14 hx5 en5
        have L14 : h.le h14 := Hp.le_trans L9 l14
        have kn5 : SzK k n5 := by
          have := szm _ s.b0
          rw [en5]; split
          · exact this.neg
          · exact this
        obtain ⟨Y, hY, hE⟩ := ext_end hβ hgc s.d0 en5 hper (X := n5 % per) rfl
        refine hJ _ _ ((zint_Exact (gb.le L14) (gz0.le l14) hr0 hper).mono ?_)
        rintro _ h15 ⟨l15, p, rfl, hp⟩
        refine ⟨_, _, rfl, (zint_Mod ((hx5.zs (kn5.sz hk1)).le l15) (hp.zs (kper.sz hk1)) hpn).mono ?_⟩
        rintro _ h16 ⟨l16, x, rfl, hx⟩
        have kx : SzK k (n5 % per) := kper.le (by
          have h1 := Int.emod_nonneg n5 hpn
          have h2 := Int.emod_lt n5 hpn
          omega)
        have L15 : h.le h15 := Hp.le_trans L14 l15
        have L16 : h.le h16 := Hp.le_trans L15 l16
        refine ⟨_, _, rfl, (zint_Mul (ga.le L16) (hx.zs (kx.sz hk1))).mono ?_⟩
        rintro _ h17 ⟨l17, t, rfl, ht⟩
        have kt : SzK (2 * k) (α * (n5 % per)) := by have := ka.mul kx; rwa [← Nat.two_mul] at this
        refine ⟨_, rfl, (zint_Sub ((gz0.le l14).le (Hp.le_trans l15 (Hp.le_trans l16 l17))) (ht.zs (kt.sz (by omega)))).mono ?_⟩
        rintro _ h18 ⟨l18, w, rfl, hw⟩
        have kw : SzK (2 * k + 1) (r0 - α * (n5 % per)) := ((szr _ s.s0).mono (by omega)).sub kt
        refine ⟨_, rfl, (zint_Exact (hw.zs (kw.sz hk)) (gb.le (Hp.le_trans L16 (Hp.le_trans l17 l18))) hβ hY).mono ?_⟩
        rintro _ h19 ⟨l19, y, rfl, hy⟩
        have l1619 : h16.le h19 := Hp.le_trans l17 (Hp.le_trans l18 l19)
        have L18 : h.le h18 := Hp.le_trans L16 (Hp.le_trans l17 l18)
        refine ⟨_, _, rfl, Hp.le_trans L16 l1619, z0, x, y, n5 % per, Y, rfl, ?_, (hx.ge L15).le l1619, hy.ge L18, hE⟩
        rw [← hgc]
        exact g0.le (Hp.le_trans l14 (Hp.le_trans l15 (Hp.le_trans l16 l1619)))
      refine (zint_Sign (ga.le L9)).const ?_
      refine ⟨_, rfl, fun he => ?_, fun he => ?_⟩
      · simp only [decide_eq_true_eq] at he
        have hneg : α < 0 := by
          rcases Int.lt_trichotomy α 0 with h | h | h
          · exact h
          · rw [h] at he; exact absurd he (by decide)
          · rw [Int.sign_eq_one_of_pos h] at he; exact absurd he (by decide)
        refine (zint_Neg ky0).mono ?_
        rintro _ h21 ⟨l21, m, rfl, hm⟩
        exact ⟨_, rfl, fin _ _ _ l21 (hm.ge L9) (by rw [if_pos hneg])⟩
      · simp only [decide_eq_false_iff_not] at he
        have hneg : ¬ α < 0 := fun h => he (by rw [Int.sign_eq_neg_one_of_neg h]; decide)
        exact fin _ _ _ (Hp.le_refl _) k0 (by rw [if_neg hneg])

end Go.Proofs.Ytmfafadchpglgaa

/- Lattices of rows; bases in Hermite form. Plain: no program's text. -/
namespace Go.Proofs.Ytmfafadchpglgaa

abbrev Vec := Nat → Int

/-- The lattice that rows make. -/
inductive Lat (G : Vec → Prop) : Vec → Prop
  | zero : Lat G (fun _ => 0)
  | gen {g : Vec} : G g → Lat G g
  | add {x y : Vec} : Lat G x → Lat G y → Lat G (fun k => x k + y k)
  | neg {x : Vec} : Lat G x → Lat G (fun k => -x k)

theorem Lat.cong {G : Vec → Prop} {x y : Vec} (h : Lat G x) (e : ∀ k, x k = y k) : Lat G y := by
  have : x = y := funext e
  rw [← this]; exact h
theorem Lat.sub {G : Vec → Prop} {x y : Vec} (a : Lat G x) (b : Lat G y) : Lat G (fun k => x k - y k) :=
  (a.add b.neg).cong fun k => by omega
theorem Lat.nsmul {G : Vec → Prop} {x : Vec} (a : Lat G x) : ∀ n : Nat, Lat G (fun k => (n : Int) * x k)
  | 0 => Lat.zero.cong fun k => by simp
  | n + 1 => ((Lat.nsmul a n).add a).cong fun k => by rw [Int.natCast_add, Int.add_mul]; simp
theorem Lat.smul {G : Vec → Prop} {x : Vec} (a : Lat G x) (c : Int) : Lat G (fun k => c * x k) := by
  rcases Int.le_total 0 c with h | h
  · exact (a.nsmul c.natAbs).cong fun k => by congr 1; omega
  · exact ((a.nsmul c.natAbs).neg).cong fun k => by rw [← Int.neg_mul]; congr 1; omega
theorem Lat.of {G G' : Vec → Prop} (h : ∀ g, G g → Lat G' g) {x : Vec} (a : Lat G x) : Lat G' x := by
  induction a with
  | zero => exact .zero
  | gen hg => exact h _ hg
  | add _ _ h1 h2 => exact h1.add h2
  | neg _ h1 => exact h1.neg
theorem Lat.mono {G G' : Vec → Prop} (h : ∀ g, G g → G' g) {x : Vec} (a : Lat G x) : Lat G' x := a.of fun g hg => .gen (h g hg)

def Rws (R : Nat → Vec) (i n : Nat) : Vec → Prop := fun g => ∃ m, i ≤ m ∧ m < n ∧ g = R m
def unitV (d : Int) (j : Nat) : Vec := fun k => if k = j then d else 0

/-- Multiples of d in the columns from j on. -/
theorem lat_units {G : Vec → Prop} {d : Int} {j n : Nat} (hu : ∀ i, j ≤ i → i < n → Lat G (unitV d i)) {x : Vec} (hx : ∀ k, k < j ∨ n ≤ k → x k = 0) (hd : ∀ k, d ∣ x k) : Lat G x := by
  have key : ∀ m, m ≤ n → Lat G (fun k => if k < m then x k else 0) := by
    intro m
    induction m with
    | zero => exact fun _ => Lat.zero.cong fun k => by simp
    | succ m ih =>
      intro hm
      by_cases hj : j ≤ m
      · obtain ⟨c, hc⟩ := hd m
        refine ((ih (by omega)).add ((hu m hj (by omega)).smul c)).cong fun k => ?_
        unfold unitV
        rcases Nat.lt_trichotomy k m with h | h | h
        · rw [if_pos h, if_neg (by omega), if_pos (by omega)]; simp
        · subst h; rw [if_neg (by omega), if_pos rfl, if_pos (by omega), hc, Int.mul_comm]; simp
        · rw [if_neg (by omega), if_neg (by omega), if_neg (by omega)]; simp
      · refine (ih (by omega)).cong fun k => ?_
        by_cases h : k < m
        · rw [if_pos h, if_pos (by omega)]
        · rw [if_neg h]; split
          · exact (hx k (by omega)).symm
          · rfl
  refine (key n (Nat.le_refl _)).cong fun k => ?_
  split
  · rfl
  · exact (hx k (by omega)).symm

/-- A row out of two, modulo d behind the column j. -/
def mixV (d : Int) (j : Nat) (x : Int) (v : Vec) (y : Int) (w : Vec) : Vec := fun k => if k < j then 0 else if k = j then x * v k + y * w k else (x * v k + y * w k) % d

/-- Rows in a triangle, pivots above 0. -/
structure UpT (n : Nat) (d : Int) (R : Nat → Vec) : Prop where
  up : ∀ i, i < n → ∀ k, k < i ∨ n ≤ k → R i k = 0
  dg : ∀ i, i < n → 0 < R i i
  bd : ∀ i, i < n → ∀ k, 0 ≤ R i k ∧ R i k ≤ d

/-- What putting a row in keeps: before column j. -/
structure PutI (n : Nat) (d : Int) (L : Vec → Prop) (R : Nat → Vec) (v : Vec) (j : Nat) : Prop where
  t : UpT n d R
  v0 : ∀ k, k < j ∨ n ≤ k → v k = 0
  tail : ∀ i, j ≤ i → i < n → Lat (Rws R i n) (unitV d i)
  head : ∀ i, i < j → i < n → Lat (fun g => Rws R i n g ∨ g = v) (unitV d i)
  lat : ∀ x, Lat (fun g => (Rws R 0 n g ∨ g = v) ∨ ∃ i, i < n ∧ g = unitV d i) x ↔ L x

/-- The entry at j modulo d. -/
def modAt (d : Int) (j : Nat) (v : Vec) : Vec := fun k => if k = j then v k % d else v k

theorem Rws.le {R : Nat → Vec} {i j n : Nat} (h : i ≤ j) {g : Vec} (hg : Rws R j n g) : Rws R i n g := let ⟨m, a, b, c⟩ := hg; ⟨m, by omega, b, c⟩

theorem PutI.mod {n : Nat} {d : Int} {L : Vec → Prop} {R : Nat → Vec} {v : Vec} {j : Nat} (s : PutI n d L R v j) (hj : j < n) : PutI n d L R (modAt d j v) j := by
  -- v differs by a multiple of d times the unit row j
  obtain ⟨c, hc⟩ : ∃ c, ∀ k, modAt d j v k = v k - c * unitV d j k := ⟨v j / d, fun k => by
    unfold modAt unitV
    split
    · rename_i h; subst h
      have := Int.mul_ediv_add_emod (v k) d
      rw [Int.mul_comm] at this
      omega
    · simp⟩
  have uj : ∀ i, i ≤ j → Lat (Rws R i n) (unitV d j) := fun i hi => (s.tail j (Nat.le_refl _) hj).mono fun g hg => hg.le hi
  refine ⟨s.t, fun k hk => ?_, s.tail, fun i hi hin => ?_, fun x => ?_⟩
  · unfold modAt
    have := s.v0 k hk
    split
    · rw [this]; simp
    · exact this
  · refine (s.head i hi hin).of ?_
    rintro g (hg | rfl)
    · exact .gen (Or.inl hg)
    · refine ((Lat.gen (Or.inr rfl)).add (((uj i (by omega)).mono fun g hg => Or.inl hg).smul c)).cong fun k => ?_
      rw [hc k]; omega
  · rw [← s.lat x]
    constructor
    · refine Lat.of ?_
      rintro g ((hg | rfl) | hg)
      · exact .gen (Or.inl (Or.inl hg))
      · refine ((Lat.gen (Or.inl (Or.inr rfl))).sub (((uj 0 (by omega)).mono fun g hg => Or.inl (Or.inl hg)).smul c)).cong fun k => ?_
        rw [hc k]
      · exact .gen (Or.inr hg)
    · refine Lat.of ?_
      rintro g ((hg | rfl) | hg)
      · exact .gen (Or.inl (Or.inl hg))
      · refine ((Lat.gen (Or.inl (Or.inr rfl))).add (((uj 0 (by omega)).mono fun g hg => Or.inl (Or.inl hg)).smul c)).cong fun k => ?_
        rw [hc k]; omega
      · exact .gen (Or.inr hg)

theorem PutI.skip {n : Nat} {d : Int} {L : Vec → Prop} {R : Nat → Vec} {v : Vec} {j : Nat} (s : PutI n d L R v j) (hv : v j = 0) : PutI n d L R v (j + 1) := by
  refine ⟨s.t, fun k hk => ?_, fun i hi hin => s.tail i (by omega) hin, fun i hi hin => ?_, s.lat⟩
  · by_cases h : k = j
    · rw [h]; exact hv
    · exact s.v0 k (by omega)
  · by_cases h : i = j
    · exact (s.tail i (by omega) hin).mono fun g hg => Or.inl hg
    · exact s.head i (by omega) hin

def setR (R : Nat → Vec) (j : Nat) (w : Vec) : Nat → Vec := fun i => if i = j then w else R i

theorem PutI.mix {n : Nat} {d : Int} {L : Vec → Prop} {R : Nat → Vec} {v : Vec} {j : Nat} (s : PutI n d L R v j) (hj : j < n) (hd : 0 < d) (hv0 : 0 ≤ v j) (hvd : v j < d) (hv : v j ≠ 0) {g X Y p q : Int}
    (hg : g = (Int.gcd (R j j) (v j) : Int)) (hXY : R j j * X + v j * Y = g) (hp : R j j = g * p) (hq : v j = g * q) :
    PutI n d L (setR R j (mixV d j X (R j) Y v)) (mixV d j p v (-q) (R j)) (j + 1) := by
  have hgp : 0 < g := by rw [hg]; have := Int.gcd_pos_of_ne_zero_right (R j j) hv; omega
  have hdet : p * X + q * Y = 1 := by
    have h1 : g * (p * X + q * Y) = g * 1 := by
      rw [Int.mul_add, ← Int.mul_assoc, ← Int.mul_assoc, ← hp, ← hq, hXY, Int.mul_one]
    exact Int.eq_of_mul_eq_mul_left (by omega) h1
  -- what mix differs by
  have dv : ∀ (x y : Int) (a b : Vec), (∀ k, k < j ∨ n ≤ k → a k = 0) → (∀ k, k < j ∨ n ≤ k → b k = 0) → ∃ r : Vec, (∀ k, mixV d j x a y b k = x * a k + y * b k + r k) ∧ (∀ k, k < j + 1 ∨ n ≤ k → r k = 0) ∧ ∀ k, d ∣ r k := by
    intro x y a b ha hb
    refine ⟨fun k => mixV d j x a y b k - (x * a k + y * b k), fun k => by dsimp only; omega, fun k hk => ?_, fun k => ?_⟩
    · unfold mixV
      dsimp only
      split
      · rw [ha k (by omega), hb k (by omega)]; simp
      · split
        · omega
        · rw [ha k (by omega), hb k (by omega)]; simp
    · unfold mixV
      dsimp only
      split
      · rw [ha k (by omega), hb k (by omega)]; simp
      · split
        · exact ⟨0, by omega⟩
        · exact ⟨-((x * a k + y * b k) / d), by have := Int.mul_ediv_add_emod (x * a k + y * b k) d; rw [Int.mul_neg]; omega⟩
  have hRj : ∀ k, k < j ∨ n ≤ k → R j k = 0 := s.t.up j hj
  obtain ⟨r1, e1, z1, d1⟩ := dv X Y (R j) v hRj s.v0
  obtain ⟨r2, e2, z2, d2⟩ := dv p (-q) v (R j) s.v0 hRj
  generalize hT : mixV d j X (R j) Y v = T at *
  generalize hW : mixV d j p v (-q) (R j) = W at *
  -- multiples of d behind column j lie in the rows behind j
  have low : ∀ r : Vec, (∀ k, k < j + 1 ∨ n ≤ k → r k = 0) → (∀ k, d ∣ r k) → Lat (Rws R (j + 1) n) r := fun r hr hdr =>
    lat_units (j := j + 1) (n := n) (fun i hi hin => (s.tail i (by omega) hin).mono fun g hg => hg.le hi) hr hdr
  have rows' : ∀ g, Rws R (j + 1) n g → ∀ i, i ≤ j → Rws (setR R j T) i n g := by
    rintro g ⟨m, a, b, rfl⟩ i hi
    exact ⟨m, by omega, b, by unfold setR; rw [if_neg (by omega)]⟩
  have rowT : ∀ i, i ≤ j → Rws (setR R j T) i n T := fun i hi => ⟨j, hi, hj, by unfold setR; rw [if_pos rfl]⟩
  -- the old rows out of the new ones
  have back : ∀ i, i ≤ j → (∀ g, Rws R i n g ∨ g = v → Lat (fun g => Rws (setR R j T) i n g ∨ g = W) g) := by
    intro i hi
    have lr1 : Lat (fun g => Rws (setR R j T) i n g ∨ g = W) r1 := (low r1 z1 d1).mono fun g hg => Or.inl (rows' g hg i hi)
    have lr2 : Lat (fun g => Rws (setR R j T) i n g ∨ g = W) r2 := (low r2 z2 d2).mono fun g hg => Or.inl (rows' g hg i hi)
    have lT : Lat (fun g => Rws (setR R j T) i n g ∨ g = W) T := .gen (Or.inl (rowT i hi))
    have lW : Lat (fun g => Rws (setR R j T) i n g ∨ g = W) W := .gen (Or.inr rfl)
    -- top = p (T - r1) - Y (W - r2), v = q (T - r1) + X (W - r2)
    have ltop : Lat (fun g => Rws (setR R j T) i n g ∨ g = W) (R j) := by
      refine ((((lT.sub lr1).smul p).sub ((lW.sub lr2).smul Y))).cong fun k => ?_
      rw [e1 k, e2 k]
      have h1 : p * (X * R j k + Y * v k + r1 k - r1 k) - Y * (p * v k + -q * R j k + r2 k - r2 k) = (p * X + q * Y) * R j k := by
        rw [Int.add_sub_cancel, Int.add_sub_cancel, Int.mul_add, Int.mul_add, Int.add_mul]
        have a1 : p * (X * R j k) = p * X * R j k := (Int.mul_assoc _ _ _).symm
        have a2 : p * (Y * v k) = Y * (p * v k) := Int.mul_left_comm _ _ _
        have a3 : Y * (-q * R j k) = -(q * Y * R j k) := by rw [Int.neg_mul, Int.mul_neg, ← Int.mul_assoc, Int.mul_comm Y q]
        omega
      rw [h1, hdet, Int.one_mul]
    have lv : Lat (fun g => Rws (setR R j T) i n g ∨ g = W) v := by
      refine ((((lT.sub lr1).smul q).add ((lW.sub lr2).smul X))).cong fun k => ?_
      rw [e1 k, e2 k]
      have h1 : q * (X * R j k + Y * v k + r1 k - r1 k) + X * (p * v k + -q * R j k + r2 k - r2 k) = (p * X + q * Y) * v k := by
        rw [Int.add_sub_cancel, Int.add_sub_cancel, Int.mul_add, Int.mul_add, Int.add_mul]
        have a1 : q * (X * R j k) = X * (q * R j k) := Int.mul_left_comm _ _ _
        have a2 : q * (Y * v k) = q * Y * v k := (Int.mul_assoc _ _ _).symm
        have a3 : X * (p * v k) = p * X * v k := by rw [← Int.mul_assoc, Int.mul_comm X p]
        have a4 : X * (-q * R j k) = -(X * (q * R j k)) := by rw [Int.neg_mul, Int.mul_neg]
        omega
      rw [h1, hdet, Int.one_mul]
    rintro g (⟨m, a, b, rfl⟩ | rfl)
    · by_cases hm : m = j
      · rw [hm]; exact ltop
      · exact .gen (Or.inl ⟨m, a, b, by unfold setR; rw [if_neg hm]⟩)
    · exact lv
  -- T at its pivot
  have hTj : T j = g := by
    rw [← hT]; unfold mixV; rw [if_neg (by omega), if_pos rfl, Int.mul_comm X, Int.mul_comm Y, hXY]
  have hgd : g ≤ d := by
    have h1 : g * 1 ≤ g * q := by
      refine Int.mul_le_mul_of_nonneg_left ?_ (by omega)
      rcases Int.lt_or_le q 1 with h | h
      · exfalso
        have : g * q ≤ 0 := Int.mul_nonpos_of_nonneg_of_nonpos (by omega) (by omega)
        omega
      · exact h
    omega
  refine ⟨⟨fun i hi k hk => ?_, fun i hi => ?_, fun i hi k => ?_⟩, fun k hk => ?_, fun i hi hin => ?_, fun i hi hin => ?_, fun x => ?_⟩
  · unfold setR
    split
    · rename_i h
      rw [e1 k, s.v0 k (by omega), hRj k (by omega), z1 k (by omega)]; simp
    · exact s.t.up i hi k hk
  · unfold setR
    split
    · rename_i h; rw [h, hTj]; exact hgp
    · exact s.t.dg i hi
  · unfold setR
    split
    · rw [← hT]; unfold mixV
      split
      · omega
      · split
        · rename_i h2; rw [h2]
          have := hTj
          rw [← hT] at this
          unfold mixV at this
          rw [if_neg (by omega), if_pos rfl] at this
          omega
        · have h1 := Int.emod_nonneg (X * R j k + Y * v k) (by omega : d ≠ 0)
          have h2 := Int.emod_lt_of_pos (X * R j k + Y * v k) hd
          omega
    · exact s.t.bd i hi k
  · rw [e2 k, z2 k hk]
    by_cases h : k = j
    · rw [h, hp]
      have : p * v j + -q * (g * p) = 0 := by rw [hq, Int.neg_mul, ← Int.mul_assoc q g p, Int.mul_comm q g, Int.mul_comm p]; omega
      omega
    · rw [s.v0 k (by omega), hRj k (by omega)]; simp
  · refine (s.tail i (by omega) hin).mono ?_
    rintro g ⟨m, a, b, rfl⟩
    exact ⟨m, a, b, by unfold setR; rw [if_neg (by omega)]⟩
  · by_cases h : i = j
    · subst h
      exact (s.tail i (Nat.le_refl _) hin).of fun g hg => back i (Nat.le_refl _) g (Or.inl hg)
    · exact (s.head i (by omega) hin).of fun g hg => back i (by omega) g hg
  · rw [← s.lat x]
    have un : ∀ {G : Vec → Prop} (r : Vec), (∀ k, k < j + 1 ∨ n ≤ k → r k = 0) → (∀ k, d ∣ r k) → Lat (fun g => G g ∨ ∃ i, i < n ∧ g = unitV d i) r := fun r hr hdr =>
      lat_units (j := 0) (n := n) (fun i _ hin => .gen (Or.inr ⟨i, hin, rfl⟩)) (fun k hk => hr k (by omega)) hdr
    constructor
    · refine Lat.of ?_
      rintro g ((⟨m, a, b, rfl⟩ | rfl) | hg)
      · unfold setR
        split
        · refine ((((Lat.gen (Or.inl (Or.inl ⟨j, by omega, hj, rfl⟩))).smul X).add ((Lat.gen (Or.inl (Or.inr rfl))).smul Y)).add (un r1 z1 d1)).cong fun k => (e1 k).symm
        · exact .gen (Or.inl (Or.inl ⟨m, a, b, rfl⟩))
      · refine ((((Lat.gen (Or.inl (Or.inr rfl))).smul p).add ((Lat.gen (Or.inl (Or.inl ⟨j, by omega, hj, rfl⟩))).smul (-q))).add (un r2 z2 d2)).cong fun k => (e2 k).symm
      · exact .gen (Or.inr hg)
    · refine Lat.of ?_
      rintro g (hg | hg)
      · exact (back 0 (by omega) g hg).mono fun g hg => Or.inl hg
      · exact .gen (Or.inr hg)

/-- A basis of the lattice L, of rows modulo d. -/
structure BasI (n : Nat) (d : Int) (L : Vec → Prop) (R : Nat → Vec) : Prop where
  t : UpT n d R
  tail : ∀ i, i < n → Lat (Rws R i n) (unitV d i)
  lat : ∀ x, Lat (Rws R 0 n) x ↔ L x

/-- The lattice with a row more. -/
def LatV (L : Vec → Prop) (v : Vec) : Vec → Prop := Lat (fun g => L g ∨ g = v)

theorem BasI.put {n : Nat} {d : Int} {L : Vec → Prop} {R : Nat → Vec} (s : BasI n d L R) {v : Vec} (hv : ∀ k, n ≤ k → v k = 0) : PutI n d (LatV L v) R v 0 := by
  refine ⟨s.t, fun k hk => hv k (by omega), fun i _ hi => s.tail i hi, fun i hi => by omega, fun x => ?_⟩
  constructor
  · refine Lat.of ?_
    rintro g ((hg | rfl) | ⟨i, hi, rfl⟩)
    · exact .gen (Or.inl ((s.lat g).1 (.gen hg)))
    · exact .gen (Or.inr rfl)
    · exact .gen (Or.inl ((s.lat _).1 ((s.tail i hi).mono fun g hg => hg.le (Nat.zero_le _))))
  · refine Lat.of ?_
    rintro g (hg | rfl)
    · exact ((s.lat g).2 hg).mono fun g hg => Or.inl (Or.inl hg)
    · exact .gen (Or.inl (Or.inr rfl))

theorem PutI.done {n : Nat} {d : Int} {L : Vec → Prop} {R : Nat → Vec} {v : Vec} (s : PutI n d L R v n) : BasI n d L R := by
  have hv : v = fun _ => 0 := funext fun k => s.v0 k (by omega)
  have hd : ∀ i, i < n → Lat (Rws R i n) (unitV d i) := fun i hi => (s.head i hi hi).of (by
    rintro g (hg | rfl)
    · exact .gen hg
    · rw [hv]; exact .zero)
  refine ⟨s.t, hd, fun x => ?_⟩
  rw [← s.lat x]
  constructor
  · exact Lat.mono fun g hg => Or.inl (Or.inl hg)
  · refine Lat.of ?_
    rintro g ((hg | rfl) | ⟨i, hi, rfl⟩)
    · exact .gen hg
    · rw [hv]; exact .zero
    · exact (hd i hi).mono fun g hg => hg.le (Nat.zero_le _)

/-! ## Every entry above a pivot between 0 and the pivot -/

/-- A basis in Hermite form: as many rows as columns. -/
structure Her (n : Nat) (R : Nat → Vec) : Prop where
  up : ∀ i, i < n → ∀ k, k < i ∨ n ≤ k → R i k = 0
  dg : ∀ i, i < n → 0 < R i i
  rd : ∀ i k, i < k → k < n → 0 ≤ R i k ∧ R i k < R k k

def mulR (R : Nat → Vec) (i j : Nat) (q : Int) : Nat → Vec := setR R i fun k => q * R j k + R i k

/-- What tidying keeps: rows behind i are done; row i is done up to column j. -/
structure TidI (n : Nat) (d : Int) (L : Vec → Prop) (R : Nat → Vec) (i j : Nat) : Prop where
  up : ∀ i, i < n → ∀ k, k < i ∨ n ≤ k → R i k = 0
  dg : ∀ i, i < n → 0 < R i i ∧ R i i ≤ d
  lat : ∀ x, Lat (Rws R 0 n) x ↔ L x
  be : ∀ m, m < i → ∀ k, 0 ≤ R m k ∧ R m k ≤ d
  af : ∀ m, i < m → m < n → ∀ k, m < k → k < n → 0 ≤ R m k ∧ R m k < R k k
  at_ : ∀ k, i < k → k < j → k < n → 0 ≤ R i k ∧ R i k < R k k
  sz : ∀ k, (R i k).natAbs ≤ d.natAbs * (d.natAbs + 1) ^ (j - i - 1)

theorem BasI.tid {n : Nat} {d : Int} {L : Vec → Prop} {R : Nat → Vec} (s : BasI n d L R) (hn : 0 < n) : TidI n d L R (n - 1) n where
  up := s.t.up
  dg := fun i hi => ⟨s.t.dg i hi, (s.t.bd i hi i).2⟩
  lat := s.lat
  be := fun m hm k => s.t.bd m (by omega) k
  af := fun m h1 h2 => by omega
  at_ := fun k h1 h2 => by omega
  sz := fun k => by
    have := s.t.bd (n - 1) (by omega) k
    rw [show n - (n - 1) - 1 = 0 by omega]
    simp; omega

theorem floor_le {a b : Int} (hb : 0 < b) : (a / b).natAbs ≤ a.natAbs := by
  have h1 := Int.mul_ediv_add_emod a b
  have h2 := Int.emod_nonneg a (by omega : b ≠ 0)
  have h3 := Int.emod_lt_of_pos a hb
  generalize a / b = q at *
  rcases Int.lt_trichotomy q 0 with h | h | h
  · have h4 : b * (q + 1) ≤ 1 * (q + 1) := Int.mul_le_mul_of_nonpos_right (by omega) (by omega)
    rw [Int.mul_add, Int.mul_one, Int.one_mul] at h4
    omega
  · subst h; simp
  · have h4 : 1 * q ≤ b * q := Int.mul_le_mul_of_nonneg_right (by omega) (by omega)
    omega

theorem TidI.step {n : Nat} {d : Int} {L : Vec → Prop} {R : Nat → Vec} {i j : Nat} (s : TidI n d L R i j) (hij : i < j) (hj : j < n) : TidI n d L (mulR R i j (-(R i j / R j j))) i (j + 1) := by
  obtain ⟨q, hq⟩ : ∃ q, q = R i j / R j j := ⟨_, rfl⟩
  rw [← hq]
  have dj := s.dg j hj
  have hdm := Int.mul_ediv_add_emod (R i j) (R j j)
  rw [← hq] at hdm
  have hm0 := Int.emod_nonneg (R i j) (by omega : R j j ≠ 0)
  have hm1 := Int.emod_lt_of_pos (R i j) dj.1
  have hqs : q.natAbs ≤ (R i j).natAbs := by rw [hq]; exact floor_le dj.1
  have neg : ∀ k, -q * R j k + R i k = R i k - q * R j k := fun k => by rw [Int.neg_mul]; omega
  have other : ∀ m, m ≠ i → mulR R i j (-q) m = R m := fun m hm => by unfold mulR setR; rw [if_neg hm]
  have self : ∀ k, mulR R i j (-q) i k = R i k - q * R j k := fun k => by unfold mulR setR; rw [if_pos rfl, neg]
  have zj : ∀ k, k < j ∨ n ≤ k → R j k = 0 := s.up j hj
  have row : ∀ k, 0 ≤ R j k ∧ R j k ≤ d := fun k => by
    rcases Nat.lt_trichotomy k j with h | h | h
    · rw [zj k (Or.inl h)]; omega
    · rw [h]; omega
    · by_cases hk : k < n
      · have h1 := s.af j hij hj k h hk
        have h2 := s.dg k hk
        omega
      · rw [zj k (by omega)]; omega
  refine ⟨fun m hm k hk => ?_, fun m hm => ?_, fun x => ?_, fun m hm k => ?_, fun m h1 h2 k h3 h4 => ?_, fun k h1 h2 h3 => ?_, fun k => ?_⟩
  · by_cases h : m = i
    · subst h; rw [self, s.up m hm k hk, zj k (by omega)]; simp
    · rw [other m h]; exact s.up m hm k hk
  · by_cases h : m = i
    · subst h; rw [self, zj m (Or.inl hij)]; simp; exact s.dg m hm
    · rw [other m h]; exact s.dg m hm
  · rw [← s.lat x]
    constructor
    · refine Lat.of ?_
      rintro g ⟨m, a, b, rfl⟩
      by_cases h : m = i
      · subst h
        refine ((Lat.gen ⟨m, a, b, rfl⟩).sub ((Lat.gen ⟨j, by omega, hj, rfl⟩).smul q)).cong fun k => (self k).symm
      · rw [other m h]; exact .gen ⟨m, a, b, rfl⟩
    · refine Lat.of ?_
      rintro g ⟨m, a, b, rfl⟩
      by_cases h : m = i
      · subst h
        refine ((Lat.gen ⟨m, a, b, rfl⟩).add ((Lat.gen ⟨j, by omega, hj, rfl⟩).smul q)).cong fun k => ?_
        rw [self, other j (by omega)]; omega
      · refine (Lat.gen (g := mulR R i j (-q) m) ⟨m, a, b, rfl⟩).cong fun k => by rw [other m h]
  · rw [other m (by omega)]; exact s.be m hm k
  · rw [other m (by omega), other k (by omega)]; exact s.af m h1 h2 k h3 h4
  · rw [self, other k (by omega)]
    by_cases h : k = j
    · subst h; rw [Int.mul_comm]; omega
    · rw [zj k (by omega)]; simp; exact s.at_ k h1 (by omega) h3
  · rw [self]
    have h1 := s.sz k
    have h2 := s.sz j
    have h3 : (q * R j k).natAbs ≤ d.natAbs * (d.natAbs + 1) ^ (j - i - 1) * d.natAbs := by
      rw [Int.natAbs_mul]
      have := row k
      exact Nat.mul_le_mul (by omega) (by omega)
    have h4 := Int.natAbs_sub_le (R i k) (q * R j k)
    rw [show j + 1 - i - 1 = (j - i - 1) + 1 by omega, Nat.pow_succ, ← Nat.mul_assoc, Nat.mul_add, Nat.mul_one]
    omega

theorem TidI.row {n : Nat} {d : Int} {L : Vec → Prop} {R : Nat → Vec} {i : Nat} (s : TidI n d L R (i + 1) n) (hi : i + 1 < n) : TidI n d L R i (i + 1) where
  up := s.up
  dg := s.dg
  lat := s.lat
  be := fun m hm k => s.be m (by omega) k
  af := fun m h1 h2 k h3 h4 => by
    by_cases h : m = i + 1
    · rw [h]; exact s.at_ k (by omega) h4 h4
    · exact s.af m (by omega) h2 k h3 h4
  at_ := fun k h1 h2 => by omega
  sz := fun k => by
    have := s.be i (by omega) k
    rw [show i + 1 - i - 1 = 0 by omega]
    simp; omega

theorem TidI.her {n : Nat} {d : Int} {L : Vec → Prop} {R : Nat → Vec} (s : TidI n d L R 0 n) : Her n R where
  up := s.up
  dg := fun i hi => (s.dg i hi).1
  rd := fun i k h1 h2 => by
    by_cases h : i = 0
    · rw [h]; exact s.at_ k (by omega) h2 h2
    · exact s.af i (by omega) (by omega) k h1 h2

/-! ## There is one -/

def sumN : Nat → (Nat → Int) → Int
  | 0, _ => 0
  | n + 1, f => sumN n f + f n
theorem sumN_cong {n : Nat} {f g : Nat → Int} (h : ∀ i, i < n → f i = g i) : sumN n f = sumN n g := by
  induction n with
  | zero => rfl
  | succ n ih => simp only [sumN]; rw [ih fun i hi => h i (by omega), h n (by omega)]
theorem sumN_zero {n : Nat} {f : Nat → Int} (h : ∀ i, i < n → f i = 0) : sumN n f = 0 := by
  induction n with
  | zero => rfl
  | succ n ih => simp only [sumN]; rw [ih fun i hi => h i (by omega), h n (by omega)]; rfl
theorem sumN_one {n m : Nat} {f : Nat → Int} (hm : m < n) (h : ∀ i, i < n → i ≠ m → f i = 0) : sumN n f = f m := by
  induction n with
  | zero => omega
  | succ n ih =>
    simp only [sumN]
    by_cases e : m = n
    · subst e; rw [sumN_zero fun i hi => h i (by omega) (by omega)]; simp
    · rw [ih (by omega) fun i hi => h i (by omega), h n (by omega) (Ne.symm e)]; simp
theorem sumN_add (n : Nat) (f g : Nat → Int) : sumN n (fun i => f i + g i) = sumN n f + sumN n g := by
  induction n with
  | zero => rfl
  | succ n ih => simp only [sumN]; rw [ih]; omega
theorem sumN_neg (n : Nat) (f : Nat → Int) : sumN n (fun i => -f i) = -sumN n f := by
  induction n with
  | zero => rfl
  | succ n ih => simp only [sumN]; rw [ih]; omega

theorem lat_sum {R : Nat → Vec} {n : Nat} {x : Vec} (h : Lat (Rws R 0 n) x) : ∃ c : Nat → Int, ∀ k, x k = sumN n fun m => c m * R m k := by
  induction h with
  | zero => exact ⟨fun _ => 0, fun k => (sumN_zero fun i _ => by simp).symm⟩
  | gen hg =>
    obtain ⟨m, _, hm, rfl⟩ := hg
    refine ⟨fun i => if i = m then 1 else 0, fun k => ?_⟩
    rw [sumN_one hm fun i _ hi => by simp [hi]]; simp
  | add _ _ h1 h2 =>
    obtain ⟨c, hc⟩ := h1
    obtain ⟨e, he⟩ := h2
    refine ⟨fun i => c i + e i, fun k => ?_⟩
    dsimp only
    rw [hc k, he k, ← sumN_add]
    exact sumN_cong fun i _ => (Int.add_mul _ _ _).symm
  | neg _ h1 =>
    obtain ⟨c, hc⟩ := h1
    refine ⟨fun i => -c i, fun k => ?_⟩
    dsimp only
    rw [hc k, ← sumN_neg]
    exact sumN_cong fun i _ => (Int.neg_mul _ _).symm

/-- What lies in the lattice of a triangle and begins with zeros. -/
theorem her_lead {n : Nat} {R : Nat → Vec} (h : Her n R) {x : Vec} (hx : Lat (Rws R 0 n) x) {j : Nat} (hj : j < n) (hz : ∀ k, k < j → x k = 0) : ∃ c, x j = c * R j j := by
  obtain ⟨c, hc⟩ := lat_sum hx
  have c0 : ∀ m, m < j → c m = 0 := by
    intro m
    induction m using Nat.strongRecOn with
    | _ m ih =>
      intro hm
      have h1 := hc m
      rw [hz m hm, sumN_one (m := m) (by omega) fun i hi hne => by
        rcases Nat.lt_or_ge i m with h2 | h2
        · rw [ih i h2 (by omega)]; simp
        · rw [h.up i hi m (by omega)]; simp] at h1
      have h3 := h.dg m (by omega)
      rcases Int.mul_eq_zero.1 h1.symm with h4 | h4
      · exact h4
      · omega
  refine ⟨c j, ?_⟩
  rw [hc j]
  exact sumN_one hj fun i hi hne => by
    rcases Nat.lt_or_ge i j with h2 | h2
    · rw [c0 i h2]; simp
    · rw [h.up i hi j (by omega)]; simp

theorem her_unique {n : Nat} {R S : Nat → Vec} (h : Her n R) (h' : Her n S) (he : ∀ x, Lat (Rws R 0 n) x ↔ Lat (Rws S 0 n) x) : ∀ i, i < n → ∀ k, R i k = S i k := by
  intro i hi
  have rin : ∀ m, m < n → Lat (Rws R 0 n) (R m) := fun m hm => .gen ⟨m, by omega, hm, rfl⟩
  have sin : ∀ m, m < n → Lat (Rws R 0 n) (S m) := fun m hm => (he _).2 (.gen ⟨m, by omega, hm, rfl⟩)
  have dd : ∀ m, m < n → R m m = S m m := by
    intro m hm
    obtain ⟨c, hc⟩ := her_lead h (sin m hm) hm fun k hk => h'.up m hm k (Or.inl hk)
    obtain ⟨e, he'⟩ := her_lead h' ((he _).1 (rin m hm)) hm fun k hk => h.up m hm k (Or.inl hk)
    have p1 := h.dg m hm
    have p2 := h'.dg m hm
    have d1 : R m m ∣ S m m := ⟨c, by rw [hc, Int.mul_comm]⟩
    have d2 : S m m ∣ R m m := ⟨e, by rw [he', Int.mul_comm]⟩
    have l1 := Int.le_of_dvd p2 d1
    have l2 := Int.le_of_dvd p1 d2
    omega
  have w : ∀ j, ∀ k, k < j → R i k = S i k := by
    intro j
    induction j with
    | zero => exact fun k hk => by omega
    | succ j ih =>
      intro k hk
      by_cases hkj : k < j
      · exact ih k hkj
      · have : k = j := by omega
        subst this
        by_cases hkn : k < n
        · rcases Nat.lt_trichotomy k i with h1 | h1 | h1
          · rw [h.up i hi k (Or.inl h1), h'.up i hi k (Or.inl h1)]
          · subst h1; exact dd k hkn
          · obtain ⟨c, hc⟩ := her_lead h ((rin i hi).sub (sin i hi)) hkn fun l hl => by rw [ih l hl]; omega
            have a := h.rd i k h1 hkn
            have b := h'.rd i k h1 hkn
            rw [← dd k hkn] at b
            have hc0 : c = 0 := by
              rcases Int.lt_trichotomy c 0 with h2 | h2 | h2
              · have : c * R k k ≤ -1 * R k k := Int.mul_le_mul_of_nonneg_right (by omega) (by omega)
                omega
              · exact h2
              · have : 1 * R k k ≤ c * R k k := Int.mul_le_mul_of_nonneg_right (by omega) (by omega)
                omega
            rw [hc0, Int.zero_mul] at hc
            omega
        · rw [h.up i hi k (by omega), h'.up i hi k (by omega)]
  exact fun k => w (k + 1) k (by omega)

end Go.Proofs.Ytmfafadchpglgaa

/- Rows of integers in memory. No program's text. -/
namespace Go.Proofs.Ytmfafadchpglgaa
set_option maxRecDepth 20000

/-- Nothing of block b is a number: no words lie there. -/
def NoI (h : Hp) (b : Nat) : Prop := ∀ x, h b = some x → ∀ v ∈ x.cs, ∀ n, v ≠ .int .u64 n

theorem NoI.of {h : Hp} {b : Nat} {cs : List Value} {wr : Bool} (hb : h b = some ⟨cs, wr⟩) (hn : ∀ v ∈ cs, ∀ n, v ≠ .int .u64 n) : NoI h b := fun x hx => by rw [hb] at hx; cases hx; exact hn
theorem NoI.none {h : Hp} {b : Nat} (hb : h b = none) : NoI h b := fun x hx => by rw [hb] at hx; cases hx

theorem Ws.delI {h : Hp} {s : Sl} {ws : List Nat} (g : Ws h s ws) {b : Nat} (hn : NoI h b) : Ws (h.del b) s ws := by
  refine ⟨⟨g.seg.len, fun hne => ?_⟩, g.lt, g.cap⟩
  obtain ⟨k, off, x, e1, e2, e3, e4⟩ := g.seg.mem hne
  refine ⟨k, off, x, e1, ?_, e3, e4⟩
  unfold Hp.del
  rw [if_neg]
  · exact e2
  · intro e
    subst e
    cases ws with
    | nil => exact hne rfl
    | cons w r =>
      have : uw w ∈ x.cs := by
        have h1 : uw w ∈ (x.cs.drop off).take ((w :: r).map uw).length := by rw [e4]; simp
        exact List.mem_of_mem_drop (List.mem_of_mem_take h1)
      exact hn x e2 _ this _ rfl

theorem Zs.del {h : Hp} {z : Z} {n : Int} (g : Zs h z n) {b : Nat} (hn : NoI h b) : Zs (h.del b) z n := let ⟨ws, a, l, e⟩ := g.ex; ⟨ws, a.delI hn, l, e⟩

/-- An integer in memory; c: in least form. -/
structure Ze (c : Bool) (h : Hp) (z : Z) (n : Int) : Prop where
  zs : Zs h z n
  lf : c = true → z.neg = decide (n < 0) ∧ Ws h z.mag (wd n.natAbs)
theorem Ze.le {c : Bool} {h h' : Hp} {z : Z} {n : Int} (g : Ze c h z n) (l : h.le h') : Ze c h' z n := ⟨g.zs.le l, fun e => ⟨(g.lf e).1, (g.lf e).2.le l⟩⟩
theorem Ze.del {c : Bool} {h : Hp} {z : Z} {n : Int} (g : Ze c h z n) {b : Nat} (hn : NoI h b) : Ze c (h.del b) z n := ⟨g.zs.del hn, fun e => ⟨(g.lf e).1, (g.lf e).2.delI hn⟩⟩
theorem Ze.up {c : Bool} {h : Hp} {z : Z} {n : Int} (g : Ze c h z n) {b : Nat} (hn : NoI h b) (x : Blk) : Ze c (h.up b x) z n := (g.del hn).le (Hp.del_le_up _ _ _)
theorem Ze.weak {c : Bool} {h : Hp} {z : Z} {n : Int} (g : Ze c h z n) : Ze false h z n := ⟨g.zs, fun e => by cases e⟩
theorem ZR.ze {h h' : Hp} {z : Z} {n : Int} (g : ZR h h' z n) (s : Sz n) (c : Bool) : Ze c h' z n := ⟨g.zs s, fun _ => ⟨g.neg, g.mag.ws⟩⟩

def Zss (c : Bool) (h : Hp) : List Z → List Int → Prop
  | [], [] => True
  | z :: zs, n :: ns => Ze c h z n ∧ Zss c h zs ns
  | _, _ => False

theorem Zss.len {c : Bool} {h : Hp} : ∀ {zs : List Z} {ns : List Int}, Zss c h zs ns → zs.length = ns.length
  | [], [], _ => rfl
  | [], _ :: _, h => h.elim
  | _ :: _, [], h => h.elim
  | _ :: _, _ :: _, h => by simp [Zss.len h.2]
theorem Zss.le {c : Bool} {h h' : Hp} (l : h.le h') : ∀ {zs : List Z} {ns : List Int}, Zss c h zs ns → Zss c h' zs ns
  | [], [], _ => trivial
  | [], _ :: _, h => h.elim
  | _ :: _, [], h => h.elim
  | _ :: _, _ :: _, h => ⟨h.1.le l, Zss.le l h.2⟩
theorem Zss.del {c : Bool} {h : Hp} {b : Nat} (hn : NoI h b) : ∀ {zs : List Z} {ns : List Int}, Zss c h zs ns → Zss c (h.del b) zs ns
  | [], [], _ => trivial
  | [], _ :: _, h => h.elim
  | _ :: _, [], h => h.elim
  | _ :: _, _ :: _, h => ⟨h.1.del hn, Zss.del hn h.2⟩
theorem Zss.get {c : Bool} {h : Hp} : ∀ {zs : List Z} {ns : List Int}, Zss c h zs ns → ∀ {j : Nat} (hj : j < zs.length), Ze c h zs[j] (ns.getD j 0)
  | [], [], _, j, hj => by simp at hj
  | [], _ :: _, h, _, _ => h.elim
  | _ :: _, [], h, _, _ => h.elim
  | _ :: _, _ :: _, h, 0, _ => h.1
  | _ :: _, _ :: _, h, j + 1, hj => by
    have := Zss.get h.2 (j := j) (by simpa using hj)
    simpa using this
theorem Zss.set {c : Bool} {h : Hp} {z : Z} {n : Int} (g : Ze c h z n) : ∀ {zs : List Z} {ns : List Int}, Zss c h zs ns → ∀ (j : Nat), Zss c h (zs.set j z) (ns.set j n)
  | [], [], _, _ => trivial
  | [], _ :: _, h, _ => h.elim
  | _ :: _, [], h, _ => h.elim
  | _ :: _, _ :: _, h, 0 => ⟨g, h.2⟩
  | _ :: _, _ :: _, h, j + 1 => ⟨h.1, Zss.set g h.2 j⟩
theorem Zss.app {c : Bool} {h : Hp} {us : List Z} {ms : List Int} (g : Zss c h us ms) : ∀ {zs : List Z} {ns : List Int}, Zss c h zs ns → Zss c h (zs ++ us) (ns ++ ms)
  | [], [], _ => g
  | [], _ :: _, h => h.elim
  | _ :: _, [], h => h.elim
  | _ :: _, _ :: _, h => ⟨h.1, Zss.app g h.2⟩
theorem Zss.takeD {c : Bool} {h : Hp} : ∀ {zs : List Z} {ns : List Int}, Zss c h zs ns → ∀ (i m : Nat), Zss c h ((zs.drop i).take m) ((ns.drop i).take m)
  | [], [], _, i, m => by simp [Zss]
  | [], _ :: _, h, _, _ => h.elim
  | _ :: _, [], h, _, _ => h.elim
  | z :: zs, n :: ns, g, 0, 0 => by simp [Zss]
  | z :: zs, n :: ns, g, 0, m + 1 => by
    have := Zss.takeD g.2 0 m
    simp only [List.drop_zero] at this ⊢
    exact ⟨g.1, this⟩
  | z :: zs, n :: ns, g, i + 1, m => by simpa using Zss.takeD g.2 i m

/-- The cells of an integer. -/
def zc (z : Z) : List Value := [.bool z.neg, .slice z.mag.a z.mag.n z.mag.c]
def zcs : List Z → List Value
  | [] => []
  | z :: zs => zc z ++ zcs zs
theorem zcs_len : ∀ zs : List Z, (zcs zs).length = zs.length * 2
  | [] => rfl
  | _ :: zs => by simp [zcs, zc, zcs_len zs]; omega
theorem zcs_app : ∀ a b : List Z, zcs (a ++ b) = zcs a ++ zcs b
  | [], _ => rfl
  | x :: a, b => by simp [zcs, zcs_app a b]
theorem zcs_drop : ∀ (zs : List Z) (j : Nat), (zcs zs).drop (j * 2) = zcs (zs.drop j)
  | zs, 0 => by simp
  | [], j + 1 => by simp [zcs]
  | z :: zs, j + 1 => by
    have : (j + 1) * 2 = j * 2 + 2 := by omega
    rw [this, List.drop_succ_cons, ← zcs_drop zs j]
    simp [zcs, zc]
theorem zcs_take : ∀ (zs : List Z) (j : Nat), (zcs zs).take (j * 2) = zcs (zs.take j)
  | zs, 0 => by simp [zcs]
  | [], j + 1 => by simp [zcs]
  | z :: zs, j + 1 => by
    have : (j + 1) * 2 = j * 2 + 2 := by omega
    rw [this, List.take_succ_cons, show zcs (z :: zs.take j) = zc z ++ zcs (zs.take j) from rfl, ← zcs_take zs j, show zcs (z :: zs) = zc z ++ zcs zs from rfl]
    simp [zcs, zc]
theorem zcs_one : ∀ (zs : List Z), one' (zcs zs)
  | [] => fun v hv => by simp [zcs] at hv
  | z :: zs => fun v hv => by
    simp only [zcs, zc, List.mem_append, List.mem_cons, List.not_mem_nil, or_false] at hv
    rcases hv with (rfl | rfl) | hv
    · rfl
    · rfl
    · exact zcs_one zs v hv
theorem zcs_noi : ∀ (zs : List Z), ∀ v ∈ zcs zs, ∀ n, v ≠ .int .u64 n
  | [] => fun v hv => by simp [zcs] at hv
  | z :: zs => fun v hv => by
    simp only [zcs, zc, List.mem_append, List.mem_cons, List.not_mem_nil, or_false] at hv
    rcases hv with (rfl | rfl) | hv
    · intro n e; cases e
    · intro n e; cases e
    · exact zcs_noi zs v hv
theorem setAt_zc (zs : List Z) {j : Nat} (hj : j < zs.length) (z : Z) : setAt (zcs zs) (j * 2) (zc z) = zcs (zs.set j z) := by
  unfold setAt
  rw [zcs_take, show j * 2 + (zc z).length = (j + 1) * 2 by simp [zc]; omega, zcs_drop, List.set_eq_take_append_cons_drop, if_pos hj, zcs_app, zcs]
  simp

def z0 : Z := ⟨false, ⟨none, 0, 0⟩⟩
theorem z0_zs (c : Bool) (h : Hp) : Ze c h z0 0 :=
  have w : Ws h z0.mag [] := ⟨Seg.nil rfl, by simp, Nat.le_refl _⟩
  ⟨⟨[], w, by simp, rfl⟩, fun _ => ⟨rfl, by rw [show (0 : Int).natAbs = 0 from rfl, wd_zero]; exact w⟩⟩
theorem zss_rep (c : Bool) (h : Hp) : ∀ n : Nat, Zss c h (List.replicate n z0) (List.replicate n 0)
  | 0 => trivial
  | n + 1 => ⟨z0_zs c h, zss_rep c h n⟩
theorem mkCells_zero (n : Nat) : mkCells [.bool false, .slice none 0 0] (n * 2) = zcs (List.replicate n z0) := by
  induction n with
  | zero => rfl
  | succ n ih =>
    have h1 : ∀ m, mkCells [.bool false, .slice none 0 0] (m + 2) = mkCells [.bool false, .slice none 0 0] m ++ [([Value.bool false, .slice none 0 0] : List Value).getD (m % 2) default, ([Value.bool false, .slice none 0 0] : List Value).getD ((m + 1) % 2) default] := by
      intro m; simp [mkCells, List.range_succ]
    rw [show (n + 1) * 2 = n * 2 + 2 by omega, h1, ih, List.replicate_succ', zcs_app]
    have e1 : n * 2 % 2 = 0 := by omega
    have e2 : (n * 2 + 1) % 2 = 1 := by omega
    rw [e1, e2]
    rfl

/-- A block of its own with a row of integers. -/
structure RowB (c : Bool) (h : Hp) (k : Nat) (ns : List Int) : Prop where
  ex : ∃ zs, h k = some ⟨zcs zs, true⟩ ∧ Zss c h zs ns
/-- A slice of integers. -/
structure RowS (c : Bool) (h : Hp) (s : Sl) (ns : List Int) : Prop where
  ex : ∃ zs, Seg h s 2 (zcs zs) ∧ Zss c h zs ns
  cap : s.n ≤ s.c

theorem RowB.le {c : Bool} {h h' : Hp} {k : Nat} {ns : List Int} (g : RowB c h k ns) (l : h.le h') : RowB c h' k ns := let ⟨zs, a, b⟩ := g.ex; ⟨zs, l _ _ a, b.le l⟩
theorem RowS.le {c : Bool} {h h' : Hp} {s : Sl} {ns : List Int} (g : RowS c h s ns) (l : h.le h') : RowS c h' s ns := ⟨let ⟨zs, a, b⟩ := g.ex; ⟨zs, a.le l, b.le l⟩, g.cap⟩
theorem RowB.noi {c : Bool} {h : Hp} {k : Nat} {ns : List Int} (g : RowB c h k ns) : NoI h k := let ⟨zs, a, _⟩ := g.ex; NoI.of a (zcs_noi zs)
theorem RowB.del {c : Bool} {h : Hp} {k b : Nat} {ns : List Int} (g : RowB c h k ns) (hkb : k ≠ b) (hn : NoI h b) : RowB c (h.del b) k ns := by
  obtain ⟨zs, a, d⟩ := g.ex
  exact ⟨zs, by unfold Hp.del; rw [if_neg hkb]; exact a, d.del hn⟩
theorem RowB.up {c : Bool} {h : Hp} {k b : Nat} {ns : List Int} (g : RowB c h k ns) (hkb : k ≠ b) (hn : NoI h b) (x : Blk) : RowB c (h.up b x) k ns := (g.del hkb hn).le (Hp.del_le_up _ _ _)
theorem Zs.up {h : Hp} {z : Z} {n : Int} (g : Zs h z n) {b : Nat} (hn : NoI h b) (x : Blk) : Zs (h.up b x) z n := (g.del hn).le (Hp.del_le_up _ _ _)
theorem RowS.len {c : Bool} {h : Hp} {s : Sl} {ns : List Int} (g : RowS c h s ns) : s.n = ns.length := by
  obtain ⟨zs, a, b⟩ := g.ex
  have h1 := a.len
  rw [zcs_len] at h1
  have h2 := b.len
  omega
theorem RowB.row {c : Bool} {h : Hp} {k cc : Nat} {ns : List Int} (g : RowB c h k ns) (hc : ns.length ≤ cc) : RowS c h ⟨some (blkA k), ns.length, cc⟩ ns := by
  obtain ⟨zs, a, b⟩ := g.ex
  refine ⟨⟨zs, ⟨by rw [zcs_len, b.len], fun _ => ⟨k, 0, _, rfl, a, by simp, by simp⟩⟩, b⟩, hc⟩
theorem RowS.isS {c : Bool} {h : Hp} {s : Sl} {ns : List Int} (g : RowS c h s ns) (hp : 0 < ns.length) : s.a.isSome = true := by
  obtain ⟨zs, a, b⟩ := g.ex
  refine a.isS ?_
  have := b.len
  rw [zcs_len]; omega
theorem RowS.ld {c : Bool} {h : Hp} {s : Sl} {ns : List Int} (g : RowS c h s ns) {j : Int} (h0 : 0 ≤ j) (h1 : j < ns.length) : ∃ z : Z, hld h (elemA s.a j 2) (some 2) = some z.v ∧ Ze c h z (ns.getD j.toNat 0) := by
  obtain ⟨zs, a, b⟩ := g.ex
  have hl := b.len
  have hn := g.len
  have hj : j.toNat < zs.length := by omega
  refine ⟨zs[j.toNat], ?_, b.get hj⟩
  rw [a.lda (by decide) h0 (by omega), zcs_drop]
  congr 1
  rw [List.drop_eq_getElem_cons hj, zcs]
  rfl
theorem RowB.st {c : Bool} {h : Hp} {k : Nat} {ns : List Int} (g : RowB c h k ns) {j : Int} (h0 : 0 ≤ j) (h1 : j < ns.length) (z : Z) : ∃ cs, hst h (elemA (some (blkA k)) j 2) [.bool z.neg, z.mag.v] = some (h.up k ⟨cs, true⟩) ∧ ∀ n, Ze c h z n → RowB c (h.up k ⟨cs, true⟩) k (ns.set j.toNat n) := by
  obtain ⟨zs, a, b⟩ := g.ex
  have hl := b.len
  have hj : j.toNat < zs.length := by omega
  refine ⟨zcs (zs.set j.toNat z), ?_, fun n hz => ?_⟩
  · rw [elemA_some, hst_at a (by rw [zcs_len]; simp; omega), Nat.zero_add]
    have := setAt_zc zs hj z
    unfold zc at this
    rw [show ([Value.bool z.neg, z.mag.v] : List Value) = [.bool z.neg, .slice z.mag.a z.mag.n z.mag.c] from rfl, this]
  · refine ⟨_, up_get _ _ _, ?_⟩
    have hni : NoI h k := NoI.of a (zcs_noi zs)
    exact ((b.set hz j.toNat).del hni).le (Hp.del_le_up _ _ _)
theorem RowB.new (c : Bool) {h : Hp} {k n : Nat} (hk : h k = none) : RowB c (h.up k ⟨mkCells [.bool false, .slice none 0 0] (n * 2), true⟩) k (List.replicate n 0) := by
  rw [mkCells_zero]
  exact ⟨_, up_get _ _ _, zss_rep _ _ _⟩

/-! ## Lists that grow -/

/-- A list of cells (sz to an element) in a block of its own, or the empty one. -/
def GrowS (zs : List Value) (h0 h : Hp) (s : Sl) (sz : Nat) (vs : List Value) : Prop :=
  (s = ⟨none, 0, 0⟩ ∧ vs = []) ∨ ∃ (k : Nat) (tl : List Value), s.a = some (blkA k) ∧ h0 k = none ∧ h k = some ⟨vs ++ tl, true⟩ ∧ vs.length = s.n * sz ∧ (vs ++ tl).length = s.c * sz ∧ s.n ≤ s.c ∧ ∀ v ∈ tl, v ∈ zs

theorem mem_mkCells {zs : List Value} (hz : 0 < zs.length) {n : Nat} {v : Value} (h : v ∈ mkCells zs n) : v ∈ zs := by
  unfold mkCells at h
  obtain ⟨i, _, rfl⟩ := List.mem_map.1 h
  have : i % zs.length < zs.length := Nat.mod_lt _ hz
  simp only [List.getD, List.getElem?_eq_getElem this, Option.getD_some]
  exact List.getElem_mem this

/-- The memory without the list's block. -/
def delS (h : Hp) (s : Sl) : Hp := match s.a with | some a => h.del a.block | none => h

theorem app_grow {h0 h : Hp} {s : Sl} {sz : Nat} {vs ys : List Value} {m bytes : Nat} {zero : List Opd} {K : Value → Hp → Prop} (g : GrowS (consts zero) h0 h s sz vs) (hl : h0.le h) (hz : 0 < sz) (ho : one' vs) (hys : ys.length = m * sz) (hzl : zero.length = sz) (hm : 0 < m)
    (hcap : (s.n + m) * bytes ≤ 140737488355328)
    (hk : ∀ (s' : Sl) (h' : Hp), h0.le h' → (delS h s).le h' → GrowS (consts zero) h0 h' s' sz (vs ++ ys) → s'.n = s.n + m → K s'.v h') : appRes h s.a s.n s.c m sz bytes zero ys K := by
  rcases g with ⟨rfl, rfl⟩ | ⟨k, tl, e1, e2, e3, e4, e5, e6, e7⟩
  · unfold appRes
    rw [if_neg (by dsimp only; omega)]
    simp only [firstOf, if_true]
    refine ⟨growslice_fits (by omega) hcap, fun b c' hb hc => ?_⟩
    have hb0 : h0 b = none := Hp.none_of_le hl hb
    refine hk ⟨some (blkA b), 0 + m, c'⟩ _ (Hp.le_trans hl (Hp.le_up _ hb)) (Hp.le_up _ hb) (Or.inr ⟨b, mkCells (consts zero) ((c' - (0 + m)) * zero.length), rfl, hb0, ?_, ?_, ?_, hc, fun v hv => mem_mkCells (by rw [length_consts, hzl]; exact hz) hv⟩) rfl
    · rw [up_get, List.nil_append]
    · simp [hys]
    · simp [hys, mkCells, hzl]
      rw [← Nat.add_mul]; congr 1; omega
  · obtain ⟨sa, sn, sc⟩ := s
    simp only at e1 e4 e5 e6 hcap
    subst e1
    have hd : ∀ (h' : Hp), (h.del k).le h' → (delS h ⟨some (blkA k), sn, sc⟩).le h' := fun h' hh => hh
    unfold appRes
    split
    · rename_i hfit
      simp only
      have hlen : sn * sz + ys.length ≤ (vs ++ tl).length := by rw [e5, hys, ← Nat.add_mul]; exact Nat.mul_le_mul_right _ hfit
      rw [show (blkA k).add (sn * sz) = ⟨k, sn * sz, none⟩ by rw [add_none]; simp, hst_at e3 hlen]
      have hcs : setAt (vs ++ tl) (sn * sz) ys = (vs ++ ys) ++ tl.drop ys.length := by
        unfold setAt
        rw [List.take_append_of_le_length (by omega), List.take_of_length_le (by omega), List.drop_append, List.drop_of_length_le (by omega)]
        simp
        congr 1; omega
      rw [hcs]
      refine hk ⟨some (blkA k), sn + m, sc⟩ _ (le_up_of_none e2 hl) (hd _ (Hp.del_le_up _ _ _)) (Or.inr ⟨k, tl.drop ys.length, rfl, e2, up_get _ _ _, ?_, ?_, hfit, fun v hv => e7 v (List.mem_of_mem_drop hv)⟩) rfl
      · simp [hys, e4, Nat.add_mul]
      · rw [← hcs, length_setAt hlen]; exact e5
    · rename_i hfit
      have hf : firstOf h (some (blkA k)) sn sz = some vs := by
        have sg : Seg h ⟨some (blkA k), sn, sc⟩ sz vs := ⟨e4, fun _ => ⟨k, 0, _, rfl, e3, by simp, by simp⟩⟩
        have := sg.first (m := sn) (by omega) hz ho
        rw [← e4, List.take_length] at this
        exact this
      rw [hf]
      simp only
      refine ⟨growslice_fits (by dsimp only at hfit; omega) hcap, fun b c' hb hc => ?_⟩
      have hb0 : h0 b = none := Hp.none_of_le hl hb
      refine hk ⟨some (blkA b), sn + m, c'⟩ _ (Hp.le_trans hl (Hp.le_up _ hb)) (hd _ (Hp.le_trans (Hp.del_le h k) (Hp.le_up _ hb))) (Or.inr ⟨b, mkCells (consts zero) ((c' - (sn + m)) * zero.length), rfl, hb0, up_get _ _ _, ?_, ?_, hc, fun v hv => mem_mkCells (by rw [length_consts, hzl]; exact hz) hv⟩) rfl
      · simp [hys, e4, Nat.add_mul]
      · simp [hys, e4, mkCells, hzl]
        rw [← Nat.add_mul, ← Nat.add_mul]; congr 1; omega

end Go.Proofs.Ytmfafadchpglgaa
