/- Bodies, printed by gen.py (this session's program). -/
import Derived.Test.YtmjmfollimaleaaVL20
import Derived.Test.YtmjmfollimaleaaProg
set_option linter.unusedVariables false
set_option maxRecDepth 100000
namespace Go.Proofs.Ytmjmfollimaleaa.VL
open Go.Proofs

/-- slices.nextPowerOfTwo (function 50) -/
def c_slices_nextPowerOfTwo : ACode :=
  (.seq
    (.region false [
        ⟨some 2, .mov (.const (.int .u64 0)), none⟩] [2])
    (.seq
      (.region false [
          ⟨some 3, .mov (.tmp 0), none⟩,
          ⟨some 4, .cint .u64 (.tmp 3), none⟩,
          ⟨some 5, .callm 37 [.tmp 4], none⟩,
          ⟨some 6, .bin .shl 63 (.const (.int .u64 1)) (.tmp 5), none⟩,
          ⟨some 2, .mov (.tmp 6), none⟩] [0, 3, 4, 5, 6])
      .ret))
abbrev v_slices_nextPowerOfTwo : List RV := [.tmp 2]
abbrev f_slices_nextPowerOfTwo : FuncId := 50
theorem k_slices_nextPowerOfTwo : closedOf Try.prog Try.f50 = (false, some true, some v_slices_nextPowerOfTwo, some c_slices_nextPowerOfTwo.plain, 7) := by kernel_rfl
theorem ac_slices_nextPowerOfTwo {args : List AV} {r : AV} (h : aw Try.prog c_slices_nextPowerOfTwo (env0 args) (endQ v_slices_nextPowerOfTwo r)) (hargs : args.length ≤ 7 := by decide) (hok : resOK r = true := by rfl) : AC Try.prog f_slices_nextPowerOfTwo args r :=
  AC_mk (by kernel_rfl) Try.func50 k_slices_nextPowerOfTwo hargs hok (by decide) h
theorem am_slices_nextPowerOfTwo {args : List AV} {c0 c1 : List (Nat × List AV)} {r : AV} (h : aw Try.prog c_slices_nextPowerOfTwo (env0M args c0) (endM v_slices_nextPowerOfTwo r (c0.map (·.1)) c1)) (hc0 : ∀ q ∈ c0, 100000 ≤ q.1) (hargs : args.length ≤ 7 := by decide) (hok : resOK r = true := by rfl) : AM Try.prog f_slices_nextPowerOfTwo args c0 r c1 :=
  AM_mk (by kernel_rfl) Try.func50 k_slices_nextPowerOfTwo hargs hok (by decide) hc0 h

/-- (*slices.xorshift).Next (function 51) -/
def c_slices_xorshift_Next : ACode :=
  (.seq
    (.region false [
        ⟨some 2, .mov (.const (.int .u64 0)), none⟩] [2])
    (.seq
      (.region true [
          ⟨some 3, .mov (.tmp 0), none⟩,
          ⟨some 4, .nilchk (.tmp 3), none⟩,
          ⟨some 5, .load false 1 (.tmp 4), none⟩,
          ⟨some 6, .mov (.tmp 0), none⟩,
          ⟨some 7, .nilchk (.tmp 6), none⟩,
          ⟨some 8, .load false 1 (.tmp 7), none⟩,
          ⟨some 9, .bin .shl 76 (.tmp 8) (.const (.int .u64 13)), none⟩,
          ⟨some 10, .bin .xor 76 (.tmp 5) (.tmp 9), none⟩,
          ⟨some 11, .nilchk (.tmp 3), none⟩,
          ⟨none, .store 1 (.tmp 11) (.tmp 10), none⟩] [3, 4, 5, 6, 7, 8, 9, 10, 11])
      (.seq
        (.region true [
            ⟨some 12, .mov (.tmp 0), none⟩,
            ⟨some 13, .nilchk (.tmp 12), none⟩,
            ⟨some 14, .load false 1 (.tmp 13), none⟩,
            ⟨some 15, .mov (.tmp 0), none⟩,
            ⟨some 16, .nilchk (.tmp 15), none⟩,
            ⟨some 17, .load false 1 (.tmp 16), none⟩,
            ⟨some 18, .bin .shr 76 (.tmp 17) (.const (.int .u64 7)), none⟩,
            ⟨some 19, .bin .xor 76 (.tmp 14) (.tmp 18), none⟩,
            ⟨some 20, .nilchk (.tmp 12), none⟩,
            ⟨none, .store 1 (.tmp 20) (.tmp 19), none⟩] [12, 13, 14, 15, 16, 17, 18, 19, 20])
        (.seq
          (.region true [
              ⟨some 21, .mov (.tmp 0), none⟩,
              ⟨some 22, .nilchk (.tmp 21), none⟩,
              ⟨some 23, .load false 1 (.tmp 22), none⟩,
              ⟨some 24, .mov (.tmp 0), none⟩,
              ⟨some 25, .nilchk (.tmp 24), none⟩,
              ⟨some 26, .load false 1 (.tmp 25), none⟩,
              ⟨some 27, .bin .shl 76 (.tmp 26) (.const (.int .u64 17)), none⟩,
              ⟨some 28, .bin .xor 76 (.tmp 23) (.tmp 27), none⟩,
              ⟨some 29, .nilchk (.tmp 21), none⟩,
              ⟨none, .store 1 (.tmp 29) (.tmp 28), none⟩] [21, 22, 23, 24, 25, 26, 27, 28, 29])
          (.seq
            (.region false [
                ⟨some 30, .mov (.tmp 0), none⟩,
                ⟨some 31, .nilchk (.tmp 30), none⟩,
                ⟨some 32, .load false 1 (.tmp 31), none⟩,
                ⟨some 2, .mov (.tmp 32), none⟩] [0, 30, 31, 32])
            .ret)))))
abbrev v_slices_xorshift_Next : List RV := [.tmp 2]
abbrev f_slices_xorshift_Next : FuncId := 51
theorem k_slices_xorshift_Next : closedOf Try.prog Try.f51 = (false, some true, some v_slices_xorshift_Next, some c_slices_xorshift_Next.plain, 33) := by kernel_rfl
theorem ac_slices_xorshift_Next {args : List AV} {r : AV} (h : aw Try.prog c_slices_xorshift_Next (env0 args) (endQ v_slices_xorshift_Next r)) (hargs : args.length ≤ 33 := by decide) (hok : resOK r = true := by rfl) : AC Try.prog f_slices_xorshift_Next args r :=
  AC_mk (by kernel_rfl) Try.func51 k_slices_xorshift_Next hargs hok (by decide) h
theorem am_slices_xorshift_Next {args : List AV} {c0 c1 : List (Nat × List AV)} {r : AV} (h : aw Try.prog c_slices_xorshift_Next (env0M args c0) (endM v_slices_xorshift_Next r (c0.map (·.1)) c1)) (hc0 : ∀ q ∈ c0, 100000 ≤ q.1) (hargs : args.length ≤ 33 := by decide) (hok : resOK r = true := by rfl) : AM Try.prog f_slices_xorshift_Next args c0 r c1 :=
  AM_mk (by kernel_rfl) Try.func51 k_slices_xorshift_Next hargs hok (by decide) hc0 h

/-- slices.medianAdjacentOrdered[rivulet/api.Addr] (function 52) -/
def c_slices_medianAdjacentOrdered_api_Addr : ACode :=
  (.seq
    (.region false [
        ⟨some 6, .mov (.const (.int .i64 0)), none⟩] [6])
    (.seq
      (.region false [
          ⟨some 7, .mov (.tmp 0), none⟩,
          ⟨some 8, .mov (.tmp 1), none⟩,
          ⟨some 9, .bin .sub 3 (.tmp 8) (.const (.int .i64 1)), none⟩,
          ⟨some 10, .mov (.tmp 1), none⟩,
          ⟨some 11, .mov (.tmp 1), none⟩,
          ⟨some 12, .bin .add 3 (.tmp 11) (.const (.int .i64 1)), none⟩,
          ⟨some 13, .mov (.tmp 2), none⟩,
          ⟨some 14, .callm 53 [.tmp 7, .tmp 9, .tmp 10, .tmp 12, .tmp 13], none⟩,
          ⟨some 6, .mov (.tmp 14), none⟩] [0, 1, 2, 7, 8, 9, 10, 11, 12, 13, 14])
      .ret))
abbrev v_slices_medianAdjacentOrdered_api_Addr : List RV := [.tmp 6]
abbrev f_slices_medianAdjacentOrdered_api_Addr : FuncId := 52
theorem k_slices_medianAdjacentOrdered_api_Addr : closedOf Try.prog Try.f52 = (false, some true, some v_slices_medianAdjacentOrdered_api_Addr, some c_slices_medianAdjacentOrdered_api_Addr.plain, 15) := by kernel_rfl
theorem ac_slices_medianAdjacentOrdered_api_Addr {args : List AV} {r : AV} (h : aw Try.prog c_slices_medianAdjacentOrdered_api_Addr (env0 args) (endQ v_slices_medianAdjacentOrdered_api_Addr r)) (hargs : args.length ≤ 15 := by decide) (hok : resOK r = true := by rfl) : AC Try.prog f_slices_medianAdjacentOrdered_api_Addr args r :=
  AC_mk (by kernel_rfl) Try.func52 k_slices_medianAdjacentOrdered_api_Addr hargs hok (by decide) h
theorem am_slices_medianAdjacentOrdered_api_Addr {args : List AV} {c0 c1 : List (Nat × List AV)} {r : AV} (h : aw Try.prog c_slices_medianAdjacentOrdered_api_Addr (env0M args c0) (endM v_slices_medianAdjacentOrdered_api_Addr r (c0.map (·.1)) c1)) (hc0 : ∀ q ∈ c0, 100000 ≤ q.1) (hargs : args.length ≤ 15 := by decide) (hok : resOK r = true := by rfl) : AM Try.prog f_slices_medianAdjacentOrdered_api_Addr args c0 r c1 :=
  AM_mk (by kernel_rfl) Try.func52 k_slices_medianAdjacentOrdered_api_Addr hargs hok (by decide) hc0 h

/-- slices.medianOrdered[rivulet/api.Addr] (function 53) -/
def c_slices_medianOrdered_api_Addr : ACode :=
  (.seq
    (.region false [
        ⟨some 10, .mov (.const (.int .i64 0)), none⟩] [10])
    (.seq
      (.region false [
          ⟨some 12, .mov (.tmp 0), none⟩,
          ⟨some 13, .mov (.tmp 1), none⟩,
          ⟨some 14, .mov (.tmp 2), none⟩,
          ⟨some 15, .mov (.tmp 4), none⟩,
          ⟨some 16, .callm 55 [.tmp 12, .tmp 13, .tmp 14, .tmp 15], none⟩,
          ⟨some 11, .mov (.tmp 16), none⟩,
          ⟨some 17, .ext (.tmp 11) 0, none⟩,
          ⟨some 18, .ext (.tmp 11) 1, none⟩,
          ⟨some 1, .mov (.tmp 17), none⟩,
          ⟨some 2, .mov (.tmp 18), none⟩] [11, 12, 13, 14, 15, 16, 17, 18])
      (.seq
        (.region false [
            ⟨some 20, .mov (.tmp 0), none⟩,
            ⟨some 21, .mov (.tmp 2), none⟩,
            ⟨some 22, .mov (.tmp 3), none⟩,
            ⟨some 23, .mov (.tmp 4), none⟩,
            ⟨some 24, .callm 55 [.tmp 20, .tmp 21, .tmp 22, .tmp 23], none⟩,
            ⟨some 19, .mov (.tmp 24), none⟩,
            ⟨some 25, .ext (.tmp 19) 0, none⟩,
            ⟨some 26, .ext (.tmp 19) 1, none⟩,
            ⟨some 2, .mov (.tmp 25), none⟩,
            ⟨some 3, .mov (.tmp 26), none⟩] [3, 19, 20, 21, 22, 23, 24, 25, 26])
        (.seq
          (.region false [
              ⟨some 28, .mov (.tmp 0), none⟩,
              ⟨some 29, .mov (.tmp 1), none⟩,
              ⟨some 30, .mov (.tmp 2), none⟩,
              ⟨some 31, .mov (.tmp 4), none⟩,
              ⟨some 32, .callm 55 [.tmp 28, .tmp 29, .tmp 30, .tmp 31], none⟩,
              ⟨some 27, .mov (.tmp 32), none⟩,
              ⟨some 33, .ext (.tmp 27) 0, none⟩,
              ⟨some 34, .ext (.tmp 27) 1, none⟩,
              ⟨some 1, .mov (.tmp 33), none⟩,
              ⟨some 2, .mov (.tmp 34), none⟩] [0, 1, 4, 27, 28, 29, 30, 31, 32, 33, 34])
          (.seq
            (.region false [
                ⟨some 35, .mov (.tmp 2), none⟩,
                ⟨some 10, .mov (.tmp 35), none⟩] [2, 35])
            .ret)))))
abbrev v_slices_medianOrdered_api_Addr : List RV := [.tmp 10]
abbrev f_slices_medianOrdered_api_Addr : FuncId := 53
theorem k_slices_medianOrdered_api_Addr : closedOf Try.prog Try.f53 = (false, some true, some v_slices_medianOrdered_api_Addr, some c_slices_medianOrdered_api_Addr.plain, 36) := by kernel_rfl
theorem ac_slices_medianOrdered_api_Addr {args : List AV} {r : AV} (h : aw Try.prog c_slices_medianOrdered_api_Addr (env0 args) (endQ v_slices_medianOrdered_api_Addr r)) (hargs : args.length ≤ 36 := by decide) (hok : resOK r = true := by rfl) : AC Try.prog f_slices_medianOrdered_api_Addr args r :=
  AC_mk (by kernel_rfl) Try.func53 k_slices_medianOrdered_api_Addr hargs hok (by decide) h
theorem am_slices_medianOrdered_api_Addr {args : List AV} {c0 c1 : List (Nat × List AV)} {r : AV} (h : aw Try.prog c_slices_medianOrdered_api_Addr (env0M args c0) (endM v_slices_medianOrdered_api_Addr r (c0.map (·.1)) c1)) (hc0 : ∀ q ∈ c0, 100000 ≤ q.1) (hargs : args.length ≤ 36 := by decide) (hok : resOK r = true := by rfl) : AM Try.prog f_slices_medianOrdered_api_Addr args c0 r c1 :=
  AM_mk (by kernel_rfl) Try.func53 k_slices_medianOrdered_api_Addr hargs hok (by decide) hc0 h

/-- cmp.isNaN[rivulet/api.Addr] (function 54) -/
def c_cmp_isNaN_api_Addr : ACode :=
  (.seq
    (.region false [
        ⟨some 2, .mov (.const (.bool false)), none⟩] [2])
    (.seq
      (.region false [
          ⟨some 3, .mov (.tmp 0), none⟩,
          ⟨some 4, .mov (.tmp 0), none⟩,
          ⟨some 5, .bin .neq 23 (.tmp 3) (.tmp 4), none⟩,
          ⟨some 2, .mov (.tmp 5), none⟩] [0, 3, 4, 5])
      .ret))
abbrev v_cmp_isNaN_api_Addr : List RV := [.tmp 2]
abbrev f_cmp_isNaN_api_Addr : FuncId := 54
theorem k_cmp_isNaN_api_Addr : closedOf Try.prog Try.f54 = (false, some true, some v_cmp_isNaN_api_Addr, some c_cmp_isNaN_api_Addr.plain, 6) := by kernel_rfl
theorem ac_cmp_isNaN_api_Addr {args : List AV} {r : AV} (h : aw Try.prog c_cmp_isNaN_api_Addr (env0 args) (endQ v_cmp_isNaN_api_Addr r)) (hargs : args.length ≤ 6 := by decide) (hok : resOK r = true := by rfl) : AC Try.prog f_cmp_isNaN_api_Addr args r :=
  AC_mk (by kernel_rfl) Try.func54 k_cmp_isNaN_api_Addr hargs hok (by decide) h
theorem am_cmp_isNaN_api_Addr {args : List AV} {c0 c1 : List (Nat × List AV)} {r : AV} (h : aw Try.prog c_cmp_isNaN_api_Addr (env0M args c0) (endM v_cmp_isNaN_api_Addr r (c0.map (·.1)) c1)) (hc0 : ∀ q ∈ c0, 100000 ≤ q.1) (hargs : args.length ≤ 6 := by decide) (hok : resOK r = true := by rfl) : AM Try.prog f_cmp_isNaN_api_Addr args c0 r c1 :=
  AM_mk (by kernel_rfl) Try.func54 k_cmp_isNaN_api_Addr hargs hok (by decide) hc0 h

/-- slices.order2Ordered[rivulet/api.Addr] (function 55) -/
def c_slices_order2Ordered_api_Addr : ACode :=
  (.seq
    (.region false [
        ⟨some 8, .mov (.const (.int .i64 0)), none⟩,
        ⟨some 9, .mov (.const (.int .i64 0)), none⟩] [8, 9])
    (.seq
      (.seq
        (.region true [
            ⟨some 10, .mov (.tmp 0), none⟩,
            ⟨some 11, .mov (.tmp 2), none⟩,
            ⟨some 12, .iaddr 1 (.tmp 10) (.tmp 11), none⟩,
            ⟨some 13, .load false 1 (.tmp 12), none⟩,
            ⟨some 14, .mov (.tmp 0), none⟩,
            ⟨some 15, .mov (.tmp 1), none⟩,
            ⟨some 16, .iaddr 1 (.tmp 14) (.tmp 15), none⟩,
            ⟨some 17, .load false 1 (.tmp 16), none⟩,
            ⟨some 18, .call 44 [.tmp 13, .tmp 17], none⟩] [0, 10, 11, 12, 13, 14, 15, 16, 17])
        (.cond (.tmp 18)
          (.seq
            (.region false [
                ⟨some 19, .mov (.tmp 3), none⟩,
                ⟨some 20, .nilchk (.tmp 19), none⟩,
                ⟨some 21, .load false 1 (.tmp 20), none⟩,
                ⟨some 22, .bin .add 3 (.tmp 21) (.const (.int .i64 1)), none⟩,
                ⟨some 23, .nilchk (.tmp 19), none⟩,
                ⟨none, .store 1 (.tmp 23) (.tmp 22), none⟩] [3, 18, 19, 20, 21, 22, 23])
            (.seq
              (.region false [
                  ⟨some 24, .mov (.tmp 2), none⟩,
                  ⟨some 25, .mov (.tmp 1), none⟩,
                  ⟨some 8, .mov (.tmp 24), none⟩,
                  ⟨some 9, .mov (.tmp 25), none⟩] [1, 2, 24, 25])
              .ret))
          .skip))
      (.seq
        (.region false [
            ⟨some 26, .mov (.tmp 1), none⟩,
            ⟨some 27, .mov (.tmp 2), none⟩,
            ⟨some 8, .mov (.tmp 26), none⟩,
            ⟨some 9, .mov (.tmp 27), none⟩] [1, 2, 3, 18, 26, 27])
        .ret)))
abbrev v_slices_order2Ordered_api_Addr : List RV := [.tmp 8, .tmp 9]
abbrev f_slices_order2Ordered_api_Addr : FuncId := 55
theorem k_slices_order2Ordered_api_Addr : closedOf Try.prog Try.f55 = (false, some true, some v_slices_order2Ordered_api_Addr, some c_slices_order2Ordered_api_Addr.plain, 28) := by kernel_rfl
theorem ac_slices_order2Ordered_api_Addr {args : List AV} {r : AV} (h : aw Try.prog c_slices_order2Ordered_api_Addr (env0 args) (endQ v_slices_order2Ordered_api_Addr r)) (hargs : args.length ≤ 28 := by decide) (hok : resOK r = true := by rfl) : AC Try.prog f_slices_order2Ordered_api_Addr args r :=
  AC_mk (by kernel_rfl) Try.func55 k_slices_order2Ordered_api_Addr hargs hok (by decide) h
theorem am_slices_order2Ordered_api_Addr {args : List AV} {c0 c1 : List (Nat × List AV)} {r : AV} (h : aw Try.prog c_slices_order2Ordered_api_Addr (env0M args c0) (endM v_slices_order2Ordered_api_Addr r (c0.map (·.1)) c1)) (hc0 : ∀ q ∈ c0, 100000 ≤ q.1) (hargs : args.length ≤ 28 := by decide) (hok : resOK r = true := by rfl) : AM Try.prog f_slices_order2Ordered_api_Addr args c0 r c1 :=
  AM_mk (by kernel_rfl) Try.func55 k_slices_order2Ordered_api_Addr hargs hok (by decide) hc0 h


end Go.Proofs.Ytmjmfollimaleaa.VL
