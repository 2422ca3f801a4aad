/- Walks of functions and plain facts, joined and squeezed by a program. Conditions: as each says. -/
import Derived.Lib.Hide
import Derived.WalkKit
namespace Go.Cm
open Go.RowKit
universe u
theorem qa {p : Prop} (h : p) : RowKit.Hid p := Lib.hid h
theorem qb (n : Nat) : n ≤ n := Nat.le_refl n
theorem qc {n m k : Nat} (h : n ≤ m) (g : m ≤ k) : n ≤ k := Nat.le_trans h g
theorem qd (n : Nat) : 0 ≤ n := Nat.zero_le n
theorem qe {n m k : Nat} (h : n < m) (g : m ≤ k) : n < k := Nat.lt_of_lt_of_le h g
theorem qg {n : Nat} (h : n > 0) {i j : Nat} (g : i ≤ j) : n ^ i ≤ n ^ j := Nat.pow_le_pow_right h g
theorem qi {p : Prop} (h : ¬p → False) : p := Classical.byContradiction h
theorem qj {α : Type u} {xs ys : List α} : (xs ++ ys).length = xs.length + ys.length := List.length_append
theorem qk {α : Type u} (xs ys zs : List α) : xs ++ ys ++ zs = xs ++ (ys ++ zs) := List.append_assoc xs ys zs
theorem qn (B : Nat) (w : World) : Below B w w := Below.refl B w
theorem qo {B : Nat} {a w : World} (h : Below B a w) : Below B a w.drew := Below.drew h
theorem qr {α : Type u} {x y : α} (h : some x = some y) : x = y := Option.some.inj h
theorem qt {p : Prop} [Decidable p] : decide p = false ↔ ¬p := decide_eq_false_iff_not
theorem qu:type_of% @List.getD_eq_getElem?_getD:=@List.getD_eq_getElem?_getD
theorem qv:type_of% @if_neg:=@if_neg
theorem qw:type_of% @if_pos:=@if_pos
theorem qx:type_of% @decide_eq_false:=@decide_eq_false
theorem qy:type_of% @List.getElem?_eq_getElem:=@List.getElem?_eq_getElem
theorem qz:type_of% @decide_eq_true:=@decide_eq_true
theorem qA:type_of% @List.length_cons:=@List.length_cons
theorem qB:type_of% @List.length_map:=@List.length_map
theorem qC:type_of% @Nat.not_lt_zero:=@Nat.not_lt_zero
theorem qD:type_of% @Int.toNat_natCast:=@Int.toNat_natCast
theorem qE:type_of% @List.length_singleton:=@List.length_singleton
theorem qG:type_of% @List.take_of_length_le:=@List.take_of_length_le
theorem qH:type_of% @List.map_append:=@List.map_append
theorem qI:type_of% @Nat.zero_add:=@Nat.zero_add
theorem qJ:type_of% @List.map_cons:=@List.map_cons
theorem qK:type_of% @Bool.and_eq_true:=@Bool.and_eq_true
theorem qL:type_of% @List.foldl_cons:=@List.foldl_cons
theorem qM:type_of% @List.take_succ_eq_append_getElem:=@List.take_succ_eq_append_getElem
theorem qN:type_of% @Option.getD_some:=@Option.getD_some
theorem qO:type_of% @List.length_nil:=@List.length_nil
theorem qP:type_of% @List.length_replicate:=@List.length_replicate
theorem qQ:type_of% @List.getElem?_eq_none:=@List.getElem?_eq_none
theorem qR:type_of% @Array.length_toList:=@Array.length_toList
theorem qS:type_of% @Array.getD_eq_getD_getElem?:=@Array.getD_eq_getD_getElem?
theorem qT:type_of% @Bool.false_eq_true:=@Bool.false_eq_true
theorem qU:type_of% @List.getElem?_map:=@List.getElem?_map
theorem qV:type_of% @Nat.lt_succ_self:=@Nat.lt_succ_self
theorem qW:type_of% @List.getElem?_append_left:=@List.getElem?_append_left
theorem qX:type_of% @List.length_take:=@List.length_take
theorem qY:type_of% @List.mem_cons_of_mem:=@List.mem_cons_of_mem
theorem qZ:type_of% @List.foldl_append:=@List.foldl_append
theorem j0:type_of% @congrArg:=@congrArg
theorem j3:type_of% @List.take_length:=@List.take_length
theorem j4:type_of% @List.length_drop:=@List.length_drop
theorem j5:type_of% @List.mem_append_left:=@List.mem_append_left
theorem j6:type_of% @Bool.true_and:=@Bool.true_and
theorem j7:type_of% @List.append_nil:=@List.append_nil
theorem j8:type_of% @List.take_append_drop:=@List.take_append_drop
theorem j9:type_of% @Array.getElem?_toList:=@Array.getElem?_toList
theorem ja:type_of% @List.getD_cons_zero:=@List.getD_cons_zero
theorem jb:type_of% @List.length_set:=@List.length_set
theorem jc:type_of% @of_decide_eq_true:=@of_decide_eq_true
theorem jd:type_of% @Nat.le_succ:=@Nat.le_succ
theorem je:type_of% @List.mem_map_of_mem:=@List.mem_map_of_mem
theorem jf:type_of% @Nat.lt_succ_of_lt:=@Nat.lt_succ_of_lt
theorem jg:type_of% @List.mem_singleton:=@List.mem_singleton
theorem jh:type_of% @List.mem_cons_self:=@List.mem_cons_self
theorem ji:type_of% @List.getElem?_append_right:=@List.getElem?_append_right
theorem jj:type_of% @List.getElem_of_mem:=@List.getElem_of_mem
theorem jk:type_of% @Bool.eq_iff_iff:=@Bool.eq_iff_iff
theorem jl:type_of% @List.getElem_mem:=@List.getElem_mem
theorem jm:type_of% @List.cons_append:=@List.cons_append
theorem jn:type_of% @decide_eq_true_eq:=@decide_eq_true_eq
theorem jo:type_of% @Nat.eq_of_testBit_eq:=@Nat.eq_of_testBit_eq
theorem jp:type_of% @List.drop_of_length_le:=@List.drop_of_length_le
theorem jq:type_of% @Nat.le_of_lt:=@Nat.le_of_lt
theorem jr:type_of% @Int.ofNat.inj:=@Int.ofNat.inj
theorem jt:type_of% @if_false:=@if_false
theorem ju:type_of% @List.map_nil:=@List.map_nil
theorem jw:type_of% @Array.getElem?_eq_none:=@Array.getElem?_eq_none
theorem jx:type_of% @List.getElem_map:=@List.getElem_map
theorem jy:type_of% @List.flatten_append:=@List.flatten_append
theorem jz:type_of% @List.range_succ:=@List.range_succ
theorem jA:type_of% @List.mem_of_getElem?:=@List.mem_of_getElem?
theorem jB:type_of% @List.mem_map:=@List.mem_map
theorem jC:type_of% @Option.some.injEq:=@Option.some.injEq
theorem jD:type_of% @List.size_toArray:=@List.size_toArray
theorem jE:type_of% @List.drop_eq_getElem_cons:=@List.drop_eq_getElem_cons
theorem jF:type_of% @Nat.add_zero:=@Nat.add_zero
theorem jG:type_of% @Nat.eq_zero_or_pos:=@Nat.eq_zero_or_pos
theorem jH:type_of% @Int.eq_ofNat_of_zero_le:=@Int.eq_ofNat_of_zero_le
theorem jI:type_of% @List.flatten_singleton:=@List.flatten_singleton
theorem jJ:type_of% @if_true:=@if_true
theorem jK:type_of% @Nat.lt_irrefl:=@Nat.lt_irrefl
theorem jL:type_of% @Nat.add_assoc:=@Nat.add_assoc
theorem jM:type_of% @List.mem_cons:=@List.mem_cons
theorem jN:type_of% @Nat.add_mul:=@Nat.add_mul
theorem jO:type_of% @Bool.false_and:=@Bool.false_and
theorem jP:type_of% @Option.map_some:=@Option.map_some
theorem jQ:type_of% @List.getElem?_set:=@List.getElem?_set
theorem jR:type_of% @Nat.lt_or_ge:=@Nat.lt_or_ge
theorem jS:type_of% @Nat.testBit_mod_two_pow:=@Nat.testBit_mod_two_pow
theorem jT:type_of% @List.getElem?_replicate:=@List.getElem?_replicate
theorem jU:type_of% @List.filter_cons:=@List.filter_cons
theorem jV:type_of% @List.ext_getElem:=@List.ext_getElem
theorem jW:type_of% @Nat.mod_lt:=@Nat.mod_lt
theorem jX:type_of% @decide_eq_true_iff:=@decide_eq_true_iff
theorem jY:type_of% @Option.isSome_some:=@Option.isSome_some
theorem jZ:type_of% @Nat.testBit_two_pow_sub_succ:=@Nat.testBit_two_pow_sub_succ
theorem a6:type_of% @List.length_filter_le:=@List.length_filter_le
theorem a7:type_of% @beq_iff_eq:=@beq_iff_eq
theorem a8:type_of% @List.cons.inj:=@List.cons.inj
theorem a9:type_of% @List.mem_range:=@List.mem_range
theorem aA:type_of% @Nat.testBit_two_pow:=@Nat.testBit_two_pow
theorem aB:type_of% @List.flatMap_append:=@List.flatMap_append
theorem aC:type_of% @List.map_set:=@List.map_set
end Go.Cm
namespace Go.RowKit
theorem Hid.o {p : Prop} (h : Hid p) : p := h.out
end Go.RowKit
