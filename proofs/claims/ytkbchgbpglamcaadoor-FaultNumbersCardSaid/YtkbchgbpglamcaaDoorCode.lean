import Derived.Test.YtkbchgbpglamcaaDoorProg
import Derived.Test.YtkbchgbpglamcaaDoorFwZm
import Derived.KernelRfl
namespace Go.Proofs.YtkbchgbpglamcaaDoor.Code
set_option linter.unusedSimpArgs false
set_option linter.unusedVariables false
open Go.Fw
section prims
theorem pin_lt : 1 < pinsN := by decide
theorem nglob : Tryd.prog.globals.size = 1 := by kernel_rfl
theorem toType_run (t : Nat) (w : World) : (Go.Extern.ReflectliteType.toType t).run Tryd.prog w = .ok (.iface 65 (.agg #[.pointer (some ⟨1, t, none⟩)])) w := by kernel_rfl
theorem kind28 (w : World) : (Go.Extern.Rtype.kind 28).run Tryd.prog w = .ok 2 w := by kernel_rfl
theorem kind41 (w : World) : (Go.Extern.Rtype.kind 41).run Tryd.prog w = .ok 22 w := by kernel_rfl
theorem kind47 (w : World) : (Go.Extern.Rtype.kind 47).run Tryd.prog w = .ok 22 w := by kernel_rfl
theorem kind55 (w : World) : (Go.Extern.Rtype.kind 55).run Tryd.prog w = .ok 22 w := by kernel_rfl
theorem kind56 (w : World) : (Go.Extern.Rtype.kind 56).run Tryd.prog w = .ok 22 w := by kernel_rfl
theorem kind61 (w : World) : (Go.Extern.Rtype.kind 61).run Tryd.prog w = .ok 22 w := by kernel_rfl
theorem kinds_ok : ∀ p ∈ ([(28, 2), (41, 22), (47, 22), (55, 22), (56, 22), (61, 22)] : List (Nat × Nat)), ∀ w, (Go.Extern.Rtype.kind p.1).run Tryd.prog w = .ok p.2 w := by
  intro p hp
  simp only [List.mem_cons, List.not_mem_nil, or_false] at hp
  rcases hp with rfl | rfl | rfl | rfl | rfl | rfl
  · exact kind28
  · exact kind41
  · exact kind47
  · exact kind55
  · exact kind56
  · exact kind61
theorem ptrs_ok : ∀ p ∈ ([(55, 28, 2), (56, 41, 22)] : List (Nat × Nat × Nat)), PtrOk Tryd.prog p := by
  intro p hp
  simp only [List.mem_cons, List.not_mem_nil, or_false] at hp
  rcases hp with rfl | rfl
  · exact ⟨by kernel_rfl, by kernel_rfl, fun w => by kernel_rfl, kind28⟩
  · exact ⟨by kernel_rfl, by kernel_rfl, fun w => by kernel_rfl, kind41⟩
theorem sets_ok : ∀ t ∈ ([28, 41] : List Nat), aggOk Tryd.prog t false 1 = true ∧ Tryd.prog.packed t = false := by
  intro p hp
  simp only [List.mem_cons, List.not_mem_nil, or_false] at hp
  rcases hp with rfl | rfl
  · exact ⟨by kernel_rfl, by kernel_rfl⟩
  · exact ⟨by kernel_rfl, by kernel_rfl⟩
/-- internal/reflectlite.TypeOf -/
theorem prim22 : PrimOk Tryd.prog 22 (pTypeOf 65 1) := prim_of (e := Go.Extern.ReflectliteType.typeOf) (Entry.of Tryd.func22 (by kernel_rfl) (by kernel_rfl) (by kernel_rfl) (by kernel_rfl)) (typeOf_ok pin_lt toType_run)
/-- internal/reflectlite.ValueOf -/
theorem prim26 : PrimOk Tryd.prog 26 (pValueOf 1 [(28, 2), (41, 22), (47, 22), (55, 22), (56, 22), (61, 22)]) := prim_of (e := fun args => Go.Extern.ReflectliteValue.unpack (args.getD 0 (.tuple #[]))) (Entry.of Tryd.func26 (by kernel_rfl) (by kernel_rfl) (by kernel_rfl) (by kernel_rfl)) (valueOf_ok pin_lt nglob kinds_ok)
/-- (internal/reflectlite.Value).Type -/
theorem prim27 : PrimOk Tryd.prog 27 (pValueType 65 1) := prim_of (e := Go.Extern.ReflectliteValue.methodAny (Go.Extern.ReflectliteValue.valueError "reflectlite.Value.Type" 0) (fun t _ _ _ => Go.Extern.ReflectliteType.toType t)) (Entry.of Tryd.func27 (by kernel_rfl) (by kernel_rfl) (by kernel_rfl) (by kernel_rfl)) (valueType_ok pin_lt nglob toType_run)
/-- (internal/reflectlite.Value).IsNil -/
theorem prim28 : PrimOk Tryd.prog 28 (pIsNil 1 [(55, 28, 2), (56, 41, 22)]) := prim_of (e := Go.Extern.ReflectliteValue.method (Go.Extern.ReflectliteValue.valueError "reflectlite.Value.IsNil" 0) Go.Extern.ReflectliteValue.isNil) (Entry.of Tryd.func28 (by kernel_rfl) (by kernel_rfl) (by kernel_rfl) (by kernel_rfl)) (isNil_ok pin_lt nglob ptrs_ok)
/-- (internal/reflectlite.Value).Elem -/
theorem prim31 : PrimOk Tryd.prog 31 (pValueElem 1 [(55, 28, 2), (56, 41, 22)]) := prim_of (e := Go.Extern.ReflectliteValue.method (Go.Extern.ReflectliteValue.valueError "reflectlite.Value.Elem" 0) Go.Extern.ReflectliteValue.elem) (Entry.of Tryd.func31 (by kernel_rfl) (by kernel_rfl) (by kernel_rfl) (by kernel_rfl)) (valueElem_ok pin_lt nglob ptrs_ok)
/-- (internal/reflectlite.Value).Set -/
theorem prim32 : PrimOk Tryd.prog 32 (pSet 1 [28, 41]) := prim_of (e := Go.Extern.ReflectliteValue.set) (Entry.of Tryd.func32 (by kernel_rfl) (by kernel_rfl) (by kernel_rfl) (by kernel_rfl)) (set_ok pin_lt nglob sets_ok)
/-- (*internal/abi.Type).Kind -/
def tab47 : List (List AVal × AVal) := [([.ptr 1 28], .int .u8 2), ([.ptr 1 41], .int .u8 22), ([.ptr 1 47], .int .u8 22), ([.ptr 1 55], .int .u8 22), ([.ptr 1 56], .int .u8 22), ([.ptr 1 61], .int .u8 22)]
theorem tab47_ok : ∀ p ∈ tab47, CFacts Tryd.prog 1 (Go.Extern.ReflectliteType.abiMethod fun t => do pure (.int .u8 (← Go.Extern.Rtype.kind t))) p := by
  intro p hp
  simp only [tab47, List.mem_cons, List.not_mem_nil, or_false] at hp
  rcases hp with rfl | rfl | rfl | rfl | rfl | rfl
  · exact ⟨[.pointer (some ⟨1, 28, none⟩)], .int .u8 2, rfl, rfl, fun w => by kernel_rfl⟩
  · exact ⟨[.pointer (some ⟨1, 41, none⟩)], .int .u8 22, rfl, rfl, fun w => by kernel_rfl⟩
  · exact ⟨[.pointer (some ⟨1, 47, none⟩)], .int .u8 22, rfl, rfl, fun w => by kernel_rfl⟩
  · exact ⟨[.pointer (some ⟨1, 55, none⟩)], .int .u8 22, rfl, rfl, fun w => by kernel_rfl⟩
  · exact ⟨[.pointer (some ⟨1, 56, none⟩)], .int .u8 22, rfl, rfl, fun w => by kernel_rfl⟩
  · exact ⟨[.pointer (some ⟨1, 61, none⟩)], .int .u8 22, rfl, rfl, fun w => by kernel_rfl⟩
/-- (*internal/abi.Type).Kind -/
theorem prim47 : PrimOk Tryd.prog 47 (pClosed tab47) := prim_of (e := Go.Extern.ReflectliteType.abiMethod fun t => do pure (.int .u8 (← Go.Extern.Rtype.kind t))) (Entry.of Tryd.func47 (by kernel_rfl) (by kernel_rfl) (by kernel_rfl) (by kernel_rfl)) (closed_ok pin_lt tab47_ok)
/-- (internal/reflectlite.rtype).AssignableTo -/
def tab54 : List (List AVal × AVal) := [([.agg [.ptr 1 28], .iface 65 (.agg [.ptr 1 28])], .bool true), ([.agg [.ptr 1 28], .iface 65 (.agg [.ptr 1 41])], .bool false), ([.agg [.ptr 1 41], .iface 65 (.agg [.ptr 1 28])], .bool false), ([.agg [.ptr 1 41], .iface 65 (.agg [.ptr 1 41])], .bool true), ([.agg [.ptr 1 47], .iface 65 (.agg [.ptr 1 28])], .bool false), ([.agg [.ptr 1 47], .iface 65 (.agg [.ptr 1 41])], .bool false), ([.agg [.ptr 1 55], .iface 65 (.agg [.ptr 1 28])], .bool false), ([.agg [.ptr 1 55], .iface 65 (.agg [.ptr 1 41])], .bool false), ([.agg [.ptr 1 61], .iface 65 (.agg [.ptr 1 28])], .bool false), ([.agg [.ptr 1 61], .iface 65 (.agg [.ptr 1 41])], .bool false)]
theorem tab54_ok : ∀ p ∈ tab54, CFacts Tryd.prog 1 (Go.Extern.ReflectliteType.relation "AssignableTo" Go.Extern.ReflectliteType.assignableTo) p := by
  intro p hp
  simp only [tab54, List.mem_cons, List.not_mem_nil, or_false] at hp
  rcases hp with rfl | rfl | rfl | rfl | rfl | rfl | rfl | rfl | rfl | rfl
  · exact ⟨[.agg #[.pointer (some ⟨1, 28, none⟩)], .iface 65 (.agg #[.pointer (some ⟨1, 28, none⟩)])], .bool true, rfl, rfl, fun w => by kernel_rfl⟩
  · exact ⟨[.agg #[.pointer (some ⟨1, 28, none⟩)], .iface 65 (.agg #[.pointer (some ⟨1, 41, none⟩)])], .bool false, rfl, rfl, fun w => by kernel_rfl⟩
  · exact ⟨[.agg #[.pointer (some ⟨1, 41, none⟩)], .iface 65 (.agg #[.pointer (some ⟨1, 28, none⟩)])], .bool false, rfl, rfl, fun w => by kernel_rfl⟩
  · exact ⟨[.agg #[.pointer (some ⟨1, 41, none⟩)], .iface 65 (.agg #[.pointer (some ⟨1, 41, none⟩)])], .bool true, rfl, rfl, fun w => by kernel_rfl⟩
  · exact ⟨[.agg #[.pointer (some ⟨1, 47, none⟩)], .iface 65 (.agg #[.pointer (some ⟨1, 28, none⟩)])], .bool false, rfl, rfl, fun w => by kernel_rfl⟩
  · exact ⟨[.agg #[.pointer (some ⟨1, 47, none⟩)], .iface 65 (.agg #[.pointer (some ⟨1, 41, none⟩)])], .bool false, rfl, rfl, fun w => by kernel_rfl⟩
  · exact ⟨[.agg #[.pointer (some ⟨1, 55, none⟩)], .iface 65 (.agg #[.pointer (some ⟨1, 28, none⟩)])], .bool false, rfl, rfl, fun w => by kernel_rfl⟩
  · exact ⟨[.agg #[.pointer (some ⟨1, 55, none⟩)], .iface 65 (.agg #[.pointer (some ⟨1, 41, none⟩)])], .bool false, rfl, rfl, fun w => by kernel_rfl⟩
  · exact ⟨[.agg #[.pointer (some ⟨1, 61, none⟩)], .iface 65 (.agg #[.pointer (some ⟨1, 28, none⟩)])], .bool false, rfl, rfl, fun w => by kernel_rfl⟩
  · exact ⟨[.agg #[.pointer (some ⟨1, 61, none⟩)], .iface 65 (.agg #[.pointer (some ⟨1, 41, none⟩)])], .bool false, rfl, rfl, fun w => by kernel_rfl⟩
/-- (internal/reflectlite.rtype).AssignableTo -/
theorem prim54 : PrimOk Tryd.prog 54 (pClosed tab54) := prim_of (e := Go.Extern.ReflectliteType.relation "AssignableTo" Go.Extern.ReflectliteType.assignableTo) (Entry.of Tryd.func54 (by kernel_rfl) (by kernel_rfl) (by kernel_rfl) (by kernel_rfl)) (closed_ok pin_lt tab54_ok)
/-- (internal/reflectlite.rtype).Comparable -/
def tab55 : List (List AVal × AVal) := [([.agg [.ptr 1 28]], .bool true), ([.agg [.ptr 1 41]], .bool true), ([.agg [.ptr 1 47]], .bool true), ([.agg [.ptr 1 55]], .bool true), ([.agg [.ptr 1 61]], .bool true)]
theorem tab55_ok : ∀ p ∈ tab55, CFacts Tryd.prog 1 (Go.Extern.ReflectliteType.method fun t => do Go.Extern.Rtype.noPackHeld "Comparable" t; pure (.bool (← typeInfo t).comparable)) p := by
  intro p hp
  simp only [tab55, List.mem_cons, List.not_mem_nil, or_false] at hp
  rcases hp with rfl | rfl | rfl | rfl | rfl
  · exact ⟨[.agg #[.pointer (some ⟨1, 28, none⟩)]], .bool true, rfl, rfl, fun w => by kernel_rfl⟩
  · exact ⟨[.agg #[.pointer (some ⟨1, 41, none⟩)]], .bool true, rfl, rfl, fun w => by kernel_rfl⟩
  · exact ⟨[.agg #[.pointer (some ⟨1, 47, none⟩)]], .bool true, rfl, rfl, fun w => by kernel_rfl⟩
  · exact ⟨[.agg #[.pointer (some ⟨1, 55, none⟩)]], .bool true, rfl, rfl, fun w => by kernel_rfl⟩
  · exact ⟨[.agg #[.pointer (some ⟨1, 61, none⟩)]], .bool true, rfl, rfl, fun w => by kernel_rfl⟩
/-- (internal/reflectlite.rtype).Comparable -/
theorem prim55 : PrimOk Tryd.prog 55 (pClosed tab55) := prim_of (e := Go.Extern.ReflectliteType.method fun t => do Go.Extern.Rtype.noPackHeld "Comparable" t; pure (.bool (← typeInfo t).comparable)) (Entry.of Tryd.func55 (by kernel_rfl) (by kernel_rfl) (by kernel_rfl) (by kernel_rfl)) (closed_ok pin_lt tab55_ok)
/-- (internal/reflectlite.rtype).Elem -/
def tab56 : List (List AVal × AVal) := [([.agg [.ptr 1 55]], .iface 65 (.agg [.ptr 1 28])), ([.agg [.ptr 1 56]], .iface 65 (.agg [.ptr 1 41]))]
theorem tab56_ok : ∀ p ∈ tab56, CFacts Tryd.prog 1 (Go.Extern.ReflectliteType.method Go.Extern.ReflectliteType.elem) p := by
  intro p hp
  simp only [tab56, List.mem_cons, List.not_mem_nil, or_false] at hp
  rcases hp with rfl | rfl
  · exact ⟨[.agg #[.pointer (some ⟨1, 55, none⟩)]], .iface 65 (.agg #[.pointer (some ⟨1, 28, none⟩)]), rfl, rfl, fun w => by kernel_rfl⟩
  · exact ⟨[.agg #[.pointer (some ⟨1, 56, none⟩)]], .iface 65 (.agg #[.pointer (some ⟨1, 41, none⟩)]), rfl, rfl, fun w => by kernel_rfl⟩
/-- (internal/reflectlite.rtype).Elem -/
theorem prim56 : PrimOk Tryd.prog 56 (pClosed tab56) := prim_of (e := Go.Extern.ReflectliteType.method Go.Extern.ReflectliteType.elem) (Entry.of Tryd.func56 (by kernel_rfl) (by kernel_rfl) (by kernel_rfl) (by kernel_rfl)) (closed_ok pin_lt tab56_ok)
/-- (internal/reflectlite.rtype).Implements -/
def tab57 : List (List AVal × AVal) := [([.agg [.ptr 1 28], .iface 65 (.agg [.ptr 1 24])], .bool true), ([.agg [.ptr 1 41], .iface 65 (.agg [.ptr 1 24])], .bool true)]
theorem tab57_ok : ∀ p ∈ tab57, CFacts Tryd.prog 1 (Go.Extern.ReflectliteType.relation "Implements" Go.Extern.ReflectliteType.implements_) p := by
  intro p hp
  simp only [tab57, List.mem_cons, List.not_mem_nil, or_false] at hp
  rcases hp with rfl | rfl
  · exact ⟨[.agg #[.pointer (some ⟨1, 28, none⟩)], .iface 65 (.agg #[.pointer (some ⟨1, 24, none⟩)])], .bool true, rfl, rfl, fun w => by kernel_rfl⟩
  · exact ⟨[.agg #[.pointer (some ⟨1, 41, none⟩)], .iface 65 (.agg #[.pointer (some ⟨1, 24, none⟩)])], .bool true, rfl, rfl, fun w => by kernel_rfl⟩
/-- (internal/reflectlite.rtype).Implements -/
theorem prim57 : PrimOk Tryd.prog 57 (pClosed tab57) := prim_of (e := Go.Extern.ReflectliteType.relation "Implements" Go.Extern.ReflectliteType.implements_) (Entry.of Tryd.func57 (by kernel_rfl) (by kernel_rfl) (by kernel_rfl) (by kernel_rfl)) (closed_ok pin_lt tab57_ok)
end prims

/-- frankpledge/frankpledgelaw1.FaultOthers -/
noncomputable def A3 : AFunc := ⟨2, (.seq (.region [.op 0 (.mov 4 (.const (.bool false)))] [])
 (.seq (.seq (.region [.op 0 (.mov 8 (.tmp 0)),
 .op 1 (.len 9 false (.tmp 8)),
 .op 2 (.bin 10 .gtr .plain (.tmp 9) (.const (.int .i64 9)))] [])
 (.join [(.normal, ⟨[0, 1], []⟩)] (.cond (.tmp 10)
 (.region [.op 0 (.mov 11 (.tmp 0)),
 .op 1 (.slice 12 (.sl 1) (.tmp 11) none (some (.const (.int .i64 9))) none),
 .op 2 (.mov 0 (.tmp 12))] [])
 .skip)))
 (.seq (.region [.op 0 (.mov 13 (.tmp 1)),
 .op 1 (.call 14 7 [.tmp 13]),
 .op 2 (.mov 5 (.tmp 14))] [])
 (.seq (.region [.op 0 (.mov 15 (.tmp 5)),
 .op 1 (.mov 6 (.tmp 15))] [])
 (.seq (.seq (.region [.op 0 (.mov 16 (.tmp 0)),
 .op 1 (.len 17 false (.tmp 16)),
 .op 2 (.bin 18 .sub .plain (.tmp 17) (.const (.int .i64 1))),
 .op 3 (.mov 7 (.tmp 18))] [])
 (.block 0 (.loop ⟨[0, 5, 6, 7], []⟩ [((.exit 0), ⟨[0, 5, 6], []⟩)]
 (.seq (.seq (.region [.op 0 (.mov 19 (.tmp 7)),
 .op 1 (.bin 20 .geq .plain (.tmp 19) (.const (.int .i64 0)))] [])
 (.cond (.tmp 20)
 .skip
 (.exit 0)))
 (.seq (.block 1 (.region [.op 0 (.mov 23 (.tmp 0)),
 .op 1 (.mov 24 (.tmp 7)),
 .op 2 (.iaddr 25 none 1 (.tmp 23) (.tmp 24)),
 .op 3 (.load 26 false 1 (.tmp 25)),
 .op 4 (.mov 27 (.tmp 6)),
 .op 5 (.call 28 8 [.tmp 26, .tmp 27]),
 .op 6 (.mov 6 (.tmp 28))] []))
 (.region [.op 0 (.mov 21 (.tmp 7)),
 .op 1 (.bin 22 .sub .plain (.tmp 21) (.const (.int .i64 1))),
 .op 2 (.mov 7 (.tmp 22))] []))))))
 (.seq (.region [.op 0 (.mov 29 (.tmp 6)),
 .op 1 (.bin 30 .neq (.iface true []) (.tmp 29) (.const (.nilIface))),
 .op 2 (.mov 31 (.tmp 30)),
 .guard 31 true [.op 3 (.mov 32 (.tmp 6)),
 .op 4 (.mov 33 (.tmp 5)),
 .op 5 (.call 34 9 [.tmp 32, .tmp 33])] [] [34],
 .op 6 (.pick 35 (.tmp 31) (.tmp 34) (.const (.bool false))),
 .op 7 (.mov 36 (.tmp 35)),
 .guard 36 true [.op 8 (.mov 37 (.tmp 6)),
 .op 9 (.call 38 10 [.tmp 37]),
 .op 10 (.bin 39 .eql .plain (.tmp 38) (.const (.int .i64 14)))] [] [39],
 .op 11 (.pick 40 (.tmp 36) (.tmp 39) (.const (.bool false))),
 .op 12 (.mov 41 (.tmp 40)),
 .guard 41 true [.op 13 (.mov 42 (.tmp 6)),
 .op 14 (.call 43 12 [.tmp 42]),
 .op 15 (.mov 44 (.tmp 0)),
 .op 16 (.call 45 11 [.tmp 43, .tmp 44])] [] [45],
 .op 17 (.pick 46 (.tmp 41) (.tmp 45) (.const (.bool false))),
 .op 18 (.mov 47 (.tmp 46)),
 .guard 47 true [.op 19 (.mov 48 (.tmp 6)),
 .op 20 (.call 49 13 [.tmp 48, .const (.int .i64 14)]),
 .op 21 (.un 50 .not (.tmp 49))] [] [50],
 .op 22 (.pick 51 (.tmp 47) (.tmp 50) (.const (.bool false))),
 .op 23 (.mov 52 (.tmp 51)),
 .guard 52 true [.op 24 (.call 53 14 [])] [] [53],
 .op 25 (.pick 54 (.tmp 52) (.tmp 53) (.const (.bool false))),
 .op 26 (.mov 4 (.tmp 54))] [])
 .ret)))))),
 [.tmp 4]⟩
theorem ok3 : funcOk Tryd.prog (drawOk Tryd.prog) Tryd.f3 A3 = true := by kernel_rfl
/-- xs: t0, t5, t6, t7 -/
noncomputable def L3_0 (call : Go.Fw.Call) (xs : List AVal) (h : Heap) : Option J :=
 (aBin .geq .plain (xs.getD 3 .undef) (.int .i64 0)).bind fun v8 =>
 condV v8
 ((aIaddr 1 (xs.getD 0 .undef) (xs.getD 3 .undef)).bind fun v9 =>
 (aLoad h 1 v9).bind fun c10 =>
 (fromCells false c10).bind fun v11 =>
 (call 8 [v11, (xs.getD 2 .undef)] h).bind fun r12 =>
 (aBin .sub .plain (xs.getD 3 .undef) (.int .i64 1)).bind fun v13 =>
 some (0, [(xs.getD 0 .undef), (xs.getD 1 .undef), r12.1, v13], r12.2))
 (some (1, [(xs.getD 0 .undef), (xs.getD 1 .undef), (xs.getD 2 .undef)], h))
noncomputable def S3 (call : Go.Fw.Call) (a0 a1 : AVal) (h : Heap) : Option J :=
 (aLen false a0).bind fun v1 =>
 (aBin .gtr .plain v1 (.int .i64 9)).bind fun v2 =>
 (condV v2
 ((aSliceSl 1 a0 none (some (.int .i64 9)) none).bind fun v3 =>
 some (0, [v3, a1], h))
 (some (0, [a0, a1], h))).bind fun x4 =>
 bif Nat.beq x4.1 0 then (call 7 [(x4.2.1.getD 1 .undef)] x4.2.2).bind fun r5 =>
 (aLen false (x4.2.1.getD 0 .undef)).bind fun v6 =>
 (aBin .sub .plain v6 (.int .i64 1)).bind fun v7 =>
 (loop (L3_0 call) [(x4.2.1.getD 0 .undef), r5.1, r5.1, v7] r5.2).bind fun x14 =>
 bif Nat.beq x14.1 1 then (aBin .neq (.iface true []) (x14.2.1.getD 2 .undef) (.nilIface)).bind fun v15 =>
 (guardV v15 true
 ((call 9 [(x14.2.1.getD 2 .undef), (x14.2.1.getD 1 .undef)] x14.2.2).bind fun r16 =>
 some (0, [r16.1], r16.2))
 (some (0, [skipV], x14.2.2))).bind fun g17 =>
 (aPick v15 (g17.2.1.getD 0 .undef) (.bool false)).bind fun v18 =>
 (guardV v18 true
 ((call 10 [(x14.2.1.getD 2 .undef)] g17.2.2).bind fun r19 =>
 (aBin .eql .plain r19.1 (.int .i64 14)).bind fun v20 =>
 some (0, [v20], r19.2))
 (some (0, [skipV], g17.2.2))).bind fun g21 =>
 (aPick v18 (g21.2.1.getD 0 .undef) (.bool false)).bind fun v22 =>
 (guardV v22 true
 ((call 12 [(x14.2.1.getD 2 .undef)] g21.2.2).bind fun r23 =>
 (call 11 [r23.1, (x14.2.1.getD 0 .undef)] r23.2).bind fun r24 =>
 some (0, [r24.1], r24.2))
 (some (0, [skipV], g21.2.2))).bind fun g25 =>
 (aPick v22 (g25.2.1.getD 0 .undef) (.bool false)).bind fun v26 =>
 (guardV v26 true
 ((call 13 [(x14.2.1.getD 2 .undef), (.int .i64 14)] g25.2.2).bind fun r27 =>
 (aUn .not r27.1).bind fun v28 =>
 some (0, [v28], r27.2))
 (some (0, [skipV], g25.2.2))).bind fun g29 =>
 (aPick v26 (g29.2.1.getD 0 .undef) (.bool false)).bind fun v30 =>
 (guardV v30 true
 ((call 14 [] g29.2.2).bind fun r31 =>
 some (0, [r31.1], r31.2))
 (some (0, [skipV], g29.2.2))).bind fun g32 =>
 (aPick v30 (g32.2.1.getD 0 .undef) (.bool false)).bind fun v33 =>
 some (0, [v33], g32.2.2) else
 none else
 none
theorem run3 (call : Go.Fw.Call) (a0 a1 : AVal) (h : Heap) : runFn call (.code A3) [a0, a1] h = (S3 call a0 a1 h).bind ansOf := by kernel_rfl

/-- frankpledge/frankpledgelaw1.FaultTells -/
noncomputable def A4 : AFunc := ⟨2, (.seq (.region [.op 0 (.mov 4 (.const (.bool false)))] [])
 (.seq (.seq (.region [.op 0 (.mov 5 (.tmp 0)),
 .op 1 (.len 6 false (.tmp 5)),
 .op 2 (.bin 7 .gtr .plain (.tmp 6) (.const (.int .i64 12)))] [])
 (.join [(.normal, ⟨[0, 1], []⟩)] (.cond (.tmp 7)
 (.region [.op 0 (.mov 8 (.tmp 0)),
 .op 1 (.slice 9 (.sl 1) (.tmp 8) none (some (.const (.int .i64 12))) none),
 .op 2 (.mov 0 (.tmp 9))] [])
 .skip)))
 (.seq (.region [.op 0 (.mov 10 (.tmp 0)),
 .op 1 (.mov 11 (.tmp 1)),
 .op 2 (.bin 12 .and .plain (.tmp 11) (.const (.int .i64 31))),
 .op 3 (.call 13 15 [.tmp 10, .tmp 12]),
 .op 4 (.mov 14 (.tmp 13)),
 .guard 14 true [.op 5 (.mov 15 (.tmp 0)),
 .op 6 (.mov 16 (.tmp 1)),
 .op 7 (.bin 17 .or .plain (.tmp 16) (.const (.int .i64 1))),
 .op 8 (.call 18 15 [.tmp 15, .tmp 17])] [] [18],
 .op 9 (.pick 19 (.tmp 14) (.tmp 18) (.const (.bool false))),
 .op 10 (.mov 20 (.tmp 19)),
 .guard 20 true [.op 11 (.call 21 14 [])] [] [21],
 .op 12 (.pick 22 (.tmp 20) (.tmp 21) (.const (.bool false))),
 .op 13 (.mov 4 (.tmp 22))] [])
 .ret))),
 [.tmp 4]⟩
theorem ok4 : funcOk Tryd.prog (drawOk Tryd.prog) Tryd.f4 A4 = true := by kernel_rfl
noncomputable def S4 (call : Go.Fw.Call) (a0 a1 : AVal) (h : Heap) : Option J :=
 (aLen false a0).bind fun v1 =>
 (aBin .gtr .plain v1 (.int .i64 12)).bind fun v2 =>
 (condV v2
 ((aSliceSl 1 a0 none (some (.int .i64 12)) none).bind fun v3 =>
 some (0, [v3, a1], h))
 (some (0, [a0, a1], h))).bind fun x4 =>
 bif Nat.beq x4.1 0 then (aBin .and .plain (x4.2.1.getD 1 .undef) (.int .i64 31)).bind fun v5 =>
 (call 15 [(x4.2.1.getD 0 .undef), v5] x4.2.2).bind fun r6 =>
 (guardV r6.1 true
 ((aBin .or .plain (x4.2.1.getD 1 .undef) (.int .i64 1)).bind fun v7 =>
 (call 15 [(x4.2.1.getD 0 .undef), v7] r6.2).bind fun r8 =>
 some (0, [r8.1], r8.2))
 (some (0, [skipV], r6.2))).bind fun g9 =>
 (aPick r6.1 (g9.2.1.getD 0 .undef) (.bool false)).bind fun v10 =>
 (guardV v10 true
 ((call 14 [] g9.2.2).bind fun r11 =>
 some (0, [r11.1], r11.2))
 (some (0, [skipV], g9.2.2))).bind fun g12 =>
 (aPick v10 (g12.2.1.getD 0 .undef) (.bool false)).bind fun v13 =>
 some (0, [v13], g12.2.2) else
 none
theorem run4 (call : Go.Fw.Call) (a0 a1 : AVal) (h : Heap) : runFn call (.code A4) [a0, a1] h = (S4 call a0 a1 h).bind ansOf := by kernel_rfl

/-- frankpledge/frankpledgelaw1.FaultWraps -/
noncomputable def A5 : AFunc := ⟨3, (.seq (.region [.op 0 (.mov 6 (.const (.bool false)))] [])
 (.seq (.seq (.region [.op 0 (.mov 13 (.tmp 0)),
 .op 1 (.len 14 false (.tmp 13)),
 .op 2 (.bin 15 .gtr .plain (.tmp 14) (.const (.int .i64 9)))] [])
 (.join [(.normal, ⟨[0, 1, 2], []⟩)] (.cond (.tmp 15)
 (.region [.op 0 (.mov 16 (.tmp 0)),
 .op 1 (.slice 17 (.sl 1) (.tmp 16) none (some (.const (.int .i64 9))) none),
 .op 2 (.mov 0 (.tmp 17))] [])
 .skip)))
 (.seq (.region [.op 0 (.mov 18 (.tmp 2)),
 .op 1 (.bin 19 .and .plain (.tmp 18) (.const (.int .i64 15))),
 .op 2 (.bin 20 .add .plain (.const (.int .i64 1)) (.tmp 19)),
 .op 3 (.mov 7 (.tmp 20))] [])
 (.seq (.region [.op 0 (.buildSl 21 [.str []] 1 0 []),
 .op 1 (.mov 22 (.tmp 0)),
 .op 2 (.append 23 1 16 [.str []] false (.tmp 21) (.tmp 22)),
 .op 3 (.buildSl 24 [.str []] 1 1 [(0, .const (.str [108, 97, 115, 116]))]),
 .op 4 (.append 25 1 16 [.str []] false (.tmp 23) (.tmp 24)),
 .op 5 (.mov 26 (.tmp 7)),
 .op 6 (.call 27 16 [.tmp 25, .tmp 26]),
 .op 7 (.mov 8 (.tmp 27))] [])
 (.seq (.region [.op 0 (.mov 28 (.tmp 1)),
 .op 1 (.mov 29 (.tmp 8)),
 .op 2 (.call 30 8 [.tmp 28, .tmp 29]),
 .op 3 (.mov 9 (.tmp 30))] [])
 (.seq (.seq (.region [.op 0 (.mov 31 (.tmp 8)),
 .op 1 (.bin 32 .eql (.iface true []) (.tmp 31) (.const (.nilIface))),
 .op 2 (.mov 33 (.tmp 32)),
 .guard 33 false [.op 3 (.mov 34 (.tmp 9)),
 .op 4 (.bin 35 .eql (.iface true []) (.tmp 34) (.const (.nilIface)))] [] [35],
 .op 5 (.pick 36 (.tmp 33) (.const (.bool true)) (.tmp 35)),
 .op 6 (.mov 37 (.tmp 36)),
 .guard 37 false [.op 7 (.mov 38 (.tmp 9)),
 .op 8 (.call 39 10 [.tmp 38]),
 .op 9 (.mov 40 (.tmp 7)),
 .op 10 (.bin 41 .neq .plain (.tmp 39) (.tmp 40))] [] [41],
 .op 11 (.pick 42 (.tmp 37) (.const (.bool true)) (.tmp 41)),
 .op 12 (.mov 43 (.tmp 42)),
 .guard 43 false [.op 13 (.mov 44 (.tmp 8)),
 .op 14 (.call 45 10 [.tmp 44]),
 .op 15 (.mov 46 (.tmp 7)),
 .op 16 (.bin 47 .neq .plain (.tmp 45) (.tmp 46))] [] [47],
 .op 17 (.pick 48 (.tmp 43) (.const (.bool true)) (.tmp 47))] [])
 (.cond (.tmp 48)
 (.seq (.region [.op 0 (.mov 6 (.const (.bool false)))] [])
 .ret)
 .skip))
 (.seq (.region [.op 0 (.mov 49 (.tmp 8)),
 .op 1 (.call 50 12 [.tmp 49]),
 .op 2 (.mov 51 (.tmp 9)),
 .op 3 (.call 52 12 [.tmp 51]),
 .op 4 (.mov 10 (.tmp 50)),
 .op 5 (.mov 11 (.tmp 52))] [])
 (.seq (.region [.op 0 (.mov 53 (.tmp 9)),
 .op 1 (.call 54 17 [.tmp 53]),
 .op 2 (.mov 12 (.tmp 54))] [])
 (.seq (.region [.op 0 (.mov 55 (.tmp 11)),
 .op 1 (.len 56 false (.tmp 55)),
 .op 2 (.mov 57 (.tmp 10)),
 .op 3 (.len 58 false (.tmp 57)),
 .op 4 (.bin 59 .add .plain (.tmp 58) (.const (.int .i64 1))),
 .op 5 (.bin 60 .eql .plain (.tmp 56) (.tmp 59)),
 .op 6 (.mov 61 (.tmp 60)),
 .guard 61 true [.op 7 (.mov 62 (.tmp 11)),
 .op 8 (.iaddr 63 none 1 (.tmp 62) (.const (.int .i64 0))),
 .op 9 (.load 64 false 1 (.tmp 63)),
 .op 10 (.mov 65 (.tmp 1)),
 .op 11 (.bin 66 .eql .plain (.tmp 64) (.tmp 65))] [] [66],
 .op 12 (.pick 67 (.tmp 61) (.tmp 66) (.const (.bool false))),
 .op 13 (.mov 68 (.tmp 67)),
 .guard 68 true [.op 14 (.mov 69 (.tmp 11)),
 .op 15 (.slice 70 (.sl 1) (.tmp 69) (some (.const (.int .i64 1))) none none),
 .op 16 (.mov 71 (.tmp 10)),
 .op 17 (.call 72 11 [.tmp 70, .tmp 71])] [] [72],
 .op 18 (.pick 73 (.tmp 68) (.tmp 72) (.const (.bool false))),
 .op 19 (.mov 74 (.tmp 73)),
 .guard 74 true [.op 20 (.mov 75 (.tmp 12)),
 .op 21 (.bin 76 .neq (.iface true []) (.tmp 75) (.const (.nilIface)))] [] [76],
 .op 22 (.pick 77 (.tmp 74) (.tmp 76) (.const (.bool false))),
 .op 23 (.mov 78 (.tmp 77)),
 .guard 78 true [.op 24 (.mov 79 (.tmp 12)),
 .op 25 (.call 80 12 [.tmp 79]),
 .op 26 (.mov 81 (.tmp 10)),
 .op 27 (.call 82 11 [.tmp 80, .tmp 81])] [] [82],
 .op 28 (.pick 83 (.tmp 78) (.tmp 82) (.const (.bool false))),
 .op 29 (.mov 84 (.tmp 83)),
 .guard 84 true [.op 30 (.mov 85 (.tmp 9)),
 .op 31 (.invoke 86 [(28, 30, none), (41, 20, none), (47, 50, none), (61, 51, none)] (.tmp 85) []),
 .op 32 (.mov 87 (.tmp 1)),
 .op 33 (.bin 88 .add .plain (.tmp 87) (.const (.str [58, 32]))),
 .op 34 (.mov 89 (.tmp 8)),
 .op 35 (.invoke 90 [(28, 30, none), (41, 20, none), (47, 50, none), (61, 51, none)] (.tmp 89) []),
 .op 36 (.bin 91 .add .plain (.tmp 88) (.tmp 90)),
 .op 37 (.bin 92 .eql .plain (.tmp 86) (.tmp 91))] [] [92],
 .op 38 (.pick 93 (.tmp 84) (.tmp 92) (.const (.bool false))),
 .op 39 (.mov 94 (.tmp 93)),
 .guard 94 true [.op 40 (.call 95 14 [])] [] [95],
 .op 41 (.pick 96 (.tmp 94) (.tmp 95) (.const (.bool false))),
 .op 42 (.mov 6 (.tmp 96))] [])
 .ret))))))))),
 [.tmp 6]⟩
theorem ok5 : funcOk Tryd.prog (drawOk Tryd.prog) Tryd.f5 A5 = true := by kernel_rfl
noncomputable def S5 (call : Go.Fw.Call) (a0 a1 a2 : AVal) (h : Heap) : Option J :=
 (aLen false a0).bind fun v1 =>
 (aBin .gtr .plain v1 (.int .i64 9)).bind fun v2 =>
 (condV v2
 ((aSliceSl 1 a0 none (some (.int .i64 9)) none).bind fun v3 =>
 some (0, [v3, a1, a2], h))
 (some (0, [a0, a1, a2], h))).bind fun x4 =>
 bif Nat.beq x4.1 0 then (aBin .and .plain (x4.2.1.getD 2 .undef) (.int .i64 15)).bind fun v5 =>
 (aBin .add .plain (.int .i64 1) v5).bind fun v6 =>
 (aFill (reps [.str []] 0) []).bind fun c7 =>
 (aAppend 1 16 [.str []] false (.slice x4.2.2.next 0 0 0 1 true) (x4.2.1.getD 0 .undef) (x4.2.2.alloc c7)).bind fun r8 =>
 (aFill (reps [.str []] 1) [(0, 1, (.str [108, 97, 115, 116]))]).bind fun c9 =>
 (aAppend 1 16 [.str []] false r8.1 (.slice r8.2.next 0 1 1 1 true) (r8.2.alloc c9)).bind fun r10 =>
 (call 16 [r10.1, v6] r10.2).bind fun r11 =>
 (call 8 [(x4.2.1.getD 1 .undef), r11.1] r11.2).bind fun r12 =>
 (aBin .eql (.iface true []) r11.1 (.nilIface)).bind fun v13 =>
 (guardV v13 false
 ((aBin .eql (.iface true []) r12.1 (.nilIface)).bind fun v14 =>
 some (0, [v14], r12.2))
 (some (0, [skipV], r12.2))).bind fun g15 =>
 (aPick v13 (.bool true) (g15.2.1.getD 0 .undef)).bind fun v16 =>
 (guardV v16 false
 ((call 10 [r12.1] g15.2.2).bind fun r17 =>
 (aBin .neq .plain r17.1 v6).bind fun v18 =>
 some (0, [v18], r17.2))
 (some (0, [skipV], g15.2.2))).bind fun g19 =>
 (aPick v16 (.bool true) (g19.2.1.getD 0 .undef)).bind fun v20 =>
 (guardV v20 false
 ((call 10 [r11.1] g19.2.2).bind fun r21 =>
 (aBin .neq .plain r21.1 v6).bind fun v22 =>
 some (0, [v22], r21.2))
 (some (0, [skipV], g19.2.2))).bind fun g23 =>
 (aPick v20 (.bool true) (g23.2.1.getD 0 .undef)).bind fun v24 =>
 condV v24
 (some (0, [(.bool false)], g23.2.2))
 ((call 12 [r11.1] g23.2.2).bind fun r25 =>
 (call 12 [r12.1] r25.2).bind fun r26 =>
 (call 17 [r12.1] r26.2).bind fun r27 =>
 (aLen false r26.1).bind fun v28 =>
 (aLen false r25.1).bind fun v29 =>
 (aBin .add .plain v29 (.int .i64 1)).bind fun v30 =>
 (aBin .eql .plain v28 v30).bind fun v31 =>
 (guardV v31 true
 ((aIaddr 1 r26.1 (.int .i64 0)).bind fun v32 =>
 (aLoad r27.2 1 v32).bind fun c33 =>
 (fromCells false c33).bind fun v34 =>
 (aBin .eql .plain v34 (x4.2.1.getD 1 .undef)).bind fun v35 =>
 some (0, [v35], r27.2))
 (some (0, [skipV], r27.2))).bind fun g36 =>
 (aPick v31 (g36.2.1.getD 0 .undef) (.bool false)).bind fun v37 =>
 (guardV v37 true
 ((aSliceSl 1 r26.1 (some (.int .i64 1)) none none).bind fun v38 =>
 (call 11 [v38, r25.1] g36.2.2).bind fun r39 =>
 some (0, [r39.1], r39.2))
 (some (0, [skipV], g36.2.2))).bind fun g40 =>
 (aPick v37 (g40.2.1.getD 0 .undef) (.bool false)).bind fun v41 =>
 (guardV v41 true
 ((aBin .neq (.iface true []) r27.1 (.nilIface)).bind fun v42 =>
 some (0, [v42], g40.2.2))
 (some (0, [skipV], g40.2.2))).bind fun g43 =>
 (aPick v41 (g43.2.1.getD 0 .undef) (.bool false)).bind fun v44 =>
 (guardV v44 true
 ((call 12 [r27.1] g43.2.2).bind fun r45 =>
 (call 11 [r45.1, r25.1] r45.2).bind fun r46 =>
 some (0, [r46.1], r46.2))
 (some (0, [skipV], g43.2.2))).bind fun g47 =>
 (aPick v44 (g47.2.1.getD 0 .undef) (.bool false)).bind fun v48 =>
 (guardV v48 true
 ((aMeth [(28, 30, none), (41, 20, none), (47, 50, none), (61, 51, none)] r12.1).bind fun q49 =>
 (call q49.1 (q49.2 :: []) g47.2.2).bind fun r50 =>
 (aBin .add .plain (x4.2.1.getD 1 .undef) (.str [58, 32])).bind fun v51 =>
 (aMeth [(28, 30, none), (41, 20, none), (47, 50, none), (61, 51, none)] r11.1).bind fun q52 =>
 (call q52.1 (q52.2 :: []) r50.2).bind fun r53 =>
 (aBin .add .plain v51 r53.1).bind fun v54 =>
 (aBin .eql .plain r50.1 v54).bind fun v55 =>
 some (0, [v55], r53.2))
 (some (0, [skipV], g47.2.2))).bind fun g56 =>
 (aPick v48 (g56.2.1.getD 0 .undef) (.bool false)).bind fun v57 =>
 (guardV v57 true
 ((call 14 [] g56.2.2).bind fun r58 =>
 some (0, [r58.1], r58.2))
 (some (0, [skipV], g56.2.2))).bind fun g59 =>
 (aPick v57 (g59.2.1.getD 0 .undef) (.bool false)).bind fun v60 =>
 some (0, [v60], g59.2.2)) else
 none
theorem run5 (call : Go.Fw.Call) (a0 a1 a2 : AVal) (h : Heap) : runFn call (.code A5) [a0, a1, a2] h = (S5 call a0 a1 a2 h).bind ansOf := by kernel_rfl

/-- frankpledge/frankpledgelaw1.FaultNumbers -/
noncomputable def A6 : AFunc := ⟨0, (.seq (.region [.op 0 (.mov 0 (.const (.bool false)))] [])
 (.seq (.region [.op 0 (.mov 1 (.const (.nilSlice)))] [])
 (.seq (.seq (.region [.op 0 (.mov 2 (.const (.int .i64 0)))] [])
 (.block 0 (.loop ⟨[1, 2], []⟩ [((.exit 0), ⟨[], []⟩), (.ret, ⟨[0], []⟩)]
 (.seq (.seq (.region [.op 0 (.mov 8 (.tmp 2)),
 .op 1 (.bin 9 .lss .plain (.tmp 8) (.const (.int .i64 20)))] [])
 (.cond (.tmp 9)
 .skip
 (.exit 0)))
 (.seq (.block 1 (.seq (.seq (.region [.op 0 (.mov 3 (.const (.int .i64 (-1))))] [])
 (.block 2 (.loop ⟨[1, 2, 3], []⟩ [((.exit 2), ⟨[1, 2], []⟩), (.ret, ⟨[0], []⟩)]
 (.seq (.seq (.region [.op 0 (.mov 12 (.tmp 3)),
 .op 1 (.bin 13 .lss .plain (.tmp 12) (.const (.int .i64 30)))] [])
 (.cond (.tmp 13)
 .skip
 (.exit 2)))
 (.seq (.block 3 (.seq (.region [.op 0 (.mov 16 (.tmp 1)),
 .op 1 (.mov 17 (.tmp 3)),
 .op 2 (.call 18 15 [.tmp 16, .tmp 17]),
 .op 3 (.un 19 .not (.tmp 18))] [])
 (.cond (.tmp 19)
 (.seq (.region [.op 0 (.mov 0 (.const (.bool false)))] [])
 .ret)
 .skip)))
 (.region [.op 0 (.mov 14 (.tmp 3)),
 .op 1 (.bin 15 .add .plain (.tmp 14) (.const (.int .i64 1))),
 .op 2 (.mov 3 (.tmp 15))] []))))))
 (.region [.op 0 (.mov 20 (.tmp 1)),
 .op 1 (.mov 21 (.tmp 2)),
 .op 2 (.bin 22 .add .plain (.const (.int .i64 97)) (.tmp 21)),
 .op 3 (.conv 23 (.toInt .i32) (.tmp 22)),
 .op 4 (.conv 24 .intStr (.tmp 23)),
 .op 5 (.bin 25 .add .plain (.const (.str [111, 112])) (.tmp 24)),
 .op 6 (.buildSl 26 [.str []] 1 1 [(0, .tmp 25)]),
 .op 7 (.append 27 1 16 [.str []] false (.tmp 20) (.tmp 26)),
 .op 8 (.mov 1 (.tmp 27))] [])))
 (.region [.op 0 (.mov 10 (.tmp 2)),
 .op 1 (.bin 11 .add .plain (.tmp 10) (.const (.int .i64 1))),
 .op 2 (.mov 2 (.tmp 11))] []))))))
 (.seq (.region [.op 0 (.call 28 7 [.const (.str [111, 116, 104, 101, 114])]),
 .op 1 (.mov 4 (.tmp 28))] [])
 (.seq (.region [.op 0 (.mov 29 (.tmp 4)),
 .op 1 (.call 30 8 [.const (.str [121]), .tmp 29]),
 .op 2 (.call 31 8 [.const (.str [120]), .tmp 30]),
 .op 3 (.mov 5 (.tmp 31))] [])
 (.seq (.region [.op 0 (.build 32 [.str [], .nilIface] [(0, 1, .const (.str [97, 108, 111, 110, 101]))]),
 .op 1 (.box 33 false (.tmp 32)),
 .op 2 (.mov 6 (.tmp 33))] [])
 (.seq (.region [.op 0 (.mov 34 (.tmp 4)),
 .op 1 (.call 35 19 [.const (.str [105, 110]), .const (.int .i64 26)]),
 .op 2 (.buildSl 36 [.nilIface] 1 2 [(0, .tmp 34), (1, .tmp 35)]),
 .op 3 (.call 37 18 [.tmp 36]),
 .op 4 (.call 38 8 [.const (.str [122]), .tmp 37]),
 .op 5 (.mov 7 (.tmp 38))] [])
 (.seq (.region [.op 0 (.mov 39 (.tmp 5)),
 .op 1 (.bin 40 .neq (.iface true []) (.tmp 39) (.const (.nilIface))),
 .op 2 (.mov 41 (.tmp 40)),
 .guard 41 true [.op 3 (.mov 42 (.tmp 5)),
 .op 4 (.call 43 10 [.tmp 42]),
 .op 5 (.bin 44 .eql .plain (.tmp 43) (.const (.int .i64 14)))] [] [44],
 .op 6 (.pick 45 (.tmp 41) (.tmp 44) (.const (.bool false))),
 .op 7 (.mov 46 (.tmp 45)),
 .guard 46 true [.op 8 (.mov 47 (.tmp 5)),
 .op 9 (.call 48 12 [.tmp 47]),
 .op 10 (.buildSl 49 [.str []] 1 2 [(0, .const (.str [120])), (1, .const (.str [121]))]),
 .op 11 (.call 50 11 [.tmp 48, .tmp 49])] [] [50],
 .op 12 (.pick 51 (.tmp 46) (.tmp 50) (.const (.bool false))),
 .op 13 (.mov 52 (.tmp 51)),
 .guard 52 true [.op 14 (.mov 53 (.tmp 5)),
 .op 15 (.mov 54 (.tmp 4)),
 .op 16 (.call 55 9 [.tmp 53, .tmp 54])] [] [55],
 .op 17 (.pick 56 (.tmp 52) (.tmp 55) (.const (.bool false))),
 .op 18 (.mov 57 (.tmp 56)),
 .guard 57 true [.op 19 (.mov 58 (.tmp 6)),
 .op 20 (.call 59 20 [.tmp 58]),
 .op 21 (.bin 60 .eql .plain (.tmp 59) (.const (.str [97, 108, 111, 110, 101, 58, 32])))] [] [60],
 .op 22 (.pick 61 (.tmp 57) (.tmp 60) (.const (.bool false))),
 .op 23 (.mov 62 (.tmp 61)),
 .guard 62 true [.op 24 (.mov 63 (.tmp 6)),
 .op 25 (.call 64 21 [.tmp 63]),
 .op 26 (.bin 65 .eql (.iface true []) (.tmp 64) (.const (.nilIface)))] [] [65],
 .op 27 (.pick 66 (.tmp 62) (.tmp 65) (.const (.bool false))),
 .op 28 (.mov 67 (.tmp 66)),
 .guard 67 true [.op 29 (.mov 68 (.tmp 6)),
 .op 30 (.mkIface 69 41 (.tmp 68)),
 .op 31 (.call 70 10 [.tmp 69]),
 .op 32 (.bin 71 .eql .plain (.tmp 70) (.const (.int .i64 14)))] [] [71],
 .op 33 (.pick 72 (.tmp 67) (.tmp 71) (.const (.bool false))),
 .op 34 (.mov 73 (.tmp 72)),
 .guard 73 true [.op 35 (.mov 74 (.tmp 6)),
 .op 36 (.mkIface 75 41 (.tmp 74)),
 .op 37 (.call 76 12 [.tmp 75]),
 .op 38 (.buildSl 77 [.str []] 1 1 [(0, .const (.str [97, 108, 111, 110, 101]))]),
 .op 39 (.call 78 11 [.tmp 76, .tmp 77])] [] [78],
 .op 40 (.pick 79 (.tmp 73) (.tmp 78) (.const (.bool false))),
 .op 41 (.mov 80 (.tmp 79)),
 .guard 80 true [.op 42 (.mov 81 (.tmp 7)),
 .op 43 (.call 82 10 [.tmp 81]),
 .op 44 (.bin 83 .eql .plain (.tmp 82) (.const (.int .i64 26)))] [] [83],
 .op 45 (.pick 84 (.tmp 80) (.tmp 83) (.const (.bool false))),
 .op 46 (.mov 85 (.tmp 84)),
 .guard 85 true [.op 47 (.mov 86 (.tmp 7)),
 .op 48 (.call 87 12 [.tmp 86]),
 .op 49 (.buildSl 88 [.str []] 1 2 [(0, .const (.str [122])), (1, .const (.str [105, 110]))]),
 .op 50 (.call 89 11 [.tmp 87, .tmp 88])] [] [89],
 .op 51 (.pick 90 (.tmp 85) (.tmp 89) (.const (.bool false))),
 .op 52 (.mov 91 (.tmp 90)),
 .guard 91 true [.op 53 (.mkIface 92 28 (.const (.int .i64 24))),
 .op 54 (.call 93 10 [.tmp 92]),
 .op 55 (.bin 94 .eql .plain (.tmp 93) (.const (.int .i64 24)))] [] [94],
 .op 56 (.pick 95 (.tmp 91) (.tmp 94) (.const (.bool false))),
 .op 57 (.mov 96 (.tmp 95)),
 .guard 96 true [.op 58 (.call 97 14 [])] [] [97],
 .op 59 (.pick 98 (.tmp 96) (.tmp 97) (.const (.bool false))),
 .op 60 (.mov 0 (.tmp 98))] [])
 .ret)))))))),
 [.tmp 0]⟩
theorem ok6 : funcOk Tryd.prog (drawOk Tryd.prog) Tryd.f6 A6 = true := by kernel_rfl
/-- xs: t1, t2, t3 -/
noncomputable def L6_1 (call : Go.Fw.Call) (xs : List AVal) (h : Heap) : Option J :=
 (aBin .lss .plain (xs.getD 2 .undef) (.int .i64 30)).bind fun v2 =>
 condV v2
 ((call 15 [(xs.getD 0 .undef), (xs.getD 2 .undef)] h).bind fun r3 =>
 (aUn .not r3.1).bind fun v4 =>
 condV v4
 (some (2, [(.bool false)], r3.2))
 ((aBin .add .plain (xs.getD 2 .undef) (.int .i64 1)).bind fun v5 =>
 some (0, [(xs.getD 0 .undef), (xs.getD 1 .undef), v5], r3.2)))
 (some (1, [(xs.getD 0 .undef), (xs.getD 1 .undef)], h))
/-- xs: t1, t2 -/
noncomputable def L6_0 (call : Go.Fw.Call) (xs : List AVal) (h : Heap) : Option J :=
 (aBin .lss .plain (xs.getD 1 .undef) (.int .i64 20)).bind fun v1 =>
 condV v1
 ((loop (L6_1 call) [(xs.getD 0 .undef), (xs.getD 1 .undef), (.int .i64 (-1))] h).bind fun x6 =>
 bif Nat.beq x6.1 1 then (aBin .add .plain (.int .i64 97) (x6.2.1.getD 1 .undef)).bind fun v7 =>
 (aConv (.toInt .i32) v7 x6.2.2).bind fun r8 =>
 (aConv .intStr r8.1 r8.2).bind fun r9 =>
 (aBin .add .plain (.str [111, 112]) r9.1).bind fun v10 =>
 (aFill (reps [.str []] 1) [(0, 1, v10)]).bind fun c11 =>
 (aAppend 1 16 [.str []] false (x6.2.1.getD 0 .undef) (.slice r9.2.next 0 1 1 1 true) (r9.2.alloc c11)).bind fun r12 =>
 (aBin .add .plain (x6.2.1.getD 1 .undef) (.int .i64 1)).bind fun v13 =>
 some (0, [r12.1, v13], r12.2) else
 bif Nat.beq x6.1 2 then some (2, [(x6.2.1.getD 0 .undef)], x6.2.2) else
 none)
 (some (1, [], h))
noncomputable def S6 (call : Go.Fw.Call) (h : Heap) : Option J :=
 (loop (L6_0 call) [(.nilSlice), (.int .i64 0)] h).bind fun x14 =>
 bif Nat.beq x14.1 1 then (call 7 [(.str [111, 116, 104, 101, 114])] x14.2.2).bind fun r15 =>
 (call 8 [(.str [121]), r15.1] r15.2).bind fun r16 =>
 (call 8 [(.str [120]), r16.1] r16.2).bind fun r17 =>
 (aFill [.str [], .nilIface] [(0, 1, (.str [97, 108, 111, 110, 101]))]).bind fun c18 =>
 (AVal.cells? (.agg c18)).bind fun c19 =>
 (call 19 [(.str [105, 110]), (.int .i64 26)] (r17.2.alloc c19)).bind fun r21 =>
 (aFill (reps [.nilIface] 2) [(0, 1, r15.1), (1, 1, r21.1)]).bind fun c22 =>
 (call 18 [(.slice r21.2.next 0 2 2 1 true)] (r21.2.alloc c22)).bind fun r23 =>
 (call 8 [(.str [122]), r23.1] r23.2).bind fun r24 =>
 (aBin .neq (.iface true []) r17.1 (.nilIface)).bind fun v25 =>
 (guardV v25 true
 ((call 10 [r17.1] r24.2).bind fun r26 =>
 (aBin .eql .plain r26.1 (.int .i64 14)).bind fun v27 =>
 some (0, [v27], r26.2))
 (some (0, [skipV], r24.2))).bind fun g28 =>
 (aPick v25 (g28.2.1.getD 0 .undef) (.bool false)).bind fun v29 =>
 (guardV v29 true
 ((call 12 [r17.1] g28.2.2).bind fun r30 =>
 (aFill (reps [.str []] 2) [(0, 1, (.str [120])), (1, 1, (.str [121]))]).bind fun c31 =>
 (call 11 [r30.1, (.slice r30.2.next 0 2 2 1 true)] (r30.2.alloc c31)).bind fun r32 =>
 some (0, [r32.1], r32.2))
 (some (0, [skipV], g28.2.2))).bind fun g33 =>
 (aPick v29 (g33.2.1.getD 0 .undef) (.bool false)).bind fun v34 =>
 (guardV v34 true
 ((call 9 [r17.1, r15.1] g33.2.2).bind fun r35 =>
 some (0, [r35.1], r35.2))
 (some (0, [skipV], g33.2.2))).bind fun g36 =>
 (aPick v34 (g36.2.1.getD 0 .undef) (.bool false)).bind fun v37 =>
 (guardV v37 true
 ((call 20 [(.ptr r17.2.next 0)] g36.2.2).bind fun r38 =>
 (aBin .eql .plain r38.1 (.str [97, 108, 111, 110, 101, 58, 32])).bind fun v39 =>
 some (0, [v39], r38.2))
 (some (0, [skipV], g36.2.2))).bind fun g40 =>
 (aPick v37 (g40.2.1.getD 0 .undef) (.bool false)).bind fun v41 =>
 (guardV v41 true
 ((call 21 [(.ptr r17.2.next 0)] g40.2.2).bind fun r42 =>
 (aBin .eql (.iface true []) r42.1 (.nilIface)).bind fun v43 =>
 some (0, [v43], r42.2))
 (some (0, [skipV], g40.2.2))).bind fun g44 =>
 (aPick v41 (g44.2.1.getD 0 .undef) (.bool false)).bind fun v45 =>
 (guardV v45 true
 ((call 10 [(.iface 41 (.ptr r17.2.next 0))] g44.2.2).bind fun r46 =>
 (aBin .eql .plain r46.1 (.int .i64 14)).bind fun v47 =>
 some (0, [v47], r46.2))
 (some (0, [skipV], g44.2.2))).bind fun g48 =>
 (aPick v45 (g48.2.1.getD 0 .undef) (.bool false)).bind fun v49 =>
 (guardV v49 true
 ((call 12 [(.iface 41 (.ptr r17.2.next 0))] g48.2.2).bind fun r50 =>
 (aFill (reps [.str []] 1) [(0, 1, (.str [97, 108, 111, 110, 101]))]).bind fun c51 =>
 (call 11 [r50.1, (.slice r50.2.next 0 1 1 1 true)] (r50.2.alloc c51)).bind fun r52 =>
 some (0, [r52.1], r52.2))
 (some (0, [skipV], g48.2.2))).bind fun g53 =>
 (aPick v49 (g53.2.1.getD 0 .undef) (.bool false)).bind fun v54 =>
 (guardV v54 true
 ((call 10 [r24.1] g53.2.2).bind fun r55 =>
 (aBin .eql .plain r55.1 (.int .i64 26)).bind fun v56 =>
 some (0, [v56], r55.2))
 (some (0, [skipV], g53.2.2))).bind fun g57 =>
 (aPick v54 (g57.2.1.getD 0 .undef) (.bool false)).bind fun v58 =>
 (guardV v58 true
 ((call 12 [r24.1] g57.2.2).bind fun r59 =>
 (aFill (reps [.str []] 2) [(0, 1, (.str [122])), (1, 1, (.str [105, 110]))]).bind fun c60 =>
 (call 11 [r59.1, (.slice r59.2.next 0 2 2 1 true)] (r59.2.alloc c60)).bind fun r61 =>
 some (0, [r61.1], r61.2))
 (some (0, [skipV], g57.2.2))).bind fun g62 =>
 (aPick v58 (g62.2.1.getD 0 .undef) (.bool false)).bind fun v63 =>
 (guardV v63 true
 ((call 10 [(.iface 28 (.int .i64 24))] g62.2.2).bind fun r64 =>
 (aBin .eql .plain r64.1 (.int .i64 24)).bind fun v65 =>
 some (0, [v65], r64.2))
 (some (0, [skipV], g62.2.2))).bind fun g66 =>
 (aPick v63 (g66.2.1.getD 0 .undef) (.bool false)).bind fun v67 =>
 (guardV v67 true
 ((call 14 [] g66.2.2).bind fun r68 =>
 some (0, [r68.1], r68.2))
 (some (0, [skipV], g66.2.2))).bind fun g69 =>
 (aPick v67 (g69.2.1.getD 0 .undef) (.bool false)).bind fun v70 =>
 some (0, [v70], g69.2.2) else
 bif Nat.beq x14.1 2 then some (0, [(x14.2.1.getD 0 .undef)], x14.2.2) else
 none
theorem run6 (call : Go.Fw.Call) (h : Heap) : runFn call (.code A6) [] h = (S6 call  h).bind ansOf := by kernel_rfl

/-- errors.New -/
noncomputable def A7 : AFunc := ⟨1, (.seq (.region [.op 0 (.mov 2 (.const (.nilIface)))] [])
 (.seq (.region [.op 0 (.mov 3 (.tmp 0)),
 .op 1 (.build 4 [.str []] [(0, 1, .tmp 3)]),
 .op 2 (.box 5 false (.tmp 4)),
 .op 3 (.mkIface 6 47 (.tmp 5)),
 .op 4 (.mov 2 (.tmp 6))] [])
 .ret)),
 [.tmp 2]⟩
theorem ok7 : funcOk Tryd.prog (drawOk Tryd.prog) Tryd.f7 A7 = true := by kernel_rfl
noncomputable def S7 (call : Go.Fw.Call) (a0 : AVal) (h : Heap) : Option J :=
 (aFill [.str []] [(0, 1, a0)]).bind fun c1 =>
 (AVal.cells? (.agg c1)).bind fun c2 =>
 some (0, [(.iface 47 (.ptr h.next 0))], (h.alloc c2))
theorem run7 (call : Go.Fw.Call) (a0 : AVal) (h : Heap) : runFn call (.code A7) [a0] h = (S7 call a0 h).bind ansOf := by kernel_rfl

/-- frankpledge/fault.Wrap -/
noncomputable def A8 : AFunc := ⟨2, (.seq (.region [.op 0 (.mov 4 (.const (.nilIface)))] [])
 (.seq (.seq (.region [.op 0 (.mov 5 (.tmp 1)),
 .op 1 (.bin 6 .eql (.iface true []) (.tmp 5) (.const (.nilIface)))] [])
 (.cond (.tmp 6)
 (.seq (.region [.op 0 (.mov 4 (.const (.nilIface)))] [])
 .ret)
 .skip))
 (.seq (.region [.op 0 (.mov 7 (.tmp 0)),
 .op 1 (.mov 8 (.tmp 1)),
 .op 2 (.build 9 [.str [], .nilIface] [(0, 1, .tmp 7), (1, 1, .tmp 8)]),
 .op 3 (.box 10 false (.tmp 9)),
 .op 4 (.mkIface 11 41 (.tmp 10)),
 .op 5 (.mov 4 (.tmp 11))] [])
 .ret))),
 [.tmp 4]⟩
theorem ok8 : funcOk Tryd.prog (drawOk Tryd.prog) Tryd.f8 A8 = true := by kernel_rfl
noncomputable def S8 (call : Go.Fw.Call) (a0 a1 : AVal) (h : Heap) : Option J :=
 (aBin .eql (.iface true []) a1 (.nilIface)).bind fun v1 =>
 condV v1
 (some (0, [(.nilIface)], h))
 ((aFill [.str [], .nilIface] [(0, 1, a0), (1, 1, a1)]).bind fun c2 =>
 (AVal.cells? (.agg c2)).bind fun c3 =>
 some (0, [(.iface 41 (.ptr h.next 0))], (h.alloc c3)))
theorem run8 (call : Go.Fw.Call) (a0 a1 : AVal) (h : Heap) : runFn call (.code A8) [a0, a1] h = (S8 call a0 a1 h).bind ansOf := by kernel_rfl

/-- errors.Is -/
noncomputable def A9 : AFunc := ⟨2, (.seq (.region [.op 0 (.mov 4 (.const (.bool false)))] [])
 (.seq (.seq (.region [.op 0 (.mov 6 (.tmp 0)),
 .op 1 (.bin 7 .eql (.iface true []) (.tmp 6) (.const (.nilIface))),
 .op 2 (.mov 8 (.tmp 7)),
 .guard 8 false [.op 3 (.mov 9 (.tmp 1)),
 .op 4 (.bin 10 .eql (.iface true []) (.tmp 9) (.const (.nilIface)))] [] [10],
 .op 5 (.pick 11 (.tmp 8) (.const (.bool true)) (.tmp 10))] [])
 (.cond (.tmp 11)
 (.seq (.region [.op 0 (.mov 12 (.tmp 0)),
 .op 1 (.mov 13 (.tmp 1)),
 .op 2 (.bin 14 .eql (.iface false [56, 83, 95, 111, 123]) (.tmp 12) (.tmp 13)),
 .op 3 (.mov 4 (.tmp 14))] [])
 .ret)
 .skip))
 (.seq (.region [.op 0 (.mov 15 (.tmp 1)),
 .op 1 (.call 16 22 [.tmp 15]),
 .op 2 (.invoke 17 [(65, 55, none)] (.tmp 16) []),
 .op 3 (.mov 5 (.tmp 17))] [])
 (.seq (.region [.op 0 (.mov 18 (.tmp 0)),
 .op 1 (.mov 19 (.tmp 1)),
 .op 2 (.mov 20 (.tmp 5)),
 .op 3 (.call 21 23 [.tmp 18, .tmp 19, .tmp 20]),
 .op 4 (.mov 4 (.tmp 21))] [])
 .ret)))),
 [.tmp 4]⟩
theorem ok9 : funcOk Tryd.prog (drawOk Tryd.prog) Tryd.f9 A9 = true := by kernel_rfl
noncomputable def S9 (call : Go.Fw.Call) (a0 a1 : AVal) (h : Heap) : Option J :=
 (aBin .eql (.iface true []) a0 (.nilIface)).bind fun v1 =>
 (guardV v1 false
 ((aBin .eql (.iface true []) a1 (.nilIface)).bind fun v2 =>
 some (0, [v2], h))
 (some (0, [skipV], h))).bind fun g3 =>
 (aPick v1 (.bool true) (g3.2.1.getD 0 .undef)).bind fun v4 =>
 condV v4
 ((aBin .eql (.iface false [56, 83, 95, 111, 123]) a0 a1).bind fun v5 =>
 some (0, [v5], g3.2.2))
 ((call 22 [a1] g3.2.2).bind fun r6 =>
 (aMeth [(65, 55, none)] r6.1).bind fun q7 =>
 (call q7.1 (q7.2 :: []) r6.2).bind fun r8 =>
 (call 23 [a0, a1, r8.1] r8.2).bind fun r9 =>
 some (0, [r9.1], r9.2))
theorem run9 (call : Go.Fw.Call) (a0 a1 : AVal) (h : Heap) : runFn call (.code A9) [a0, a1] h = (S9 call a0 a1 h).bind ansOf := by kernel_rfl

/-- frankpledge/fault.Code -/
noncomputable def A10 : AFunc := ⟨1, (.seq (.region [.op 0 (.mov 2 (.const (.int .i64 0)))] [])
 (.seq (.seq (.region [.op 0 (.mov 4 (.tmp 0)),
 .op 1 (.bin 5 .eql (.iface true []) (.tmp 4) (.const (.nilIface)))] [])
 (.cond (.tmp 5)
 (.seq (.region [.op 0 (.mov 2 (.const (.int .i64 0)))] [])
 .ret)
 .skip))
 (.seq (.region [.op 0 (.alloc 3 false [.int .i64 0])] [])
 (.seq (.seq (.region [.op 0 (.mov 6 (.tmp 0)),
 .op 1 (.mkIface 7 55 (.tmp 3)),
 .op 2 (.call 8 24 [.tmp 6, .tmp 7])] [])
 (.cond (.tmp 8)
 (.seq (.region [.op 0 (.load 9 false 1 (.tmp 3)),
 .op 1 (.mov 2 (.tmp 9))] [])
 .ret)
 .skip))
 (.seq (.region [.op 0 (.mov 2 (.const (.int .i64 14)))] [])
 .ret))))),
 [.tmp 2]⟩
theorem ok10 : funcOk Tryd.prog (drawOk Tryd.prog) Tryd.f10 A10 = true := by kernel_rfl
noncomputable def S10 (call : Go.Fw.Call) (a0 : AVal) (h : Heap) : Option J :=
 (aBin .eql (.iface true []) a0 (.nilIface)).bind fun v1 =>
 condV v1
 (some (0, [(.int .i64 0)], h))
 ((call 24 [a0, (.iface 55 (.ptr h.next 0))] (h.alloc [.int .i64 0])).bind fun r2 =>
 condV r2.1
 ((aLoad r2.2 1 (.ptr h.next 0)).bind fun c3 =>
 (fromCells false c3).bind fun v4 =>
 some (0, [v4], r2.2))
 (some (0, [(.int .i64 14)], r2.2)))
theorem run10 (call : Go.Fw.Call) (a0 : AVal) (h : Heap) : runFn call (.code A10) [a0] h = (S10 call a0 h).bind ansOf := by kernel_rfl

/-- frankpledge/frankpledgebook.Same[string] -/
noncomputable def A11 : AFunc := ⟨2, (.seq (.region [.op 0 (.mov 4 (.const (.bool false)))] [])
 (.seq (.seq (.region [.op 0 (.mov 6 (.tmp 0)),
 .op 1 (.len 7 false (.tmp 6)),
 .op 2 (.mov 8 (.tmp 1)),
 .op 3 (.len 9 false (.tmp 8)),
 .op 4 (.bin 10 .neq .plain (.tmp 7) (.tmp 9))] [])
 (.cond (.tmp 10)
 (.seq (.region [.op 0 (.mov 4 (.const (.bool false)))] [])
 .ret)
 .skip))
 (.seq (.seq (.region [.op 0 (.mov 5 (.const (.int .i64 0)))] [])
 (.block 0 (.loop ⟨[0, 1, 5], []⟩ [((.exit 0), ⟨[], []⟩), (.ret, ⟨[4], []⟩)]
 (.seq (.seq (.region [.op 0 (.mov 11 (.tmp 5)),
 .op 1 (.mov 12 (.tmp 0)),
 .op 2 (.len 13 false (.tmp 12)),
 .op 3 (.bin 14 .lss .plain (.tmp 11) (.tmp 13))] [])
 (.cond (.tmp 14)
 .skip
 (.exit 0)))
 (.seq (.block 1 (.seq (.region [.op 0 (.mov 17 (.tmp 0)),
 .op 1 (.mov 18 (.tmp 5)),
 .op 2 (.iaddr 19 none 1 (.tmp 17) (.tmp 18)),
 .op 3 (.load 20 false 1 (.tmp 19)),
 .op 4 (.mov 21 (.tmp 1)),
 .op 5 (.mov 22 (.tmp 5)),
 .op 6 (.iaddr 23 none 1 (.tmp 21) (.tmp 22)),
 .op 7 (.load 24 false 1 (.tmp 23)),
 .op 8 (.bin 25 .neq .plain (.tmp 20) (.tmp 24))] [])
 (.cond (.tmp 25)
 (.seq (.region [.op 0 (.mov 4 (.const (.bool false)))] [])
 .ret)
 .skip)))
 (.region [.op 0 (.mov 15 (.tmp 5)),
 .op 1 (.bin 16 .add .plain (.tmp 15) (.const (.int .i64 1))),
 .op 2 (.mov 5 (.tmp 16))] []))))))
 (.seq (.region [.op 0 (.mov 4 (.const (.bool true)))] [])
 .ret)))),
 [.tmp 4]⟩
theorem ok11 : funcOk Tryd.prog (drawOk Tryd.prog) Tryd.f11 A11 = true := by kernel_rfl
/-- xs: t0, t1, t5 -/
noncomputable def L11_0 (call : Go.Fw.Call) (xs : List AVal) (h : Heap) : Option J :=
 (aLen false (xs.getD 0 .undef)).bind fun v4 =>
 (aBin .lss .plain (xs.getD 2 .undef) v4).bind fun v5 =>
 condV v5
 ((aIaddr 1 (xs.getD 0 .undef) (xs.getD 2 .undef)).bind fun v6 =>
 (aLoad h 1 v6).bind fun c7 =>
 (fromCells false c7).bind fun v8 =>
 (aIaddr 1 (xs.getD 1 .undef) (xs.getD 2 .undef)).bind fun v9 =>
 (aLoad h 1 v9).bind fun c10 =>
 (fromCells false c10).bind fun v11 =>
 (aBin .neq .plain v8 v11).bind fun v12 =>
 condV v12
 (some (2, [(.bool false)], h))
 ((aBin .add .plain (xs.getD 2 .undef) (.int .i64 1)).bind fun v13 =>
 some (0, [(xs.getD 0 .undef), (xs.getD 1 .undef), v13], h)))
 (some (1, [], h))
noncomputable def S11 (call : Go.Fw.Call) (a0 a1 : AVal) (h : Heap) : Option J :=
 (aLen false a0).bind fun v1 =>
 (aLen false a1).bind fun v2 =>
 (aBin .neq .plain v1 v2).bind fun v3 =>
 condV v3
 (some (0, [(.bool false)], h))
 ((loop (L11_0 call) [a0, a1, (.int .i64 0)] h).bind fun x14 =>
 bif Nat.beq x14.1 1 then some (0, [(.bool true)], x14.2.2) else
 bif Nat.beq x14.1 2 then some (0, [(x14.2.1.getD 0 .undef)], x14.2.2) else
 none)
theorem run11 (call : Go.Fw.Call) (a0 a1 : AVal) (h : Heap) : runFn call (.code A11) [a0, a1] h = (S11 call a0 a1 h).bind ansOf := by kernel_rfl

/-- frankpledge/fault.Path -/
noncomputable def A12 : AFunc := ⟨1, (.seq (.region [.op 0 (.mov 2 (.const (.nilSlice)))] [])
 (.seq (.region [.op 0 (.mov 3 (.const (.nilSlice)))] [])
 (.seq (.region [.op 0 (.alloc 4 false [.nilPtr])] [])
 (.seq (.block 0 (.loop ⟨[0, 3, 4], []⟩ [((.exit 0), ⟨[3], []⟩)]
 (.seq (.seq (.region [.op 0 (.mov 5 (.tmp 0)),
 .op 1 (.mkIface 6 56 (.tmp 4)),
 .op 2 (.call 7 24 [.tmp 5, .tmp 6])] [])
 (.cond (.tmp 7)
 .skip
 (.exit 0)))
 (.block 1 (.seq (.region [.op 0 (.mov 8 (.tmp 3)),
 .op 1 (.load 9 false 1 (.tmp 4)),
 .op 2 (.nilchk 10 (.tmp 9)),
 .op 3 (.faddr 11 0 (.tmp 10)),
 .op 4 (.load 12 false 1 (.tmp 11)),
 .op 5 (.buildSl 13 [.str []] 1 1 [(0, .tmp 12)]),
 .op 6 (.append 14 1 16 [.str []] false (.tmp 8) (.tmp 13)),
 .op 7 (.mov 3 (.tmp 14))] [])
 (.region [.op 0 (.load 15 false 1 (.tmp 4)),
 .op 1 (.nilchk 16 (.tmp 15)),
 .op 2 (.faddr 17 1 (.tmp 16)),
 .op 3 (.load 18 false 1 (.tmp 17)),
 .op 4 (.mov 0 (.tmp 18))] []))))))
 (.seq (.region [.op 0 (.mov 19 (.tmp 3)),
 .op 1 (.mov 2 (.tmp 19))] [])
 .ret))))),
 [.tmp 2]⟩
theorem ok12 : funcOk Tryd.prog (drawOk Tryd.prog) Tryd.f12 A12 = true := by kernel_rfl
/-- xs: t0, t3, t4 -/
noncomputable def L12_0 (call : Go.Fw.Call) (xs : List AVal) (h : Heap) : Option J :=
 (call 24 [(xs.getD 0 .undef), (.iface 56 (xs.getD 2 .undef))] h).bind fun r1 =>
 condV r1.1
 ((aLoad r1.2 1 (xs.getD 2 .undef)).bind fun c2 =>
 (fromCells false c2).bind fun v3 =>
 (aNilchk v3).bind fun v4 =>
 (aFaddr 0 v4).bind fun v5 =>
 (aLoad r1.2 1 v5).bind fun c6 =>
 (fromCells false c6).bind fun v7 =>
 (aFill (reps [.str []] 1) [(0, 1, v7)]).bind fun c8 =>
 (aAppend 1 16 [.str []] false (xs.getD 1 .undef) (.slice r1.2.next 0 1 1 1 true) (r1.2.alloc c8)).bind fun r9 =>
 (aLoad r9.2 1 (xs.getD 2 .undef)).bind fun c10 =>
 (fromCells false c10).bind fun v11 =>
 (aNilchk v11).bind fun v12 =>
 (aFaddr 1 v12).bind fun v13 =>
 (aLoad r9.2 1 v13).bind fun c14 =>
 (fromCells false c14).bind fun v15 =>
 some (0, [v15, r9.1, (xs.getD 2 .undef)], r9.2))
 (some (1, [(xs.getD 1 .undef)], r1.2))
noncomputable def S12 (call : Go.Fw.Call) (a0 : AVal) (h : Heap) : Option J :=
 (loop (L12_0 call) [a0, (.nilSlice), (.ptr h.next 0)] (h.alloc [.nilPtr])).bind fun x16 =>
 bif Nat.beq x16.1 1 then some (0, [(x16.2.1.getD 0 .undef)], x16.2.2) else
 none
theorem run12 (call : Go.Fw.Call) (a0 : AVal) (h : Heap) : runFn call (.code A12) [a0] h = (S12 call a0 h).bind ansOf := by kernel_rfl

/-- frankpledge/fault.Has -/
noncomputable def A13 : AFunc := ⟨2, (.seq (.region [.op 0 (.mov 4 (.const (.bool false)))] [])
 (.seq (.region [.op 0 (.mov 5 (.tmp 0)),
 .op 1 (.mov 6 (.tmp 1)),
 .op 2 (.mkIface 7 28 (.tmp 6)),
 .op 3 (.call 8 9 [.tmp 5, .tmp 7]),
 .op 4 (.mov 4 (.tmp 8))] [])
 .ret)),
 [.tmp 4]⟩
theorem ok13 : funcOk Tryd.prog (drawOk Tryd.prog) Tryd.f13 A13 = true := by kernel_rfl
noncomputable def S13 (call : Go.Fw.Call) (a0 a1 : AVal) (h : Heap) : Option J :=
 (call 9 [a0, (.iface 28 a1)] h).bind fun r1 =>
 some (0, [r1.1], r1.2)
theorem run13 (call : Go.Fw.Call) (a0 a1 : AVal) (h : Heap) : runFn call (.code A13) [a0, a1] h = (S13 call a0 a1 h).bind ansOf := by kernel_rfl

/-- frankpledge/frankpledgelaw1.known -/
noncomputable def A14 : AFunc := ⟨0, (.seq (.region [.op 0 (.mov 0 (.const (.bool false)))] [])
 (.seq (.region [.op 0 (.call 2 19 [.const (.str [98]), .const (.int .i64 22)]),
 .op 1 (.call 3 8 [.const (.str [97]), .tmp 2]),
 .op 2 (.mov 1 (.tmp 3))] [])
 (.seq (.region [.op 0 (.mov 4 (.tmp 1)),
 .op 1 (.call 5 10 [.tmp 4]),
 .op 2 (.bin 6 .eql .plain (.tmp 5) (.const (.int .i64 22))),
 .op 3 (.mov 7 (.tmp 6)),
 .guard 7 true [.op 4 (.mov 8 (.tmp 1)),
 .op 5 (.call 9 12 [.tmp 8]),
 .op 6 (.buildSl 10 [.str []] 1 2 [(0, .const (.str [97])), (1, .const (.str [98]))]),
 .op 7 (.call 11 11 [.tmp 9, .tmp 10])] [] [11],
 .op 8 (.pick 12 (.tmp 7) (.tmp 11) (.const (.bool false))),
 .op 9 (.mov 13 (.tmp 12)),
 .guard 13 true [.op 10 (.mov 14 (.tmp 1)),
 .op 11 (.call 15 13 [.tmp 14, .const (.int .i64 22)])] [] [15],
 .op 12 (.pick 16 (.tmp 13) (.tmp 15) (.const (.bool false))),
 .op 13 (.mov 17 (.tmp 16)),
 .guard 17 true [.op 14 (.mov 18 (.tmp 1)),
 .op 15 (.call 19 13 [.tmp 18, .const (.int .i64 1)]),
 .op 16 (.un 20 .not (.tmp 19))] [] [20],
 .op 17 (.pick 21 (.tmp 17) (.tmp 20) (.const (.bool false))),
 .op 18 (.mov 22 (.tmp 21)),
 .guard 22 true [.op 19 (.call 23 10 [.const (.nilIface)]),
 .op 20 (.bin 24 .eql .plain (.tmp 23) (.const (.int .i64 0)))] [] [24],
 .op 21 (.pick 25 (.tmp 22) (.tmp 24) (.const (.bool false))),
 .op 22 (.mov 26 (.tmp 25)),
 .guard 26 true [.op 23 (.call 27 19 [.const (.str [120]), .const (.int .i64 0)]),
 .op 24 (.bin 28 .eql (.iface true []) (.tmp 27) (.const (.nilIface)))] [] [28],
 .op 25 (.pick 29 (.tmp 26) (.tmp 28) (.const (.bool false))),
 .op 26 (.mov 30 (.tmp 29)),
 .guard 30 true [.op 27 (.call 31 8 [.const (.str [120]), .const (.nilIface)]),
 .op 28 (.bin 32 .eql (.iface true []) (.tmp 31) (.const (.nilIface)))] [] [32],
 .op 29 (.pick 33 (.tmp 30) (.tmp 32) (.const (.bool false))),
 .op 30 (.mov 34 (.tmp 33)),
 .guard 34 true [.op 31 (.call 35 7 [.const (.str [111, 116, 104, 101, 114])]),
 .op 32 (.call 36 10 [.tmp 35]),
 .op 33 (.bin 37 .eql .plain (.tmp 36) (.const (.int .i64 14)))] [] [37],
 .op 34 (.pick 38 (.tmp 34) (.tmp 37) (.const (.bool false))),
 .op 35 (.mov 39 (.tmp 38)),
 .guard 39 true [.op 36 (.call 40 13 [.const (.nilIface), .const (.int .i64 0)]),
 .op 37 (.un 41 .not (.tmp 40))] [] [41],
 .op 38 (.pick 42 (.tmp 39) (.tmp 41) (.const (.bool false))),
 .op 39 (.mov 0 (.tmp 42))] [])
 .ret))),
 [.tmp 0]⟩
theorem ok14 : funcOk Tryd.prog (drawOk Tryd.prog) Tryd.f14 A14 = true := by kernel_rfl
noncomputable def S14 (call : Go.Fw.Call) (h : Heap) : Option J :=
 (call 19 [(.str [98]), (.int .i64 22)] h).bind fun r1 =>
 (call 8 [(.str [97]), r1.1] r1.2).bind fun r2 =>
 (call 10 [r2.1] r2.2).bind fun r3 =>
 (aBin .eql .plain r3.1 (.int .i64 22)).bind fun v4 =>
 (guardV v4 true
 ((call 12 [r2.1] r3.2).bind fun r5 =>
 (aFill (reps [.str []] 2) [(0, 1, (.str [97])), (1, 1, (.str [98]))]).bind fun c6 =>
 (call 11 [r5.1, (.slice r5.2.next 0 2 2 1 true)] (r5.2.alloc c6)).bind fun r7 =>
 some (0, [r7.1], r7.2))
 (some (0, [skipV], r3.2))).bind fun g8 =>
 (aPick v4 (g8.2.1.getD 0 .undef) (.bool false)).bind fun v9 =>
 (guardV v9 true
 ((call 13 [r2.1, (.int .i64 22)] g8.2.2).bind fun r10 =>
 some (0, [r10.1], r10.2))
 (some (0, [skipV], g8.2.2))).bind fun g11 =>
 (aPick v9 (g11.2.1.getD 0 .undef) (.bool false)).bind fun v12 =>
 (guardV v12 true
 ((call 13 [r2.1, (.int .i64 1)] g11.2.2).bind fun r13 =>
 (aUn .not r13.1).bind fun v14 =>
 some (0, [v14], r13.2))
 (some (0, [skipV], g11.2.2))).bind fun g15 =>
 (aPick v12 (g15.2.1.getD 0 .undef) (.bool false)).bind fun v16 =>
 (guardV v16 true
 ((call 10 [(.nilIface)] g15.2.2).bind fun r17 =>
 (aBin .eql .plain r17.1 (.int .i64 0)).bind fun v18 =>
 some (0, [v18], r17.2))
 (some (0, [skipV], g15.2.2))).bind fun g19 =>
 (aPick v16 (g19.2.1.getD 0 .undef) (.bool false)).bind fun v20 =>
 (guardV v20 true
 ((call 19 [(.str [120]), (.int .i64 0)] g19.2.2).bind fun r21 =>
 (aBin .eql (.iface true []) r21.1 (.nilIface)).bind fun v22 =>
 some (0, [v22], r21.2))
 (some (0, [skipV], g19.2.2))).bind fun g23 =>
 (aPick v20 (g23.2.1.getD 0 .undef) (.bool false)).bind fun v24 =>
 (guardV v24 true
 ((call 8 [(.str [120]), (.nilIface)] g23.2.2).bind fun r25 =>
 (aBin .eql (.iface true []) r25.1 (.nilIface)).bind fun v26 =>
 some (0, [v26], r25.2))
 (some (0, [skipV], g23.2.2))).bind fun g27 =>
 (aPick v24 (g27.2.1.getD 0 .undef) (.bool false)).bind fun v28 =>
 (guardV v28 true
 ((call 7 [(.str [111, 116, 104, 101, 114])] g27.2.2).bind fun r29 =>
 (call 10 [r29.1] r29.2).bind fun r30 =>
 (aBin .eql .plain r30.1 (.int .i64 14)).bind fun v31 =>
 some (0, [v31], r30.2))
 (some (0, [skipV], g27.2.2))).bind fun g32 =>
 (aPick v28 (g32.2.1.getD 0 .undef) (.bool false)).bind fun v33 =>
 (guardV v33 true
 ((call 13 [(.nilIface), (.int .i64 0)] g32.2.2).bind fun r34 =>
 (aUn .not r34.1).bind fun v35 =>
 some (0, [v35], r34.2))
 (some (0, [skipV], g32.2.2))).bind fun g36 =>
 (aPick v33 (g36.2.1.getD 0 .undef) (.bool false)).bind fun v37 =>
 some (0, [v37], g36.2.2)
theorem run14 (call : Go.Fw.Call) (h : Heap) : runFn call (.code A14) [] h = (S14 call  h).bind ansOf := by kernel_rfl

/-- frankpledge/frankpledgelaw1.same -/
noncomputable def A15 : AFunc := ⟨2, (.seq (.region [.op 0 (.mov 4 (.const (.bool false)))] [])
 (.seq (.region [.op 0 (.mov 8 (.tmp 0)),
 .op 1 (.mov 9 (.tmp 1)),
 .op 2 (.call 10 16 [.tmp 8, .tmp 9]),
 .op 3 (.mov 5 (.tmp 10))] [])
 (.seq (.seq (.region [.op 0 (.mov 11 (.tmp 0)),
 .op 1 (.len 12 false (.tmp 11)),
 .op 2 (.bin 13 .eql .plain (.tmp 12) (.const (.int .i64 0))),
 .op 3 (.mov 14 (.tmp 13)),
 .guard 14 false [.op 4 (.mov 15 (.tmp 1)),
 .op 5 (.bin 16 .eql .plain (.tmp 15) (.const (.int .i64 0)))] [] [16],
 .op 6 (.pick 17 (.tmp 14) (.const (.bool true)) (.tmp 16))] [])
 (.cond (.tmp 17)
 (.seq (.region [.op 0 (.mov 18 (.tmp 5)),
 .op 1 (.bin 19 .eql (.iface true []) (.tmp 18) (.const (.nilIface))),
 .op 2 (.mov 20 (.tmp 19)),
 .guard 20 true [.op 3 (.mov 21 (.tmp 5)),
 .op 4 (.call 22 10 [.tmp 21]),
 .op 5 (.bin 23 .eql .plain (.tmp 22) (.const (.int .i64 0)))] [] [23],
 .op 6 (.pick 24 (.tmp 20) (.tmp 23) (.const (.bool false))),
 .op 7 (.mov 25 (.tmp 24)),
 .guard 25 true [.op 8 (.mov 26 (.tmp 5)),
 .op 9 (.call 27 12 [.tmp 26]),
 .op 10 (.len 28 false (.tmp 27)),
 .op 11 (.bin 29 .eql .plain (.tmp 28) (.const (.int .i64 0)))] [] [29],
 .op 12 (.pick 30 (.tmp 25) (.tmp 29) (.const (.bool false))),
 .op 13 (.mov 4 (.tmp 30))] [])
 .ret)
 .skip))
 (.seq (.seq (.region [.op 0 (.mov 31 (.tmp 5)),
 .op 1 (.bin 32 .eql (.iface true []) (.tmp 31) (.const (.nilIface))),
 .op 2 (.mov 33 (.tmp 32)),
 .guard 33 false [.op 3 (.mov 34 (.tmp 5)),
 .op 4 (.call 35 10 [.tmp 34]),
 .op 5 (.mov 36 (.tmp 1)),
 .op 6 (.bin 37 .neq .plain (.tmp 35) (.tmp 36))] [] [37],
 .op 7 (.pick 38 (.tmp 33) (.const (.bool true)) (.tmp 37)),
 .op 8 (.mov 39 (.tmp 38)),
 .guard 39 false [.op 9 (.mov 40 (.tmp 5)),
 .op 10 (.call 41 12 [.tmp 40]),
 .op 11 (.mov 42 (.tmp 0)),
 .op 12 (.call 43 11 [.tmp 41, .tmp 42]),
 .op 13 (.un 44 .not (.tmp 43))] [] [44],
 .op 14 (.pick 45 (.tmp 39) (.const (.bool true)) (.tmp 44)),
 .op 15 (.mov 46 (.tmp 45)),
 .guard 46 false [.op 16 (.mov 47 (.tmp 5)),
 .op 17 (.invoke 48 [(28, 30, none), (41, 20, none), (47, 50, none), (61, 51, none)] (.tmp 47) []),
 .op 18 (.mov 49 (.tmp 0)),
 .op 19 (.mov 50 (.tmp 1)),
 .op 20 (.call 51 25 [.tmp 49, .tmp 50]),
 .op 21 (.bin 52 .neq .plain (.tmp 48) (.tmp 51))] [] [52],
 .op 22 (.pick 53 (.tmp 46) (.const (.bool true)) (.tmp 52))] [])
 (.cond (.tmp 53)
 (.seq (.region [.op 0 (.mov 4 (.const (.bool false)))] [])
 .ret)
 .skip))
 (.seq (.region [.op 0 (.alloc 6 false [.nilPtr])] [])
 (.seq (.region [.op 0 (.alloc 7 false [.int .i64 0])] [])
 (.seq (.region [.op 0 (.mov 54 (.tmp 5)),
 .op 1 (.mkIface 55 56 (.tmp 6)),
 .op 2 (.call 56 24 [.tmp 54, .tmp 55]),
 .op 3 (.mov 57 (.tmp 56)),
 .guard 57 true [.op 4 (.load 58 false 1 (.tmp 6)),
 .op 5 (.nilchk 59 (.tmp 58)),
 .op 6 (.faddr 60 0 (.tmp 59)),
 .op 7 (.load 61 false 1 (.tmp 60)),
 .op 8 (.mov 62 (.tmp 0)),
 .op 9 (.iaddr 63 none 1 (.tmp 62) (.const (.int .i64 0))),
 .op 10 (.load 64 false 1 (.tmp 63)),
 .op 11 (.bin 65 .eql .plain (.tmp 61) (.tmp 64))] [] [65],
 .op 12 (.pick 66 (.tmp 57) (.tmp 65) (.const (.bool false))),
 .op 13 (.mov 67 (.tmp 66)),
 .guard 67 true [.op 14 (.mov 68 (.tmp 5)),
 .op 15 (.mkIface 69 55 (.tmp 7)),
 .op 16 (.call 70 24 [.tmp 68, .tmp 69])] [] [70],
 .op 17 (.pick 71 (.tmp 67) (.tmp 70) (.const (.bool false))),
 .op 18 (.mov 72 (.tmp 71)),
 .guard 72 true [.op 19 (.load 73 false 1 (.tmp 7)),
 .op 20 (.mov 74 (.tmp 1)),
 .op 21 (.bin 75 .eql .plain (.tmp 73) (.tmp 74))] [] [75],
 .op 22 (.pick 76 (.tmp 72) (.tmp 75) (.const (.bool false))),
 .op 23 (.mov 77 (.tmp 76)),
 .guard 77 true [.op 24 (.mov 78 (.tmp 5)),
 .op 25 (.mov 79 (.tmp 1)),
 .op 26 (.mkIface 80 28 (.tmp 79)),
 .op 27 (.call 81 9 [.tmp 78, .tmp 80])] [] [81],
 .op 28 (.pick 82 (.tmp 77) (.tmp 81) (.const (.bool false))),
 .op 29 (.mov 83 (.tmp 82)),
 .guard 83 true [.op 30 (.mov 84 (.tmp 5)),
 .op 31 (.mov 85 (.tmp 1)),
 .op 32 (.bin 86 .add .plain (.tmp 85) (.const (.int .i64 1))),
 .op 33 (.mkIface 87 28 (.tmp 86)),
 .op 34 (.call 88 9 [.tmp 84, .tmp 87]),
 .op 35 (.un 89 .not (.tmp 88))] [] [89],
 .op 36 (.pick 90 (.tmp 83) (.tmp 89) (.const (.bool false))),
 .op 37 (.mov 91 (.tmp 90)),
 .guard 91 true [.op 38 (.mov 92 (.tmp 5)),
 .op 39 (.mov 93 (.tmp 1)),
 .op 40 (.call 94 13 [.tmp 92, .tmp 93])] [] [94],
 .op 41 (.pick 95 (.tmp 91) (.tmp 94) (.const (.bool false))),
 .op 42 (.mov 96 (.tmp 95)),
 .guard 96 true [.op 43 (.mov 97 (.tmp 5)),
 .op 44 (.mov 98 (.tmp 1)),
 .op 45 (.bin 99 .add .plain (.tmp 98) (.const (.int .i64 1))),
 .op 46 (.call 100 13 [.tmp 97, .tmp 99]),
 .op 47 (.un 101 .not (.tmp 100))] [] [101],
 .op 48 (.pick 102 (.tmp 96) (.tmp 101) (.const (.bool false))),
 .op 49 (.mov 4 (.tmp 102))] [])
 .ret))))))),
 [.tmp 4]⟩
theorem ok15 : funcOk Tryd.prog (drawOk Tryd.prog) Tryd.f15 A15 = true := by kernel_rfl
noncomputable def S15 (call : Go.Fw.Call) (a0 a1 : AVal) (h : Heap) : Option J :=
 (call 16 [a0, a1] h).bind fun r1 =>
 (aLen false a0).bind fun v2 =>
 (aBin .eql .plain v2 (.int .i64 0)).bind fun v3 =>
 (guardV v3 false
 ((aBin .eql .plain a1 (.int .i64 0)).bind fun v4 =>
 some (0, [v4], r1.2))
 (some (0, [skipV], r1.2))).bind fun g5 =>
 (aPick v3 (.bool true) (g5.2.1.getD 0 .undef)).bind fun v6 =>
 condV v6
 ((aBin .eql (.iface true []) r1.1 (.nilIface)).bind fun v7 =>
 (guardV v7 true
 ((call 10 [r1.1] g5.2.2).bind fun r8 =>
 (aBin .eql .plain r8.1 (.int .i64 0)).bind fun v9 =>
 some (0, [v9], r8.2))
 (some (0, [skipV], g5.2.2))).bind fun g10 =>
 (aPick v7 (g10.2.1.getD 0 .undef) (.bool false)).bind fun v11 =>
 (guardV v11 true
 ((call 12 [r1.1] g10.2.2).bind fun r12 =>
 (aLen false r12.1).bind fun v13 =>
 (aBin .eql .plain v13 (.int .i64 0)).bind fun v14 =>
 some (0, [v14], r12.2))
 (some (0, [skipV], g10.2.2))).bind fun g15 =>
 (aPick v11 (g15.2.1.getD 0 .undef) (.bool false)).bind fun v16 =>
 some (0, [v16], g15.2.2))
 ((aBin .eql (.iface true []) r1.1 (.nilIface)).bind fun v17 =>
 (guardV v17 false
 ((call 10 [r1.1] g5.2.2).bind fun r18 =>
 (aBin .neq .plain r18.1 a1).bind fun v19 =>
 some (0, [v19], r18.2))
 (some (0, [skipV], g5.2.2))).bind fun g20 =>
 (aPick v17 (.bool true) (g20.2.1.getD 0 .undef)).bind fun v21 =>
 (guardV v21 false
 ((call 12 [r1.1] g20.2.2).bind fun r22 =>
 (call 11 [r22.1, a0] r22.2).bind fun r23 =>
 (aUn .not r23.1).bind fun v24 =>
 some (0, [v24], r23.2))
 (some (0, [skipV], g20.2.2))).bind fun g25 =>
 (aPick v21 (.bool true) (g25.2.1.getD 0 .undef)).bind fun v26 =>
 (guardV v26 false
 ((aMeth [(28, 30, none), (41, 20, none), (47, 50, none), (61, 51, none)] r1.1).bind fun q27 =>
 (call q27.1 (q27.2 :: []) g25.2.2).bind fun r28 =>
 (call 25 [a0, a1] r28.2).bind fun r29 =>
 (aBin .neq .plain r28.1 r29.1).bind fun v30 =>
 some (0, [v30], r29.2))
 (some (0, [skipV], g25.2.2))).bind fun g31 =>
 (aPick v26 (.bool true) (g31.2.1.getD 0 .undef)).bind fun v32 =>
 condV v32
 (some (0, [(.bool false)], g31.2.2))
 ((call 24 [r1.1, (.iface 56 (.ptr g31.2.2.next 0))] ((g31.2.2.alloc [.nilPtr]).alloc [.int .i64 0])).bind fun r33 =>
 (guardV r33.1 true
 ((aLoad r33.2 1 (.ptr g31.2.2.next 0)).bind fun c34 =>
 (fromCells false c34).bind fun v35 =>
 (aNilchk v35).bind fun v36 =>
 (aFaddr 0 v36).bind fun v37 =>
 (aLoad r33.2 1 v37).bind fun c38 =>
 (fromCells false c38).bind fun v39 =>
 (aIaddr 1 a0 (.int .i64 0)).bind fun v40 =>
 (aLoad r33.2 1 v40).bind fun c41 =>
 (fromCells false c41).bind fun v42 =>
 (aBin .eql .plain v39 v42).bind fun v43 =>
 some (0, [v43], r33.2))
 (some (0, [skipV], r33.2))).bind fun g44 =>
 (aPick r33.1 (g44.2.1.getD 0 .undef) (.bool false)).bind fun v45 =>
 (guardV v45 true
 ((call 24 [r1.1, (.iface 55 (.ptr (g31.2.2.alloc [.nilPtr]).next 0))] g44.2.2).bind fun r46 =>
 some (0, [r46.1], r46.2))
 (some (0, [skipV], g44.2.2))).bind fun g47 =>
 (aPick v45 (g47.2.1.getD 0 .undef) (.bool false)).bind fun v48 =>
 (guardV v48 true
 ((aLoad g47.2.2 1 (.ptr (g31.2.2.alloc [.nilPtr]).next 0)).bind fun c49 =>
 (fromCells false c49).bind fun v50 =>
 (aBin .eql .plain v50 a1).bind fun v51 =>
 some (0, [v51], g47.2.2))
 (some (0, [skipV], g47.2.2))).bind fun g52 =>
 (aPick v48 (g52.2.1.getD 0 .undef) (.bool false)).bind fun v53 =>
 (guardV v53 true
 ((call 9 [r1.1, (.iface 28 a1)] g52.2.2).bind fun r54 =>
 some (0, [r54.1], r54.2))
 (some (0, [skipV], g52.2.2))).bind fun g55 =>
 (aPick v53 (g55.2.1.getD 0 .undef) (.bool false)).bind fun v56 =>
 (guardV v56 true
 ((aBin .add .plain a1 (.int .i64 1)).bind fun v57 =>
 (call 9 [r1.1, (.iface 28 v57)] g55.2.2).bind fun r58 =>
 (aUn .not r58.1).bind fun v59 =>
 some (0, [v59], r58.2))
 (some (0, [skipV], g55.2.2))).bind fun g60 =>
 (aPick v56 (g60.2.1.getD 0 .undef) (.bool false)).bind fun v61 =>
 (guardV v61 true
 ((call 13 [r1.1, a1] g60.2.2).bind fun r62 =>
 some (0, [r62.1], r62.2))
 (some (0, [skipV], g60.2.2))).bind fun g63 =>
 (aPick v61 (g63.2.1.getD 0 .undef) (.bool false)).bind fun v64 =>
 (guardV v64 true
 ((aBin .add .plain a1 (.int .i64 1)).bind fun v65 =>
 (call 13 [r1.1, v65] g63.2.2).bind fun r66 =>
 (aUn .not r66.1).bind fun v67 =>
 some (0, [v67], r66.2))
 (some (0, [skipV], g63.2.2))).bind fun g68 =>
 (aPick v64 (g68.2.1.getD 0 .undef) (.bool false)).bind fun v69 =>
 some (0, [v69], g68.2.2)))
theorem run15 (call : Go.Fw.Call) (a0 a1 : AVal) (h : Heap) : runFn call (.code A15) [a0, a1] h = (S15 call a0 a1 h).bind ansOf := by kernel_rfl

/-- frankpledge/frankpledgelaw1.chain -/
noncomputable def A16 : AFunc := ⟨2, (.seq (.region [.op 0 (.mov 4 (.const (.nilIface)))] [])
 (.seq (.seq (.region [.op 0 (.mov 7 (.tmp 0)),
 .op 1 (.len 8 false (.tmp 7)),
 .op 2 (.bin 9 .eql .plain (.tmp 8) (.const (.int .i64 0)))] [])
 (.cond (.tmp 9)
 (.seq (.region [.op 0 (.mov 4 (.const (.nilIface)))] [])
 .ret)
 .skip))
 (.seq (.region [.op 0 (.mov 10 (.tmp 0)),
 .op 1 (.mov 11 (.tmp 0)),
 .op 2 (.len 12 false (.tmp 11)),
 .op 3 (.bin 13 .sub .plain (.tmp 12) (.const (.int .i64 1))),
 .op 4 (.iaddr 14 none 1 (.tmp 10) (.tmp 13)),
 .op 5 (.load 15 false 1 (.tmp 14)),
 .op 6 (.mov 16 (.tmp 1)),
 .op 7 (.call 17 19 [.tmp 15, .tmp 16]),
 .op 8 (.mov 5 (.tmp 17))] [])
 (.seq (.seq (.region [.op 0 (.mov 18 (.tmp 0)),
 .op 1 (.len 19 false (.tmp 18)),
 .op 2 (.bin 20 .sub .plain (.tmp 19) (.const (.int .i64 2))),
 .op 3 (.mov 6 (.tmp 20))] [])
 (.block 0 (.loop ⟨[0, 5, 6], []⟩ [((.exit 0), ⟨[5], []⟩)]
 (.seq (.seq (.region [.op 0 (.mov 21 (.tmp 6)),
 .op 1 (.bin 22 .geq .plain (.tmp 21) (.const (.int .i64 0)))] [])
 (.cond (.tmp 22)
 .skip
 (.exit 0)))
 (.seq (.block 1 (.region [.op 0 (.mov 25 (.tmp 0)),
 .op 1 (.mov 26 (.tmp 6)),
 .op 2 (.iaddr 27 none 1 (.tmp 25) (.tmp 26)),
 .op 3 (.load 28 false 1 (.tmp 27)),
 .op 4 (.mov 29 (.tmp 5)),
 .op 5 (.call 30 8 [.tmp 28, .tmp 29]),
 .op 6 (.mov 5 (.tmp 30))] []))
 (.region [.op 0 (.mov 23 (.tmp 6)),
 .op 1 (.bin 24 .sub .plain (.tmp 23) (.const (.int .i64 1))),
 .op 2 (.mov 6 (.tmp 24))] []))))))
 (.seq (.region [.op 0 (.mov 31 (.tmp 5)),
 .op 1 (.mov 4 (.tmp 31))] [])
 .ret))))),
 [.tmp 4]⟩
theorem ok16 : funcOk Tryd.prog (drawOk Tryd.prog) Tryd.f16 A16 = true := by kernel_rfl
/-- xs: t0, t5, t6 -/
noncomputable def L16_0 (call : Go.Fw.Call) (xs : List AVal) (h : Heap) : Option J :=
 (aBin .geq .plain (xs.getD 2 .undef) (.int .i64 0)).bind fun v11 =>
 condV v11
 ((aIaddr 1 (xs.getD 0 .undef) (xs.getD 2 .undef)).bind fun v12 =>
 (aLoad h 1 v12).bind fun c13 =>
 (fromCells false c13).bind fun v14 =>
 (call 8 [v14, (xs.getD 1 .undef)] h).bind fun r15 =>
 (aBin .sub .plain (xs.getD 2 .undef) (.int .i64 1)).bind fun v16 =>
 some (0, [(xs.getD 0 .undef), r15.1, v16], r15.2))
 (some (1, [(xs.getD 1 .undef)], h))
noncomputable def S16 (call : Go.Fw.Call) (a0 a1 : AVal) (h : Heap) : Option J :=
 (aLen false a0).bind fun v1 =>
 (aBin .eql .plain v1 (.int .i64 0)).bind fun v2 =>
 condV v2
 (some (0, [(.nilIface)], h))
 ((aLen false a0).bind fun v3 =>
 (aBin .sub .plain v3 (.int .i64 1)).bind fun v4 =>
 (aIaddr 1 a0 v4).bind fun v5 =>
 (aLoad h 1 v5).bind fun c6 =>
 (fromCells false c6).bind fun v7 =>
 (call 19 [v7, a1] h).bind fun r8 =>
 (aLen false a0).bind fun v9 =>
 (aBin .sub .plain v9 (.int .i64 2)).bind fun v10 =>
 (loop (L16_0 call) [a0, r8.1, v10] r8.2).bind fun x17 =>
 bif Nat.beq x17.1 1 then some (0, [(x17.2.1.getD 0 .undef)], x17.2.2) else
 none)
theorem run16 (call : Go.Fw.Call) (a0 a1 : AVal) (h : Heap) : runFn call (.code A16) [a0, a1] h = (S16 call a0 a1 h).bind ansOf := by kernel_rfl

/-- errors.Unwrap -/
noncomputable def A17 : AFunc := ⟨1, (.seq (.region [.op 0 (.mov 2 (.const (.nilIface)))] [])
 (.seq (.region [.op 0 (.mov 6 (.tmp 0)),
 .op 1 (.tassert 7 [(28, false), (41, true), (47, false), (55, false), (61, false)] (.tmp 6)),
 .op 2 (.mov 5 (.tmp 7)),
 .op 3 (.extract 8 (.tmp 5) 0),
 .op 4 (.extract 9 (.tmp 5) 1),
 .op 5 (.mov 3 (.tmp 8)),
 .op 6 (.mov 4 (.tmp 9))] [])
 (.seq (.seq (.region [.op 0 (.mov 10 (.tmp 4)),
 .op 1 (.un 11 .not (.tmp 10))] [])
 (.cond (.tmp 11)
 (.seq (.region [.op 0 (.mov 2 (.const (.nilIface)))] [])
 .ret)
 .skip))
 (.seq (.region [.op 0 (.mov 12 (.tmp 3)),
 .op 1 (.invoke 13 [(41, 21, none), (61, 52, none)] (.tmp 12) []),
 .op 2 (.mov 2 (.tmp 13))] [])
 .ret)))),
 [.tmp 2]⟩
theorem ok17 : funcOk Tryd.prog (drawOk Tryd.prog) Tryd.f17 A17 = true := by kernel_rfl
noncomputable def S17 (call : Go.Fw.Call) (a0 : AVal) (h : Heap) : Option J :=
 (aAssert [(28, false), (41, true), (47, false), (55, false), (61, false)] a0).bind fun v1 =>
 (aExtract 0 v1).bind fun v2 =>
 (aExtract 1 v1).bind fun v3 =>
 (aUn .not v3).bind fun v4 =>
 condV v4
 (some (0, [(.nilIface)], h))
 ((aMeth [(41, 21, none), (61, 52, none)] v2).bind fun q5 =>
 (call q5.1 (q5.2 :: []) h).bind fun r6 =>
 some (0, [r6.1], r6.2))
theorem run17 (call : Go.Fw.Call) (a0 : AVal) (h : Heap) : runFn call (.code A17) [a0] h = (S17 call a0 h).bind ansOf := by kernel_rfl

/-- errors.Join -/
noncomputable def A18 : AFunc := ⟨1, (.seq (.region [.op 0 (.mov 2 (.const (.nilIface)))] [])
 (.seq (.region [.op 0 (.mov 3 (.const (.int .i64 0)))] [])
 (.seq (.seq (.region [.op 0 (.mov 9 (.tmp 0)),
 .op 1 (.len 10 false (.tmp 9)),
 .op 2 (.mov 11 (.const (.int .i64 0)))] [])
 (.block 0 (.loop ⟨[0, 3, 9, 10, 11], []⟩ [((.exit 0), ⟨[0, 3], []⟩)]
 (.seq (.region [.op 0 (.bin 12 .lss .plain (.tmp 11) (.tmp 10))] [])
 (.seq (.cond (.tmp 12)
 .skip
 (.exit 0))
 (.seq (.block 1 (.seq (.region [.op 0 (.iaddr 13 none 1 (.tmp 9) (.tmp 11)),
 .op 1 (.load 14 false 1 (.tmp 13)),
 .op 2 (.mov 5 (.tmp 14))] [])
 (.seq (.region [.op 0 (.mov 15 (.tmp 5)),
 .op 1 (.bin 16 .neq (.iface true []) (.tmp 15) (.const (.nilIface)))] [])
 (.join [(.normal, ⟨[0, 3, 9, 10, 11], []⟩)] (.cond (.tmp 16)
 (.region [.op 0 (.mov 17 (.tmp 3)),
 .op 1 (.bin 18 .add .plain (.tmp 17) (.const (.int .i64 1))),
 .op 2 (.mov 3 (.tmp 18))] [])
 .skip)))))
 (.region [.op 0 (.bin 19 .add .plain (.tmp 11) (.const (.int .i64 1))),
 .op 1 (.mov 11 (.tmp 19))] [])))))))
 (.seq (.seq (.region [.op 0 (.mov 20 (.tmp 3)),
 .op 1 (.bin 21 .eql .plain (.tmp 20) (.const (.int .i64 0)))] [])
 (.cond (.tmp 21)
 (.seq (.region [.op 0 (.mov 2 (.const (.nilIface)))] [])
 .ret)
 .skip))
 (.seq (.region [.op 0 (.mov 22 (.tmp 3)),
 .op 1 (.mkSlice 23 1 16 [.nilIface] (.const (.int .i64 0)) (.tmp 22)),
 .op 2 (.build 24 [.nilSlice] [(0, 1, .tmp 23)]),
 .op 3 (.box 25 false (.tmp 24)),
 .op 4 (.mov 6 (.tmp 25))] [])
 (.seq (.seq (.region [.op 0 (.mov 26 (.tmp 0)),
 .op 1 (.len 27 false (.tmp 26)),
 .op 2 (.mov 28 (.const (.int .i64 0)))] [])
 (.block 2 (.loop ⟨[6, 26, 27, 28], []⟩ [((.exit 2), ⟨[6], []⟩)]
 (.seq (.region [.op 0 (.bin 29 .lss .plain (.tmp 28) (.tmp 27))] [])
 (.seq (.cond (.tmp 29)
 .skip
 (.exit 2))
 (.seq (.block 3 (.seq (.region [.op 0 (.iaddr 30 none 1 (.tmp 26) (.tmp 28)),
 .op 1 (.load 31 false 1 (.tmp 30)),
 .op 2 (.mov 8 (.tmp 31))] [])
 (.seq (.region [.op 0 (.mov 32 (.tmp 8)),
 .op 1 (.bin 33 .neq (.iface true []) (.tmp 32) (.const (.nilIface)))] [])
 (.join [(.normal, ⟨[6, 26, 27, 28], []⟩)] (.cond (.tmp 33)
 (.region [.op 0 (.mov 34 (.tmp 6)),
 .op 1 (.mov 35 (.tmp 6)),
 .op 2 (.nilchk 36 (.tmp 35)),
 .op 3 (.faddr 37 0 (.tmp 36)),
 .op 4 (.load 38 false 1 (.tmp 37)),
 .op 5 (.mov 39 (.tmp 8)),
 .op 6 (.buildSl 40 [.nilIface] 1 1 [(0, .tmp 39)]),
 .op 7 (.append 41 1 16 [.nilIface] false (.tmp 38) (.tmp 40)),
 .op 8 (.nilchk 42 (.tmp 34)),
 .op 9 (.faddr 43 0 (.tmp 42)),
 .op 10 (.store false 1 (.tmp 43) (.tmp 41))] [])
 .skip)))))
 (.region [.op 0 (.bin 44 .add .plain (.tmp 28) (.const (.int .i64 1))),
 .op 1 (.mov 28 (.tmp 44))] [])))))))
 (.seq (.region [.op 0 (.mov 45 (.tmp 6)),
 .op 1 (.mkIface 46 61 (.tmp 45)),
 .op 2 (.mov 2 (.tmp 46))] [])
 .ret))))))),
 [.tmp 2]⟩
theorem ok18 : funcOk Tryd.prog (drawOk Tryd.prog) Tryd.f18 A18 = true := by kernel_rfl
/-- xs: t0, t3, t9, t10, t11 -/
noncomputable def L18_0 (call : Go.Fw.Call) (xs : List AVal) (h : Heap) : Option J :=
 (aBin .lss .plain (xs.getD 4 .undef) (xs.getD 3 .undef)).bind fun v2 =>
 condV v2
 ((aIaddr 1 (xs.getD 2 .undef) (xs.getD 4 .undef)).bind fun v3 =>
 (aLoad h 1 v3).bind fun c4 =>
 (fromCells false c4).bind fun v5 =>
 (aBin .neq (.iface true []) v5 (.nilIface)).bind fun v6 =>
 (condV v6
 ((aBin .add .plain (xs.getD 1 .undef) (.int .i64 1)).bind fun v7 =>
 some (0, [(xs.getD 0 .undef), v7, (xs.getD 2 .undef), (xs.getD 3 .undef), (xs.getD 4 .undef)], h))
 (some (0, [(xs.getD 0 .undef), (xs.getD 1 .undef), (xs.getD 2 .undef), (xs.getD 3 .undef), (xs.getD 4 .undef)], h))).bind fun x8 =>
 bif Nat.beq x8.1 0 then (aBin .add .plain (x8.2.1.getD 4 .undef) (.int .i64 1)).bind fun v9 =>
 some (0, [(x8.2.1.getD 0 .undef), (x8.2.1.getD 1 .undef), (x8.2.1.getD 2 .undef), (x8.2.1.getD 3 .undef), v9], x8.2.2) else
 none)
 (some (1, [(xs.getD 0 .undef), (xs.getD 1 .undef)], h))
/-- xs: t6, t26, t27, t28 -/
noncomputable def L18_1 (call : Go.Fw.Call) (xs : List AVal) (h : Heap) : Option J :=
 (aBin .lss .plain (xs.getD 3 .undef) (xs.getD 2 .undef)).bind fun v17 =>
 condV v17
 ((aIaddr 1 (xs.getD 1 .undef) (xs.getD 3 .undef)).bind fun v18 =>
 (aLoad h 1 v18).bind fun c19 =>
 (fromCells false c19).bind fun v20 =>
 (aBin .neq (.iface true []) v20 (.nilIface)).bind fun v21 =>
 (condV v21
 ((aNilchk (xs.getD 0 .undef)).bind fun v22 =>
 (aFaddr 0 v22).bind fun v23 =>
 (aLoad h 1 v23).bind fun c24 =>
 (fromCells false c24).bind fun v25 =>
 (aFill (reps [.nilIface] 1) [(0, 1, v20)]).bind fun c26 =>
 (aAppend 1 16 [.nilIface] false v25 (.slice h.next 0 1 1 1 true) (h.alloc c26)).bind fun r27 =>
 (aNilchk (xs.getD 0 .undef)).bind fun v28 =>
 (aFaddr 0 v28).bind fun v29 =>
 (aCells 1 r27.1).bind fun c30 =>
 (aStore r27.2 v29 c30).bind fun h31 =>
 some (0, [(xs.getD 0 .undef), (xs.getD 1 .undef), (xs.getD 2 .undef), (xs.getD 3 .undef)], h31))
 (some (0, [(xs.getD 0 .undef), (xs.getD 1 .undef), (xs.getD 2 .undef), (xs.getD 3 .undef)], h))).bind fun x32 =>
 bif Nat.beq x32.1 0 then (aBin .add .plain (x32.2.1.getD 3 .undef) (.int .i64 1)).bind fun v33 =>
 some (0, [(x32.2.1.getD 0 .undef), (x32.2.1.getD 1 .undef), (x32.2.1.getD 2 .undef), v33], x32.2.2) else
 none)
 (some (1, [(xs.getD 0 .undef)], h))
noncomputable def S18 (call : Go.Fw.Call) (a0 : AVal) (h : Heap) : Option J :=
 (aLen false a0).bind fun v1 =>
 (loop (L18_0 call) [a0, (.int .i64 0), a0, v1, (.int .i64 0)] h).bind fun x10 =>
 bif Nat.beq x10.1 1 then (aBin .eql .plain (x10.2.1.getD 1 .undef) (.int .i64 0)).bind fun v11 =>
 condV v11
 (some (0, [(.nilIface)], x10.2.2))
 ((aMkSlice 1 16 [.nilIface] (.int .i64 0) (x10.2.1.getD 1 .undef) x10.2.2).bind fun r12 =>
 (aFill [.nilSlice] [(0, 1, r12.1)]).bind fun c13 =>
 (AVal.cells? (.agg c13)).bind fun c14 =>
 (aLen false (x10.2.1.getD 0 .undef)).bind fun v16 =>
 (loop (L18_1 call) [(.ptr r12.2.next 0), (x10.2.1.getD 0 .undef), v16, (.int .i64 0)] (r12.2.alloc c14)).bind fun x34 =>
 bif Nat.beq x34.1 1 then some (0, [(.iface 61 (x34.2.1.getD 0 .undef))], x34.2.2) else
 none) else
 none
theorem run18 (call : Go.Fw.Call) (a0 : AVal) (h : Heap) : runFn call (.code A18) [a0] h = (S18 call a0 h).bind ansOf := by kernel_rfl

/-- frankpledge/fault.New -/
noncomputable def A19 : AFunc := ⟨2, (.seq (.region [.op 0 (.mov 4 (.const (.nilIface)))] [])
 (.seq (.seq (.region [.op 0 (.mov 5 (.tmp 1)),
 .op 1 (.bin 6 .eql .plain (.tmp 5) (.const (.int .i64 0)))] [])
 (.cond (.tmp 6)
 (.seq (.region [.op 0 (.mov 4 (.const (.nilIface)))] [])
 .ret)
 .skip))
 (.seq (.region [.op 0 (.mov 7 (.tmp 0)),
 .op 1 (.mov 8 (.tmp 1)),
 .op 2 (.mkIface 9 28 (.tmp 8)),
 .op 3 (.build 10 [.str [], .nilIface] [(0, 1, .tmp 7), (1, 1, .tmp 9)]),
 .op 4 (.box 11 false (.tmp 10)),
 .op 5 (.mkIface 12 41 (.tmp 11)),
 .op 6 (.mov 4 (.tmp 12))] [])
 .ret))),
 [.tmp 4]⟩
theorem ok19 : funcOk Tryd.prog (drawOk Tryd.prog) Tryd.f19 A19 = true := by kernel_rfl
noncomputable def S19 (call : Go.Fw.Call) (a0 a1 : AVal) (h : Heap) : Option J :=
 (aBin .eql .plain a1 (.int .i64 0)).bind fun v1 =>
 condV v1
 (some (0, [(.nilIface)], h))
 ((aFill [.str [], .nilIface] [(0, 1, a0), (1, 1, (.iface 28 a1))]).bind fun c2 =>
 (AVal.cells? (.agg c2)).bind fun c3 =>
 some (0, [(.iface 41 (.ptr h.next 0))], (h.alloc c3)))
theorem run19 (call : Go.Fw.Call) (a0 a1 : AVal) (h : Heap) : runFn call (.code A19) [a0, a1] h = (S19 call a0 a1 h).bind ansOf := by kernel_rfl

/-- (*frankpledge/fault.Fault).Error -/
noncomputable def A20 : AFunc := ⟨1, (.seq (.region [.op 0 (.mov 2 (.const (.str [])))] [])
 (.seq (.region [.op 0 (.mov 4 (.tmp 0)),
 .op 1 (.nilchk 5 (.tmp 4)),
 .op 2 (.faddr 6 0 (.tmp 5)),
 .op 3 (.load 7 false 1 (.tmp 6)),
 .op 4 (.bin 8 .add .plain (.tmp 7) (.const (.str [58, 32]))),
 .op 5 (.mov 3 (.tmp 8))] [])
 (.seq (.seq (.region [.op 0 (.mov 9 (.tmp 0)),
 .op 1 (.nilchk 10 (.tmp 9)),
 .op 2 (.faddr 11 1 (.tmp 10)),
 .op 3 (.load 12 false 1 (.tmp 11)),
 .op 4 (.bin 13 .neq (.iface true []) (.tmp 12) (.const (.nilIface)))] [])
 (.join [(.normal, ⟨[3], []⟩)] (.cond (.tmp 13)
 (.region [.op 0 (.mov 14 (.tmp 3)),
 .op 1 (.mov 15 (.tmp 0)),
 .op 2 (.nilchk 16 (.tmp 15)),
 .op 3 (.faddr 17 1 (.tmp 16)),
 .op 4 (.load 18 false 1 (.tmp 17)),
 .op 5 (.invoke 19 [(28, 30, none), (41, 20, none), (47, 50, none), (61, 51, none)] (.tmp 18) []),
 .op 6 (.bin 20 .add .plain (.tmp 14) (.tmp 19)),
 .op 7 (.mov 3 (.tmp 20))] [])
 .skip)))
 (.seq (.region [.op 0 (.mov 21 (.tmp 3)),
 .op 1 (.mov 2 (.tmp 21))] [])
 .ret)))),
 [.tmp 2]⟩
theorem ok20 : funcOk Tryd.prog (drawOk Tryd.prog) Tryd.f20 A20 = true := by kernel_rfl
noncomputable def S20 (call : Go.Fw.Call) (a0 : AVal) (h : Heap) : Option J :=
 (aNilchk a0).bind fun v1 =>
 (aFaddr 0 v1).bind fun v2 =>
 (aLoad h 1 v2).bind fun c3 =>
 (fromCells false c3).bind fun v4 =>
 (aBin .add .plain v4 (.str [58, 32])).bind fun v5 =>
 (aNilchk a0).bind fun v6 =>
 (aFaddr 1 v6).bind fun v7 =>
 (aLoad h 1 v7).bind fun c8 =>
 (fromCells false c8).bind fun v9 =>
 (aBin .neq (.iface true []) v9 (.nilIface)).bind fun v10 =>
 (condV v10
 ((aNilchk a0).bind fun v11 =>
 (aFaddr 1 v11).bind fun v12 =>
 (aLoad h 1 v12).bind fun c13 =>
 (fromCells false c13).bind fun v14 =>
 (aMeth [(28, 30, none), (41, 20, none), (47, 50, none), (61, 51, none)] v14).bind fun q15 =>
 (call q15.1 (q15.2 :: []) h).bind fun r16 =>
 (aBin .add .plain v5 r16.1).bind fun v17 =>
 some (0, [v17], r16.2))
 (some (0, [v5], h))).bind fun x18 =>
 bif Nat.beq x18.1 0 then some (0, [(x18.2.1.getD 0 .undef)], x18.2.2) else
 none
theorem run20 (call : Go.Fw.Call) (a0 : AVal) (h : Heap) : runFn call (.code A20) [a0] h = (S20 call a0 h).bind ansOf := by kernel_rfl

/-- (*frankpledge/fault.Fault).Unwrap -/
noncomputable def A21 : AFunc := ⟨1, (.seq (.region [.op 0 (.mov 2 (.const (.nilIface)))] [])
 (.seq (.region [.op 0 (.mov 3 (.tmp 0)),
 .op 1 (.nilchk 4 (.tmp 3)),
 .op 2 (.faddr 5 1 (.tmp 4)),
 .op 3 (.load 6 false 1 (.tmp 5)),
 .op 4 (.mov 2 (.tmp 6))] [])
 .ret)),
 [.tmp 2]⟩
theorem ok21 : funcOk Tryd.prog (drawOk Tryd.prog) Tryd.f21 A21 = true := by kernel_rfl
noncomputable def S21 (call : Go.Fw.Call) (a0 : AVal) (h : Heap) : Option J :=
 (aNilchk a0).bind fun v1 =>
 (aFaddr 1 v1).bind fun v2 =>
 (aLoad h 1 v2).bind fun c3 =>
 (fromCells false c3).bind fun v4 =>
 some (0, [v4], h)
theorem run21 (call : Go.Fw.Call) (a0 : AVal) (h : Heap) : runFn call (.code A21) [a0] h = (S21 call a0 h).bind ansOf := by kernel_rfl

-- 22 no body
/-- errors.is -/
noncomputable def A23 : AFunc := ⟨3, (.seq (.region [.op 0 (.mov 6 (.const (.bool false)))] [])
 (.block 0 (.loop ⟨[0, 1, 2], []⟩ [(.ret, ⟨[6], []⟩)]
 (.block 1 (.seq (.seq (.region [.op 0 (.mov 14 (.tmp 2)),
 .op 1 (.mov 15 (.tmp 14)),
 .guard 15 true [.op 2 (.mov 16 (.tmp 0)),
 .op 3 (.mov 17 (.tmp 1)),
 .op 4 (.bin 18 .eql (.iface false [56, 83, 95, 111, 123]) (.tmp 16) (.tmp 17))] [] [18],
 .op 5 (.pick 19 (.tmp 15) (.tmp 18) (.const (.bool false)))] [])
 (.cond (.tmp 19)
 (.seq (.region [.op 0 (.mov 6 (.const (.bool true)))] [])
 .ret)
 .skip))
 (.seq (.seq (.region [.op 0 (.mov 21 (.tmp 0)),
 .op 1 (.tassert 22 [(28, false), (41, false), (47, false), (55, false), (61, false)] (.tmp 21)),
 .op 2 (.mov 20 (.tmp 22)),
 .op 3 (.extract 23 (.tmp 20) 0),
 .op 4 (.extract 24 (.tmp 20) 1),
 .op 5 (.mov 7 (.tmp 23)),
 .op 6 (.mov 8 (.tmp 24))] [])
 (.seq (.region [.op 0 (.mov 25 (.tmp 8)),
 .op 1 (.mov 26 (.tmp 25)),
 .guard 26 true [.op 2 (.mov 27 (.tmp 7)),
 .op 3 (.mov 28 (.tmp 1)),
 .op 4 (.invoke 29 [] (.tmp 27) [.tmp 28])] [] [29],
 .op 5 (.pick 30 (.tmp 26) (.tmp 29) (.const (.bool false)))] [])
 (.cond (.tmp 30)
 (.seq (.region [.op 0 (.mov 6 (.const (.bool true)))] [])
 .ret)
 .skip)))
 (.seq (.region [.op 0 (.mov 31 (.tmp 0))] [])
 (.block 2 (.seq (.region [.op 0 (.tassert 32 [(28, false), (41, true), (47, false), (55, false), (61, false)] (.tmp 31)),
 .op 1 (.extract 33 (.tmp 32) 1),
 .op 2 (.extract 34 (.tmp 32) 0)] [])
 (.cond (.tmp 33)
 (.seq (.region [.op 0 (.mov 9 (.tmp 34))] [])
 (.seq (.region [.op 0 (.mov 35 (.tmp 9)),
 .op 1 (.invoke 36 [(41, 21, none), (61, 52, none)] (.tmp 35) []),
 .op 2 (.mov 0 (.tmp 36))] [])
 (.seq (.region [.op 0 (.mov 37 (.tmp 0)),
 .op 1 (.bin 38 .eql (.iface true []) (.tmp 37) (.const (.nilIface)))] [])
 (.cond (.tmp 38)
 (.seq (.region [.op 0 (.mov 6 (.const (.bool false)))] [])
 .ret)
 .skip))))
 (.seq (.region [.op 0 (.tassert 39 [(28, false), (41, false), (47, false), (55, false), (61, true)] (.tmp 31)),
 .op 1 (.extract 40 (.tmp 39) 1),
 .op 2 (.extract 41 (.tmp 39) 0)] [])
 (.cond (.tmp 40)
 (.seq (.region [.op 0 (.mov 10 (.tmp 41))] [])
 (.seq (.seq (.region [.op 0 (.mov 42 (.tmp 10)),
 .op 1 (.invoke 43 [(41, 21, none), (61, 52, none)] (.tmp 42) []),
 .op 2 (.len 44 false (.tmp 43)),
 .op 3 (.mov 45 (.const (.int .i64 0)))] [])
 (.block 3 (.loop ⟨[1, 2, 43, 44, 45], []⟩ [((.exit 3), ⟨[], []⟩), (.ret, ⟨[6], []⟩)]
 (.seq (.region [.op 0 (.bin 46 .lss .plain (.tmp 45) (.tmp 44))] [])
 (.seq (.cond (.tmp 46)
 .skip
 (.exit 3))
 (.seq (.block 4 (.seq (.region [.op 0 (.iaddr 47 none 1 (.tmp 43) (.tmp 45)),
 .op 1 (.load 48 false 1 (.tmp 47)),
 .op 2 (.mov 12 (.tmp 48))] [])
 (.seq (.region [.op 0 (.mov 49 (.tmp 12)),
 .op 1 (.mov 50 (.tmp 1)),
 .op 2 (.mov 51 (.tmp 2)),
 .op 3 (.call 52 23 [.tmp 49, .tmp 50, .tmp 51])] [])
 (.cond (.tmp 52)
 (.seq (.region [.op 0 (.mov 6 (.const (.bool true)))] [])
 .ret)
 .skip))))
 (.region [.op 0 (.bin 53 .add .plain (.tmp 45) (.const (.int .i64 1))),
 .op 1 (.mov 45 (.tmp 53))] [])))))))
 (.seq (.region [.op 0 (.mov 6 (.const (.bool false)))] [])
 .ret)))
 (.seq (.region [.op 0 (.mov 13 (.tmp 31))] [])
 (.seq (.region [.op 0 (.mov 6 (.const (.bool false)))] [])
 .ret)))))))))))))),
 [.tmp 6]⟩
theorem ok23 : funcOk Tryd.prog (drawOk Tryd.prog) Tryd.f23 A23 = true := by kernel_rfl
/-- xs: t1, t2, t43, t44, t45 -/
noncomputable def L23_1 (call : Go.Fw.Call) (xs : List AVal) (h : Heap) : Option J :=
 (aBin .lss .plain (xs.getD 4 .undef) (xs.getD 3 .undef)).bind fun v23 =>
 condV v23
 ((aIaddr 1 (xs.getD 2 .undef) (xs.getD 4 .undef)).bind fun v24 =>
 (aLoad h 1 v24).bind fun c25 =>
 (fromCells false c25).bind fun v26 =>
 (call 23 [v26, (xs.getD 0 .undef), (xs.getD 1 .undef)] h).bind fun r27 =>
 condV r27.1
 (some (2, [(.bool true)], r27.2))
 ((aBin .add .plain (xs.getD 4 .undef) (.int .i64 1)).bind fun v28 =>
 some (0, [(xs.getD 0 .undef), (xs.getD 1 .undef), (xs.getD 2 .undef), (xs.getD 3 .undef), v28], r27.2)))
 (some (1, [], h))
/-- xs: t0, t1, t2 -/
noncomputable def L23_0 (call : Go.Fw.Call) (xs : List AVal) (h : Heap) : Option J :=
 (guardV (xs.getD 2 .undef) true
 ((aBin .eql (.iface false [56, 83, 95, 111, 123]) (xs.getD 0 .undef) (xs.getD 1 .undef)).bind fun v1 =>
 some (0, [v1], h))
 (some (0, [skipV], h))).bind fun g2 =>
 (aPick (xs.getD 2 .undef) (g2.2.1.getD 0 .undef) (.bool false)).bind fun v3 =>
 condV v3
 (some (1, [(.bool true)], g2.2.2))
 ((aAssert [(28, false), (41, false), (47, false), (55, false), (61, false)] (xs.getD 0 .undef)).bind fun v4 =>
 (aExtract 0 v4).bind fun v5 =>
 (aExtract 1 v4).bind fun v6 =>
 (guardV v6 true
 ((aMeth [] v5).bind fun q7 =>
 (call q7.1 (q7.2 :: [(xs.getD 1 .undef)]) g2.2.2).bind fun r8 =>
 some (0, [r8.1], r8.2))
 (some (0, [skipV], g2.2.2))).bind fun g9 =>
 (aPick v6 (g9.2.1.getD 0 .undef) (.bool false)).bind fun v10 =>
 condV v10
 (some (1, [(.bool true)], g9.2.2))
 ((aAssert [(28, false), (41, true), (47, false), (55, false), (61, false)] (xs.getD 0 .undef)).bind fun v11 =>
 (aExtract 1 v11).bind fun v12 =>
 (aExtract 0 v11).bind fun v13 =>
 condV v12
 ((aMeth [(41, 21, none), (61, 52, none)] v13).bind fun q14 =>
 (call q14.1 (q14.2 :: []) g9.2.2).bind fun r15 =>
 (aBin .eql (.iface true []) r15.1 (.nilIface)).bind fun v16 =>
 condV v16
 (some (1, [(.bool false)], r15.2))
 (some (0, [r15.1, (xs.getD 1 .undef), (xs.getD 2 .undef)], r15.2)))
 ((aAssert [(28, false), (41, false), (47, false), (55, false), (61, true)] (xs.getD 0 .undef)).bind fun v17 =>
 (aExtract 1 v17).bind fun v18 =>
 (aExtract 0 v17).bind fun v19 =>
 condV v18
 ((aMeth [(41, 21, none), (61, 52, none)] v19).bind fun q20 =>
 (call q20.1 (q20.2 :: []) g9.2.2).bind fun r21 =>
 (aLen false r21.1).bind fun v22 =>
 (loop (L23_1 call) [(xs.getD 1 .undef), (xs.getD 2 .undef), r21.1, v22, (.int .i64 0)] r21.2).bind fun x29 =>
 bif Nat.beq x29.1 1 then some (1, [(.bool false)], x29.2.2) else
 bif Nat.beq x29.1 2 then some (1, [(x29.2.1.getD 0 .undef)], x29.2.2) else
 none)
 (some (1, [(.bool false)], g9.2.2)))))
noncomputable def S23 (call : Go.Fw.Call) (a0 a1 a2 : AVal) (h : Heap) : Option J :=
 (loop (L23_0 call) [a0, a1, a2] h).bind fun x30 =>
 bif Nat.beq x30.1 1 then some (0, [(x30.2.1.getD 0 .undef)], x30.2.2) else
 none
theorem run23 (call : Go.Fw.Call) (a0 a1 a2 : AVal) (h : Heap) : runFn call (.code A23) [a0, a1, a2] h = (S23 call a0 a1 a2 h).bind ansOf := by kernel_rfl

/-- errors.As -/
noncomputable def A24 : AFunc := ⟨2, (.seq (.region [.op 0 (.mov 4 (.const (.bool false)))] [])
 (.seq (.seq (.region [.op 0 (.mov 8 (.tmp 0)),
 .op 1 (.bin 9 .eql (.iface true []) (.tmp 8) (.const (.nilIface)))] [])
 (.cond (.tmp 9)
 (.seq (.region [.op 0 (.mov 4 (.const (.bool false)))] [])
 .ret)
 .skip))
 (.seq (.seq (.region [.op 0 (.mov 10 (.tmp 1)),
 .op 1 (.bin 11 .eql (.iface true []) (.tmp 10) (.const (.nilIface)))] [])
 (.cond (.tmp 11)
 .dead
 .skip))
 (.seq (.region [.op 0 (.mov 13 (.tmp 1)),
 .op 1 (.call 14 26 [.tmp 13]),
 .op 2 (.alloc 5 true [.nilPtr, .nilPtr, .int .u64 0]),
 .op 3 (.store true 3 (.tmp 5) (.tmp 14))] [])
 (.seq (.region [.op 0 (.load 15 true 3 (.tmp 5)),
 .op 1 (.call 16 27 [.tmp 15]),
 .op 2 (.mov 6 (.tmp 16))] [])
 (.seq (.seq (.region [.op 0 (.mov 17 (.tmp 6)),
 .op 1 (.invoke 18 [(17, 47, none), (64, 47, some (0, 1, false)), (65, 47, some (0, 1, false))] (.tmp 17) []),
 .op 2 (.bin 19 .neq .plain (.tmp 18) (.const (.int .u8 22))),
 .op 3 (.mov 20 (.tmp 19)),
 .guard 20 false [.op 4 (.load 21 true 3 (.tmp 5)),
 .op 5 (.call 22 28 [.tmp 21])] [] [22],
 .op 6 (.pick 23 (.tmp 20) (.const (.bool true)) (.tmp 22))] [])
 (.cond (.tmp 23)
 .dead
 .skip))
 (.seq (.region [.op 0 (.mov 25 (.tmp 6)),
 .op 1 (.invoke 26 [(65, 56, none), (75, 31, none)] (.tmp 25) []),
 .op 2 (.mov 7 (.tmp 26))] [])
 (.seq (.seq (.region [.op 0 (.mov 27 (.tmp 7)),
 .op 1 (.invoke 28 [(17, 47, none), (64, 47, some (0, 1, false)), (65, 47, some (0, 1, false))] (.tmp 27) []),
 .op 2 (.bin 29 .neq .plain (.tmp 28) (.const (.int .u8 20))),
 .op 3 (.mov 30 (.tmp 29)),
 .guard 30 true [.op 4 (.mov 31 (.tmp 7)),
 .op 5 (.load 32 false 1 (.const (.ptr 0 0))),
 .op 6 (.invoke 33 [(65, 57, none)] (.tmp 31) [.tmp 32]),
 .op 7 (.un 34 .not (.tmp 33))] [] [34],
 .op 8 (.pick 35 (.tmp 30) (.tmp 34) (.const (.bool false)))] [])
 (.cond (.tmp 35)
 .dead
 .skip))
 (.seq (.region [.op 0 (.mov 37 (.tmp 0)),
 .op 1 (.mov 38 (.tmp 1)),
 .op 2 (.load 39 true 3 (.tmp 5)),
 .op 3 (.mov 40 (.tmp 7)),
 .op 4 (.call 41 29 [.tmp 37, .tmp 38, .tmp 39, .tmp 40]),
 .op 5 (.mov 4 (.tmp 41))] [])
 .ret))))))))),
 [.tmp 4]⟩
theorem ok24 : funcOk Tryd.prog (drawOk Tryd.prog) Tryd.f24 A24 = true := by kernel_rfl
noncomputable def S24 (call : Go.Fw.Call) (a0 a1 : AVal) (h : Heap) : Option J :=
 (aBin .eql (.iface true []) a0 (.nilIface)).bind fun v1 =>
 condV v1
 (some (0, [(.bool false)], h))
 ((aBin .eql (.iface true []) a1 (.nilIface)).bind fun v2 =>
 condV v2
 (none)
 ((call 26 [a1] h).bind fun r3 =>
 (aCells 3 r3.1).bind fun c4 =>
 bif Nat.ble ((0) + 3) (List.length (α := AVal) [.nilPtr, .nilPtr, .int .u64 0]) then (rdL (splice [.nilPtr, .nilPtr, .int .u64 0] (0) c4) 0 3).bind fun c5 =>
 (fromCells true c5).bind fun v6 =>
 (call 27 [v6] r3.2).bind fun r7 =>
 (aMeth [(17, 47, none), (64, 47, some (0, 1, false)), (65, 47, some (0, 1, false))] r7.1).bind fun q8 =>
 (call q8.1 (q8.2 :: []) r7.2).bind fun r9 =>
 (aBin .neq .plain r9.1 (.int .u8 22)).bind fun v10 =>
 (guardV v10 false
 ((rdL (splice [.nilPtr, .nilPtr, .int .u64 0] (0) c4) 0 3).bind fun c11 =>
 (fromCells true c11).bind fun v12 =>
 (call 28 [v12] r9.2).bind fun r13 =>
 some (0, [r13.1], r13.2))
 (some (0, [skipV], r9.2))).bind fun g14 =>
 (aPick v10 (.bool true) (g14.2.1.getD 0 .undef)).bind fun v15 =>
 condV v15
 (none)
 ((aMeth [(65, 56, none), (75, 31, none)] r7.1).bind fun q16 =>
 (call q16.1 (q16.2 :: []) g14.2.2).bind fun r17 =>
 (aMeth [(17, 47, none), (64, 47, some (0, 1, false)), (65, 47, some (0, 1, false))] r17.1).bind fun q18 =>
 (call q18.1 (q18.2 :: []) r17.2).bind fun r19 =>
 (aBin .neq .plain r19.1 (.int .u8 20)).bind fun v20 =>
 (guardV v20 true
 ((aLoad r19.2 1 (.ptr 0 0)).bind fun c21 =>
 (fromCells false c21).bind fun v22 =>
 (aMeth [(65, 57, none)] r17.1).bind fun q23 =>
 (call q23.1 (q23.2 :: [v22]) r19.2).bind fun r24 =>
 (aUn .not r24.1).bind fun v25 =>
 some (0, [v25], r24.2))
 (some (0, [skipV], r19.2))).bind fun g26 =>
 (aPick v20 (g26.2.1.getD 0 .undef) (.bool false)).bind fun v27 =>
 condV v27
 (none)
 ((rdL (splice [.nilPtr, .nilPtr, .int .u64 0] (0) c4) 0 3).bind fun c28 =>
 (fromCells true c28).bind fun v29 =>
 (call 29 [a0, a1, v29, r17.1] g26.2.2).bind fun r30 =>
 some (0, [r30.1], r30.2))) else none))
theorem run24 (call : Go.Fw.Call) (a0 a1 : AVal) (h : Heap) : runFn call (.code A24) [a0, a1] h = (S24 call a0 a1 h).bind ansOf := by kernel_rfl

/-- frankpledge/frankpledgelaw1.text -/
noncomputable def A25 : AFunc := ⟨2, (.seq (.region [.op 0 (.mov 4 (.const (.str [])))] [])
 (.seq (.region [.op 0 (.mov 7 (.tmp 1)),
 .op 1 (.call 8 30 [.tmp 7]),
 .op 2 (.mov 5 (.tmp 8))] [])
 (.seq (.seq (.region [.op 0 (.mov 9 (.tmp 0)),
 .op 1 (.len 10 false (.tmp 9)),
 .op 2 (.bin 11 .sub .plain (.tmp 10) (.const (.int .i64 1))),
 .op 3 (.mov 6 (.tmp 11))] [])
 (.block 0 (.loop ⟨[0, 5, 6], []⟩ [((.exit 0), ⟨[5], []⟩)]
 (.seq (.seq (.region [.op 0 (.mov 12 (.tmp 6)),
 .op 1 (.bin 13 .geq .plain (.tmp 12) (.const (.int .i64 0)))] [])
 (.cond (.tmp 13)
 .skip
 (.exit 0)))
 (.seq (.block 1 (.region [.op 0 (.mov 16 (.tmp 0)),
 .op 1 (.mov 17 (.tmp 6)),
 .op 2 (.iaddr 18 none 1 (.tmp 16) (.tmp 17)),
 .op 3 (.load 19 false 1 (.tmp 18)),
 .op 4 (.bin 20 .add .plain (.tmp 19) (.const (.str [58, 32]))),
 .op 5 (.mov 21 (.tmp 5)),
 .op 6 (.bin 22 .add .plain (.tmp 20) (.tmp 21)),
 .op 7 (.mov 5 (.tmp 22))] []))
 (.region [.op 0 (.mov 14 (.tmp 6)),
 .op 1 (.bin 15 .sub .plain (.tmp 14) (.const (.int .i64 1))),
 .op 2 (.mov 6 (.tmp 15))] []))))))
 (.seq (.region [.op 0 (.mov 23 (.tmp 5)),
 .op 1 (.mov 4 (.tmp 23))] [])
 .ret)))),
 [.tmp 4]⟩
theorem ok25 : funcOk Tryd.prog (drawOk Tryd.prog) Tryd.f25 A25 = true := by kernel_rfl
/-- xs: t0, t5, t6 -/
noncomputable def L25_0 (call : Go.Fw.Call) (xs : List AVal) (h : Heap) : Option J :=
 (aBin .geq .plain (xs.getD 2 .undef) (.int .i64 0)).bind fun v4 =>
 condV v4
 ((aIaddr 1 (xs.getD 0 .undef) (xs.getD 2 .undef)).bind fun v5 =>
 (aLoad h 1 v5).bind fun c6 =>
 (fromCells false c6).bind fun v7 =>
 (aBin .add .plain v7 (.str [58, 32])).bind fun v8 =>
 (aBin .add .plain v8 (xs.getD 1 .undef)).bind fun v9 =>
 (aBin .sub .plain (xs.getD 2 .undef) (.int .i64 1)).bind fun v10 =>
 some (0, [(xs.getD 0 .undef), v9, v10], h))
 (some (1, [(xs.getD 1 .undef)], h))
noncomputable def S25 (call : Go.Fw.Call) (a0 a1 : AVal) (h : Heap) : Option J :=
 (call 30 [a1] h).bind fun r1 =>
 (aLen false a0).bind fun v2 =>
 (aBin .sub .plain v2 (.int .i64 1)).bind fun v3 =>
 (loop (L25_0 call) [a0, r1.1, v3] r1.2).bind fun x11 =>
 bif Nat.beq x11.1 1 then some (0, [(x11.2.1.getD 0 .undef)], x11.2.2) else
 none
theorem run25 (call : Go.Fw.Call) (a0 a1 : AVal) (h : Heap) : runFn call (.code A25) [a0, a1] h = (S25 call a0 a1 h).bind ansOf := by kernel_rfl

-- 26 no body
-- 27 no body
-- 28 no body
/-- errors.as -/
noncomputable def A29 : AFunc := ⟨4, (.seq (.region [.op 0 (.box 6 true (.tmp 2)),
 .op 1 (.mov 8 (.const (.bool false)))] [])
 (.block 0 (.loop ⟨[0, 1, 3], [6]⟩ [(.ret, ⟨[8], []⟩)]
 (.block 1 (.seq (.seq (.region [.op 0 (.mov 16 (.tmp 0)),
 .op 1 (.call 17 22 [.tmp 16]),
 .op 2 (.mov 18 (.tmp 3)),
 .op 3 (.invoke 19 [(65, 54, none)] (.tmp 17) [.tmp 18])] [])
 (.cond (.tmp 19)
 (.seq (.region [.op 0 (.load 20 true 3 (.tmp 6)),
 .op 1 (.call 21 31 [.tmp 20]),
 .op 2 (.mov 22 (.tmp 0)),
 .op 3 (.call 23 26 [.tmp 22]),
 .op 4 (.call 24 32 [.tmp 21, .tmp 23])] [])
 (.seq (.region [.op 0 (.mov 8 (.const (.bool true)))] [])
 .ret))
 .skip))
 (.seq (.seq (.region [.op 0 (.mov 26 (.tmp 0)),
 .op 1 (.tassert 27 [(28, false), (41, false), (47, false), (55, false), (61, false)] (.tmp 26)),
 .op 2 (.mov 25 (.tmp 27)),
 .op 3 (.extract 28 (.tmp 25) 0),
 .op 4 (.extract 29 (.tmp 25) 1),
 .op 5 (.mov 9 (.tmp 28)),
 .op 6 (.mov 10 (.tmp 29))] [])
 (.seq (.region [.op 0 (.mov 30 (.tmp 10)),
 .op 1 (.mov 31 (.tmp 30)),
 .guard 31 true [.op 2 (.mov 32 (.tmp 9)),
 .op 3 (.mov 33 (.tmp 1)),
 .op 4 (.invoke 34 [] (.tmp 32) [.tmp 33])] [] [34],
 .op 5 (.pick 35 (.tmp 31) (.tmp 34) (.const (.bool false)))] [])
 (.cond (.tmp 35)
 (.seq (.region [.op 0 (.mov 8 (.const (.bool true)))] [])
 .ret)
 .skip)))
 (.seq (.region [.op 0 (.mov 36 (.tmp 0))] [])
 (.block 2 (.seq (.region [.op 0 (.tassert 37 [(28, false), (41, true), (47, false), (55, false), (61, false)] (.tmp 36)),
 .op 1 (.extract 38 (.tmp 37) 1),
 .op 2 (.extract 39 (.tmp 37) 0)] [])
 (.cond (.tmp 38)
 (.seq (.region [.op 0 (.mov 11 (.tmp 39))] [])
 (.seq (.region [.op 0 (.mov 40 (.tmp 11)),
 .op 1 (.invoke 41 [(41, 21, none), (61, 52, none)] (.tmp 40) []),
 .op 2 (.mov 0 (.tmp 41))] [])
 (.seq (.region [.op 0 (.mov 42 (.tmp 0)),
 .op 1 (.bin 43 .eql (.iface true []) (.tmp 42) (.const (.nilIface)))] [])
 (.cond (.tmp 43)
 (.seq (.region [.op 0 (.mov 8 (.const (.bool false)))] [])
 .ret)
 .skip))))
 (.seq (.region [.op 0 (.tassert 44 [(28, false), (41, false), (47, false), (55, false), (61, true)] (.tmp 36)),
 .op 1 (.extract 45 (.tmp 44) 1),
 .op 2 (.extract 46 (.tmp 44) 0)] [])
 (.cond (.tmp 45)
 (.seq (.region [.op 0 (.mov 12 (.tmp 46))] [])
 (.seq (.seq (.region [.op 0 (.mov 47 (.tmp 12)),
 .op 1 (.invoke 48 [(41, 21, none), (61, 52, none)] (.tmp 47) []),
 .op 2 (.len 49 false (.tmp 48)),
 .op 3 (.mov 50 (.const (.int .i64 0)))] [])
 (.block 3 (.loop ⟨[1, 3, 48, 49, 50], [6]⟩ [((.exit 3), ⟨[], []⟩), (.ret, ⟨[8], []⟩)]
 (.seq (.region [.op 0 (.bin 51 .lss .plain (.tmp 50) (.tmp 49))] [])
 (.seq (.cond (.tmp 51)
 .skip
 (.exit 3))
 (.seq (.join [(.ret, ⟨[8], []⟩), (.normal, ⟨[1, 3, 48, 49, 50], [6]⟩)] (.block 4 (.seq (.region [.op 0 (.iaddr 52 none 1 (.tmp 48) (.tmp 50)),
 .op 1 (.load 53 false 1 (.tmp 52)),
 .op 2 (.mov 14 (.tmp 53))] [])
 (.seq (.seq (.region [.op 0 (.mov 54 (.tmp 14)),
 .op 1 (.bin 55 .eql (.iface true []) (.tmp 54) (.const (.nilIface)))] [])
 (.cond (.tmp 55)
 (.exit 4)
 .skip))
 (.seq (.region [.op 0 (.mov 56 (.tmp 14)),
 .op 1 (.mov 57 (.tmp 1)),
 .op 2 (.load 58 true 3 (.tmp 6)),
 .op 3 (.mov 59 (.tmp 3)),
 .op 4 (.call 60 29 [.tmp 56, .tmp 57, .tmp 58, .tmp 59])] [])
 (.cond (.tmp 60)
 (.seq (.region [.op 0 (.mov 8 (.const (.bool true)))] [])
 .ret)
 .skip))))))
 (.region [.op 0 (.bin 61 .add .plain (.tmp 50) (.const (.int .i64 1))),
 .op 1 (.mov 50 (.tmp 61))] [])))))))
 (.seq (.region [.op 0 (.mov 8 (.const (.bool false)))] [])
 .ret)))
 (.seq (.region [.op 0 (.mov 15 (.tmp 36))] [])
 (.seq (.region [.op 0 (.mov 8 (.const (.bool false)))] [])
 .ret)))))))))))))),
 [.tmp 8]⟩
theorem ok29 : funcOk Tryd.prog (drawOk Tryd.prog) Tryd.f29 A29 = true := by kernel_rfl
/-- xs: t1, t3, t48, t49, t50, cells of 6 -/
noncomputable def L29_1 (call : Go.Fw.Call) (xs : List AVal) (h : Heap) : Option J :=
 (aBin .lss .plain (xs.getD 4 .undef) (xs.getD 3 .undef)).bind fun v29 =>
 condV v29
 (((aIaddr 1 (xs.getD 2 .undef) (xs.getD 4 .undef)).bind fun v30 =>
 (aLoad h 1 v30).bind fun c31 =>
 (fromCells false c31).bind fun v32 =>
 (aBin .eql (.iface true []) v32 (.nilIface)).bind fun v33 =>
 condV v33
 (some (1, [(xs.getD 0 .undef), (xs.getD 1 .undef), (xs.getD 2 .undef), (xs.getD 3 .undef), (xs.getD 4 .undef), (.agg (AVal.aggCells (xs.getD 5 .undef)))], h))
 ((rdL (AVal.aggCells (xs.getD 5 .undef)) 0 3).bind fun c34 =>
 (fromCells true c34).bind fun v35 =>
 (call 29 [v32, (xs.getD 0 .undef), v35, (xs.getD 1 .undef)] h).bind fun r36 =>
 condV r36.1
 (some (0, [(.bool true)], r36.2))
 (some (1, [(xs.getD 0 .undef), (xs.getD 1 .undef), (xs.getD 2 .undef), (xs.getD 3 .undef), (xs.getD 4 .undef), (.agg (AVal.aggCells (xs.getD 5 .undef)))], r36.2)))).bind fun x37 =>
 bif Nat.beq x37.1 0 then some (2, [(x37.2.1.getD 0 .undef)], x37.2.2) else
 bif Nat.beq x37.1 1 then (aBin .add .plain (x37.2.1.getD 4 .undef) (.int .i64 1)).bind fun v38 =>
 some (0, [(x37.2.1.getD 0 .undef), (x37.2.1.getD 1 .undef), (x37.2.1.getD 2 .undef), (x37.2.1.getD 3 .undef), v38, (.agg (AVal.aggCells (x37.2.1.getD 5 .undef)))], x37.2.2) else
 none)
 (some (1, [], h))
/-- xs: t0, t1, t3, cells of 6 -/
noncomputable def L29_0 (call : Go.Fw.Call) (xs : List AVal) (h : Heap) : Option J :=
 (call 22 [(xs.getD 0 .undef)] h).bind fun r2 =>
 (aMeth [(65, 54, none)] r2.1).bind fun q3 =>
 (call q3.1 (q3.2 :: [(xs.getD 2 .undef)]) r2.2).bind fun r4 =>
 condV r4.1
 ((rdL (AVal.aggCells (xs.getD 3 .undef)) 0 3).bind fun c5 =>
 (fromCells true c5).bind fun v6 =>
 (call 31 [v6] r4.2).bind fun r7 =>
 (call 26 [(xs.getD 0 .undef)] r7.2).bind fun r8 =>
 (call 32 [r7.1, r8.1] r8.2).bind fun r9 =>
 some (1, [(.bool true)], r9.2))
 ((aAssert [(28, false), (41, false), (47, false), (55, false), (61, false)] (xs.getD 0 .undef)).bind fun v10 =>
 (aExtract 0 v10).bind fun v11 =>
 (aExtract 1 v10).bind fun v12 =>
 (guardV v12 true
 ((aMeth [] v11).bind fun q13 =>
 (call q13.1 (q13.2 :: [(xs.getD 1 .undef)]) r4.2).bind fun r14 =>
 some (0, [r14.1], r14.2))
 (some (0, [skipV], r4.2))).bind fun g15 =>
 (aPick v12 (g15.2.1.getD 0 .undef) (.bool false)).bind fun v16 =>
 condV v16
 (some (1, [(.bool true)], g15.2.2))
 ((aAssert [(28, false), (41, true), (47, false), (55, false), (61, false)] (xs.getD 0 .undef)).bind fun v17 =>
 (aExtract 1 v17).bind fun v18 =>
 (aExtract 0 v17).bind fun v19 =>
 condV v18
 ((aMeth [(41, 21, none), (61, 52, none)] v19).bind fun q20 =>
 (call q20.1 (q20.2 :: []) g15.2.2).bind fun r21 =>
 (aBin .eql (.iface true []) r21.1 (.nilIface)).bind fun v22 =>
 condV v22
 (some (1, [(.bool false)], r21.2))
 (some (0, [r21.1, (xs.getD 1 .undef), (xs.getD 2 .undef), (.agg (AVal.aggCells (xs.getD 3 .undef)))], r21.2)))
 ((aAssert [(28, false), (41, false), (47, false), (55, false), (61, true)] (xs.getD 0 .undef)).bind fun v23 =>
 (aExtract 1 v23).bind fun v24 =>
 (aExtract 0 v23).bind fun v25 =>
 condV v24
 ((aMeth [(41, 21, none), (61, 52, none)] v25).bind fun q26 =>
 (call q26.1 (q26.2 :: []) g15.2.2).bind fun r27 =>
 (aLen false r27.1).bind fun v28 =>
 (loop (L29_1 call) [(xs.getD 1 .undef), (xs.getD 2 .undef), r27.1, v28, (.int .i64 0), (.agg (AVal.aggCells (xs.getD 3 .undef)))] r27.2).bind fun x39 =>
 bif Nat.beq x39.1 1 then some (1, [(.bool false)], x39.2.2) else
 bif Nat.beq x39.1 2 then some (1, [(x39.2.1.getD 0 .undef)], x39.2.2) else
 none)
 (some (1, [(.bool false)], g15.2.2)))))
noncomputable def S29 (call : Go.Fw.Call) (a0 a1 a2 a3 : AVal) (h : Heap) : Option J :=
 (AVal.cells? a2).bind fun c1 =>
 (loop (L29_0 call) [a0, a1, a3, (.agg c1)] h).bind fun x40 =>
 bif Nat.beq x40.1 1 then some (0, [(x40.2.1.getD 0 .undef)], x40.2.2) else
 none
theorem run29 (call : Go.Fw.Call) (a0 a1 a2 a3 : AVal) (h : Heap) : runFn call (.code A29) [a0, a1, a2, a3] h = (S29 call a0 a1 a2 a3 h).bind ansOf := by kernel_rfl

/-- (frankpledge/api.Errno).Error -/
noncomputable def A30 : AFunc := ⟨1, (.seq (.region [.op 0 (.mov 2 (.const (.str [])))] [])
 (.seq (.seq (.region [.op 0 (.mov 5 (.tmp 0))] [])
 (.block 0 (.seq (.region [.op 0 (.bin 7 .eql .plain (.tmp 5) (.const (.int .i64 0))),
 .op 1 (.mov 6 (.tmp 7))] [])
 (.cond (.tmp 6)
 (.seq (.region [.op 0 (.mov 2 (.const (.str [110, 111, 32, 101, 114, 114, 111, 114])))] [])
 .ret)
 (.seq (.region [.op 0 (.bin 9 .eql .plain (.tmp 5) (.const (.int .i64 1))),
 .op 1 (.mov 8 (.tmp 9))] [])
 (.cond (.tmp 8)
 (.seq (.region [.op 0 (.mov 2 (.const (.str [97, 110, 32, 97, 114, 103, 117, 109, 101, 110, 116, 32, 116, 104, 97, 116, 32, 109, 97, 121, 32, 110, 111, 116, 32, 98, 101])))] [])
 .ret)
 (.seq (.region [.op 0 (.bin 11 .eql .plain (.tmp 5) (.const (.int .i64 22))),
 .op 1 (.mov 10 (.tmp 11))] [])
 (.cond (.tmp 10)
 (.seq (.region [.op 0 (.mov 2 (.const (.str [110, 111, 116, 32, 116, 104, 101, 114, 101])))] [])
 .ret)
 .skip))))))))
 (.seq (.region [.op 0 (.mov 12 (.tmp 0)),
 .op 1 (.mov 3 (.tmp 12))] [])
 (.seq (.region [.op 0 (.mov 4 (.const (.nilSlice)))] [])
 (.seq (.seq (.region [.op 0 (.mov 13 (.tmp 3)),
 .op 1 (.bin 14 .lss .plain (.tmp 13) (.const (.int .i64 0)))] [])
 (.join [(.normal, ⟨[3, 4], []⟩)] (.cond (.tmp 14)
 (.region [.op 0 (.mov 3 (.const (.int .i64 0)))] [])
 .skip)))
 (.seq (.block 1 (.loop ⟨[3, 4], []⟩ [((.exit 1), ⟨[4], []⟩)]
 (.seq (.seq (.region [.op 0 (.mov 15 (.tmp 3)),
 .op 1 (.bin 16 .gtr .plain (.tmp 15) (.const (.int .i64 0))),
 .op 2 (.mov 17 (.tmp 16)),
 .guard 17 false [.op 3 (.mov 18 (.tmp 4)),
 .op 4 (.len 19 false (.tmp 18)),
 .op 5 (.bin 20 .eql .plain (.tmp 19) (.const (.int .i64 0)))] [] [20],
 .op 6 (.pick 21 (.tmp 17) (.const (.bool true)) (.tmp 20))] [])
 (.cond (.tmp 21)
 .skip
 (.exit 1)))
 (.block 2 (.seq (.region [.op 0 (.mov 22 (.tmp 3)),
 .op 1 (.bin 23 .rem .plain (.tmp 22) (.const (.int .i64 10))),
 .op 2 (.bin 24 .add .plain (.const (.int .i64 48)) (.tmp 23)),
 .op 3 (.conv 25 (.toInt .u8) (.tmp 24)),
 .op 4 (.buildSl 26 [.int .u8 0] 1 1 [(0, .tmp 25)]),
 .op 5 (.mov 27 (.tmp 4)),
 .op 6 (.append 28 1 1 [.int .u8 0] false (.tmp 26) (.tmp 27)),
 .op 7 (.mov 4 (.tmp 28))] [])
 (.region [.op 0 (.mov 29 (.tmp 3)),
 .op 1 (.bin 30 .quo .plain (.tmp 29) (.const (.int .i64 10))),
 .op 2 (.mov 3 (.tmp 30))] []))))))
 (.seq (.region [.op 0 (.mov 31 (.tmp 4)),
 .op 1 (.conv 32 .bytesStr (.tmp 31)),
 .op 2 (.bin 33 .add .plain (.const (.str [114, 101, 102, 117, 115, 97, 108, 32])) (.tmp 32)),
 .op 3 (.mov 2 (.tmp 33))] [])
 .ret))))))),
 [.tmp 2]⟩
theorem ok30 : funcOk Tryd.prog (drawOk Tryd.prog) Tryd.f30 A30 = true := by kernel_rfl
/-- xs: t3, t4 -/
noncomputable def L30_0 (call : Go.Fw.Call) (xs : List AVal) (h : Heap) : Option J :=
 (aBin .gtr .plain (xs.getD 0 .undef) (.int .i64 0)).bind fun v6 =>
 (guardV v6 false
 ((aLen false (xs.getD 1 .undef)).bind fun v7 =>
 (aBin .eql .plain v7 (.int .i64 0)).bind fun v8 =>
 some (0, [v8], h))
 (some (0, [skipV], h))).bind fun g9 =>
 (aPick v6 (.bool true) (g9.2.1.getD 0 .undef)).bind fun v10 =>
 condV v10
 ((aBin .rem .plain (xs.getD 0 .undef) (.int .i64 10)).bind fun v11 =>
 (aBin .add .plain (.int .i64 48) v11).bind fun v12 =>
 (aConv (.toInt .u8) v12 g9.2.2).bind fun r13 =>
 (aFill (reps [.int .u8 0] 1) [(0, 1, r13.1)]).bind fun c14 =>
 (aAppend 1 1 [.int .u8 0] false (.slice r13.2.next 0 1 1 1 true) (xs.getD 1 .undef) (r13.2.alloc c14)).bind fun r15 =>
 (aBin .quo .plain (xs.getD 0 .undef) (.int .i64 10)).bind fun v16 =>
 some (0, [v16, r15.1], r15.2))
 (some (1, [(xs.getD 1 .undef)], g9.2.2))
noncomputable def S30 (call : Go.Fw.Call) (a0 : AVal) (h : Heap) : Option J :=
 (aBin .eql .plain a0 (.int .i64 0)).bind fun v1 =>
 condV v1
 (some (0, [(.str [110, 111, 32, 101, 114, 114, 111, 114])], h))
 ((aBin .eql .plain a0 (.int .i64 1)).bind fun v2 =>
 condV v2
 (some (0, [(.str [97, 110, 32, 97, 114, 103, 117, 109, 101, 110, 116, 32, 116, 104, 97, 116, 32, 109, 97, 121, 32, 110, 111, 116, 32, 98, 101])], h))
 ((aBin .eql .plain a0 (.int .i64 22)).bind fun v3 =>
 condV v3
 (some (0, [(.str [110, 111, 116, 32, 116, 104, 101, 114, 101])], h))
 ((aBin .lss .plain a0 (.int .i64 0)).bind fun v4 =>
 (condV v4
 (some (0, [(.int .i64 0), (.nilSlice)], h))
 (some (0, [a0, (.nilSlice)], h))).bind fun x5 =>
 bif Nat.beq x5.1 0 then (loop (L30_0 call) [(x5.2.1.getD 0 .undef), (x5.2.1.getD 1 .undef)] x5.2.2).bind fun x17 =>
 bif Nat.beq x17.1 1 then (aConv .bytesStr (x17.2.1.getD 0 .undef) x17.2.2).bind fun r18 =>
 (aBin .add .plain (.str [114, 101, 102, 117, 115, 97, 108, 32]) r18.1).bind fun v19 =>
 some (0, [v19], r18.2) else
 none else
 none)))
theorem run30 (call : Go.Fw.Call) (a0 : AVal) (h : Heap) : runFn call (.code A30) [a0] h = (S30 call a0 h).bind ansOf := by kernel_rfl

-- 31 no body
-- 32 no body
/-- (*errors.errorString).Error -/
noncomputable def A50 : AFunc := ⟨1, (.seq (.region [.op 0 (.mov 2 (.const (.str [])))] [])
 (.seq (.region [.op 0 (.mov 3 (.tmp 0)),
 .op 1 (.nilchk 4 (.tmp 3)),
 .op 2 (.faddr 5 0 (.tmp 4)),
 .op 3 (.load 6 false 1 (.tmp 5)),
 .op 4 (.mov 2 (.tmp 6))] [])
 .ret)),
 [.tmp 2]⟩
theorem ok50 : funcOk Tryd.prog (drawOk Tryd.prog) Tryd.f50 A50 = true := by kernel_rfl
noncomputable def S50 (call : Go.Fw.Call) (a0 : AVal) (h : Heap) : Option J :=
 (aNilchk a0).bind fun v1 =>
 (aFaddr 0 v1).bind fun v2 =>
 (aLoad h 1 v2).bind fun c3 =>
 (fromCells false c3).bind fun v4 =>
 some (0, [v4], h)
theorem run50 (call : Go.Fw.Call) (a0 : AVal) (h : Heap) : runFn call (.code A50) [a0] h = (S50 call a0 h).bind ansOf := by kernel_rfl

/-- (*errors.joinError).Error -/
noncomputable def A51 : AFunc := ⟨1, (.seq (.region [.op 0 (.mov 2 (.const (.str [])))] [])
 (.seq (.seq (.region [.op 0 (.mov 6 (.tmp 0)),
 .op 1 (.nilchk 7 (.tmp 6)),
 .op 2 (.faddr 8 0 (.tmp 7)),
 .op 3 (.load 9 false 1 (.tmp 8)),
 .op 4 (.len 10 false (.tmp 9)),
 .op 5 (.bin 11 .eql .plain (.tmp 10) (.const (.int .i64 1)))] [])
 (.cond (.tmp 11)
 (.seq (.region [.op 0 (.mov 12 (.tmp 0)),
 .op 1 (.nilchk 13 (.tmp 12)),
 .op 2 (.faddr 14 0 (.tmp 13)),
 .op 3 (.load 15 false 1 (.tmp 14)),
 .op 4 (.iaddr 16 none 1 (.tmp 15) (.const (.int .i64 0))),
 .op 5 (.load 17 false 1 (.tmp 16)),
 .op 6 (.invoke 18 [(28, 30, none), (41, 20, none), (47, 50, none), (61, 51, none)] (.tmp 17) []),
 .op 7 (.mov 2 (.tmp 18))] [])
 .ret)
 .skip))
 (.seq (.region [.op 0 (.mov 19 (.tmp 0)),
 .op 1 (.nilchk 20 (.tmp 19)),
 .op 2 (.faddr 21 0 (.tmp 20)),
 .op 3 (.load 22 false 1 (.tmp 21)),
 .op 4 (.iaddr 23 none 1 (.tmp 22) (.const (.int .i64 0))),
 .op 5 (.load 24 false 1 (.tmp 23)),
 .op 6 (.invoke 25 [(28, 30, none), (41, 20, none), (47, 50, none), (61, 51, none)] (.tmp 24) []),
 .op 7 (.conv 26 .strBytes (.tmp 25)),
 .op 8 (.mov 3 (.tmp 26))] [])
 (.seq (.seq (.region [.op 0 (.mov 27 (.tmp 0)),
 .op 1 (.nilchk 28 (.tmp 27)),
 .op 2 (.faddr 29 0 (.tmp 28)),
 .op 3 (.load 30 false 1 (.tmp 29)),
 .op 4 (.slice 31 (.sl 1) (.tmp 30) (some (.const (.int .i64 1))) none none),
 .op 5 (.len 32 false (.tmp 31)),
 .op 6 (.mov 33 (.const (.int .i64 0)))] [])
 (.block 0 (.loop ⟨[3, 31, 32, 33], []⟩ [((.exit 0), ⟨[3], []⟩)]
 (.seq (.region [.op 0 (.bin 34 .lss .plain (.tmp 33) (.tmp 32))] [])
 (.seq (.cond (.tmp 34)
 .skip
 (.exit 0))
 (.seq (.block 1 (.seq (.region [.op 0 (.iaddr 35 none 1 (.tmp 31) (.tmp 33)),
 .op 1 (.load 36 false 1 (.tmp 35)),
 .op 2 (.mov 5 (.tmp 36))] [])
 (.seq (.region [.op 0 (.mov 37 (.tmp 3)),
 .op 1 (.buildSl 38 [.int .u8 0] 1 1 [(0, .const (.int .u8 10))]),
 .op 2 (.append 39 1 1 [.int .u8 0] false (.tmp 37) (.tmp 38)),
 .op 3 (.mov 3 (.tmp 39))] [])
 (.region [.op 0 (.mov 40 (.tmp 3)),
 .op 1 (.mov 41 (.tmp 5)),
 .op 2 (.invoke 42 [(28, 30, none), (41, 20, none), (47, 50, none), (61, 51, none)] (.tmp 41) []),
 .op 3 (.append 43 1 1 [.int .u8 0] false (.tmp 40) (.tmp 42)),
 .op 4 (.mov 3 (.tmp 43))] []))))
 (.region [.op 0 (.bin 44 .add .plain (.tmp 33) (.const (.int .i64 1))),
 .op 1 (.mov 33 (.tmp 44))] [])))))))
 (.seq .dead
 .ret))))),
 [.tmp 2]⟩
theorem ok51 : funcOk Tryd.prog (drawOk Tryd.prog) Tryd.f51 A51 = true := by kernel_rfl
/-- xs: t3, t31, t32, t33 -/
noncomputable def L51_0 (call : Go.Fw.Call) (xs : List AVal) (h : Heap) : Option J :=
 (aBin .lss .plain (xs.getD 3 .undef) (xs.getD 2 .undef)).bind fun v32 =>
 condV v32
 ((aIaddr 1 (xs.getD 1 .undef) (xs.getD 3 .undef)).bind fun v33 =>
 (aLoad h 1 v33).bind fun c34 =>
 (fromCells false c34).bind fun v35 =>
 (aFill (reps [.int .u8 0] 1) [(0, 1, (.int .u8 10))]).bind fun c36 =>
 (aAppend 1 1 [.int .u8 0] false (xs.getD 0 .undef) (.slice h.next 0 1 1 1 true) (h.alloc c36)).bind fun r37 =>
 (aMeth [(28, 30, none), (41, 20, none), (47, 50, none), (61, 51, none)] v35).bind fun q38 =>
 (call q38.1 (q38.2 :: []) r37.2).bind fun r39 =>
 (aAppend 1 1 [.int .u8 0] false r37.1 r39.1 r39.2).bind fun r40 =>
 (aBin .add .plain (xs.getD 3 .undef) (.int .i64 1)).bind fun v41 =>
 some (0, [r40.1, (xs.getD 1 .undef), (xs.getD 2 .undef), v41], r40.2))
 (some (1, [(xs.getD 0 .undef)], h))
noncomputable def S51 (call : Go.Fw.Call) (a0 : AVal) (h : Heap) : Option J :=
 (aNilchk a0).bind fun v1 =>
 (aFaddr 0 v1).bind fun v2 =>
 (aLoad h 1 v2).bind fun c3 =>
 (fromCells false c3).bind fun v4 =>
 (aLen false v4).bind fun v5 =>
 (aBin .eql .plain v5 (.int .i64 1)).bind fun v6 =>
 condV v6
 ((aNilchk a0).bind fun v7 =>
 (aFaddr 0 v7).bind fun v8 =>
 (aLoad h 1 v8).bind fun c9 =>
 (fromCells false c9).bind fun v10 =>
 (aIaddr 1 v10 (.int .i64 0)).bind fun v11 =>
 (aLoad h 1 v11).bind fun c12 =>
 (fromCells false c12).bind fun v13 =>
 (aMeth [(28, 30, none), (41, 20, none), (47, 50, none), (61, 51, none)] v13).bind fun q14 =>
 (call q14.1 (q14.2 :: []) h).bind fun r15 =>
 some (0, [r15.1], r15.2))
 ((aNilchk a0).bind fun v16 =>
 (aFaddr 0 v16).bind fun v17 =>
 (aLoad h 1 v17).bind fun c18 =>
 (fromCells false c18).bind fun v19 =>
 (aIaddr 1 v19 (.int .i64 0)).bind fun v20 =>
 (aLoad h 1 v20).bind fun c21 =>
 (fromCells false c21).bind fun v22 =>
 (aMeth [(28, 30, none), (41, 20, none), (47, 50, none), (61, 51, none)] v22).bind fun q23 =>
 (call q23.1 (q23.2 :: []) h).bind fun r24 =>
 (aConv .strBytes r24.1 r24.2).bind fun r25 =>
 (aNilchk a0).bind fun v26 =>
 (aFaddr 0 v26).bind fun v27 =>
 (aLoad r25.2 1 v27).bind fun c28 =>
 (fromCells false c28).bind fun v29 =>
 (aSliceSl 1 v29 (some (.int .i64 1)) none none).bind fun v30 =>
 (aLen false v30).bind fun v31 =>
 (loop (L51_0 call) [r25.1, v30, v31, (.int .i64 0)] r25.2).bind fun x42 =>
 bif Nat.beq x42.1 1 then none else
 none)
theorem run51 (call : Go.Fw.Call) (a0 : AVal) (h : Heap) : runFn call (.code A51) [a0] h = (S51 call a0 h).bind ansOf := by kernel_rfl

/-- (*errors.joinError).Unwrap -/
noncomputable def A52 : AFunc := ⟨1, (.seq (.region [.op 0 (.mov 2 (.const (.nilSlice)))] [])
 (.seq (.region [.op 0 (.mov 3 (.tmp 0)),
 .op 1 (.nilchk 4 (.tmp 3)),
 .op 2 (.faddr 5 0 (.tmp 4)),
 .op 3 (.load 6 false 1 (.tmp 5)),
 .op 4 (.mov 2 (.tmp 6))] [])
 .ret)),
 [.tmp 2]⟩
theorem ok52 : funcOk Tryd.prog (drawOk Tryd.prog) Tryd.f52 A52 = true := by kernel_rfl
noncomputable def S52 (call : Go.Fw.Call) (a0 : AVal) (h : Heap) : Option J :=
 (aNilchk a0).bind fun v1 =>
 (aFaddr 0 v1).bind fun v2 =>
 (aLoad h 1 v2).bind fun c3 =>
 (fromCells false c3).bind fun v4 =>
 some (0, [v4], h)
theorem run52 (call : Go.Fw.Call) (a0 : AVal) (h : Heap) : runFn call (.code A52) [a0] h = (S52 call a0 h).bind ansOf := by kernel_rfl

noncomputable def tbl (f : Nat) : Option AFn :=
 match f with
 | 3 => some (.code A3)
 | 4 => some (.code A4)
 | 5 => some (.code A5)
 | 6 => some (.code A6)
 | 7 => some (.code A7)
 | 8 => some (.code A8)
 | 9 => some (.code A9)
 | 10 => some (.code A10)
 | 11 => some (.code A11)
 | 12 => some (.code A12)
 | 13 => some (.code A13)
 | 14 => some (.code A14)
 | 15 => some (.code A15)
 | 16 => some (.code A16)
 | 17 => some (.code A17)
 | 18 => some (.code A18)
 | 19 => some (.code A19)
 | 20 => some (.code A20)
 | 21 => some (.code A21)
 | 22 => some (.prim (pTypeOf 65 1))
 | 23 => some (.code A23)
 | 24 => some (.code A24)
 | 25 => some (.code A25)
 | 26 => some (.prim (pValueOf 1 [(28, 2), (41, 22), (47, 22), (55, 22), (56, 22), (61, 22)]))
 | 27 => some (.prim (pValueType 65 1))
 | 28 => some (.prim (pIsNil 1 [(55, 28, 2), (56, 41, 22)]))
 | 29 => some (.code A29)
 | 30 => some (.code A30)
 | 31 => some (.prim (pValueElem 1 [(55, 28, 2), (56, 41, 22)]))
 | 32 => some (.prim (pSet 1 [28, 41]))
 | 47 => some (.prim (pClosed tab47))
 | 50 => some (.code A50)
 | 51 => some (.code A51)
 | 52 => some (.code A52)
 | 54 => some (.prim (pClosed tab54))
 | 55 => some (.prim (pClosed tab55))
 | 56 => some (.prim (pClosed tab56))
 | 57 => some (.prim (pClosed tab57))
 | _ => none
theorem c3 (a0 a1 : AVal) (h : Heap) : E tbl 3 [a0, a1] h = (S3 (E tbl) a0 a1 h).bind ansOf := (E_eq tbl 3 [a0, a1] h).trans (run3 (E tbl) a0 a1 h)
theorem c4 (a0 a1 : AVal) (h : Heap) : E tbl 4 [a0, a1] h = (S4 (E tbl) a0 a1 h).bind ansOf := (E_eq tbl 4 [a0, a1] h).trans (run4 (E tbl) a0 a1 h)
theorem c5 (a0 a1 a2 : AVal) (h : Heap) : E tbl 5 [a0, a1, a2] h = (S5 (E tbl) a0 a1 a2 h).bind ansOf := (E_eq tbl 5 [a0, a1, a2] h).trans (run5 (E tbl) a0 a1 a2 h)
theorem c6 (h : Heap) : E tbl 6 [] h = (S6 (E tbl)  h).bind ansOf := (E_eq tbl 6 [] h).trans (run6 (E tbl)  h)
theorem c7 (a0 : AVal) (h : Heap) : E tbl 7 [a0] h = (S7 (E tbl) a0 h).bind ansOf := (E_eq tbl 7 [a0] h).trans (run7 (E tbl) a0 h)
theorem c8 (a0 a1 : AVal) (h : Heap) : E tbl 8 [a0, a1] h = (S8 (E tbl) a0 a1 h).bind ansOf := (E_eq tbl 8 [a0, a1] h).trans (run8 (E tbl) a0 a1 h)
theorem c9 (a0 a1 : AVal) (h : Heap) : E tbl 9 [a0, a1] h = (S9 (E tbl) a0 a1 h).bind ansOf := (E_eq tbl 9 [a0, a1] h).trans (run9 (E tbl) a0 a1 h)
theorem c10 (a0 : AVal) (h : Heap) : E tbl 10 [a0] h = (S10 (E tbl) a0 h).bind ansOf := (E_eq tbl 10 [a0] h).trans (run10 (E tbl) a0 h)
theorem c11 (a0 a1 : AVal) (h : Heap) : E tbl 11 [a0, a1] h = (S11 (E tbl) a0 a1 h).bind ansOf := (E_eq tbl 11 [a0, a1] h).trans (run11 (E tbl) a0 a1 h)
theorem c12 (a0 : AVal) (h : Heap) : E tbl 12 [a0] h = (S12 (E tbl) a0 h).bind ansOf := (E_eq tbl 12 [a0] h).trans (run12 (E tbl) a0 h)
theorem c13 (a0 a1 : AVal) (h : Heap) : E tbl 13 [a0, a1] h = (S13 (E tbl) a0 a1 h).bind ansOf := (E_eq tbl 13 [a0, a1] h).trans (run13 (E tbl) a0 a1 h)
theorem c14 (h : Heap) : E tbl 14 [] h = (S14 (E tbl)  h).bind ansOf := (E_eq tbl 14 [] h).trans (run14 (E tbl)  h)
theorem c15 (a0 a1 : AVal) (h : Heap) : E tbl 15 [a0, a1] h = (S15 (E tbl) a0 a1 h).bind ansOf := (E_eq tbl 15 [a0, a1] h).trans (run15 (E tbl) a0 a1 h)
theorem c16 (a0 a1 : AVal) (h : Heap) : E tbl 16 [a0, a1] h = (S16 (E tbl) a0 a1 h).bind ansOf := (E_eq tbl 16 [a0, a1] h).trans (run16 (E tbl) a0 a1 h)
theorem c17 (a0 : AVal) (h : Heap) : E tbl 17 [a0] h = (S17 (E tbl) a0 h).bind ansOf := (E_eq tbl 17 [a0] h).trans (run17 (E tbl) a0 h)
theorem c18 (a0 : AVal) (h : Heap) : E tbl 18 [a0] h = (S18 (E tbl) a0 h).bind ansOf := (E_eq tbl 18 [a0] h).trans (run18 (E tbl) a0 h)
theorem c19 (a0 a1 : AVal) (h : Heap) : E tbl 19 [a0, a1] h = (S19 (E tbl) a0 a1 h).bind ansOf := (E_eq tbl 19 [a0, a1] h).trans (run19 (E tbl) a0 a1 h)
theorem c20 (a0 : AVal) (h : Heap) : E tbl 20 [a0] h = (S20 (E tbl) a0 h).bind ansOf := (E_eq tbl 20 [a0] h).trans (run20 (E tbl) a0 h)
theorem c21 (a0 : AVal) (h : Heap) : E tbl 21 [a0] h = (S21 (E tbl) a0 h).bind ansOf := (E_eq tbl 21 [a0] h).trans (run21 (E tbl) a0 h)
theorem c23 (a0 a1 a2 : AVal) (h : Heap) : E tbl 23 [a0, a1, a2] h = (S23 (E tbl) a0 a1 a2 h).bind ansOf := (E_eq tbl 23 [a0, a1, a2] h).trans (run23 (E tbl) a0 a1 a2 h)
theorem c24 (a0 a1 : AVal) (h : Heap) : E tbl 24 [a0, a1] h = (S24 (E tbl) a0 a1 h).bind ansOf := (E_eq tbl 24 [a0, a1] h).trans (run24 (E tbl) a0 a1 h)
theorem c25 (a0 a1 : AVal) (h : Heap) : E tbl 25 [a0, a1] h = (S25 (E tbl) a0 a1 h).bind ansOf := (E_eq tbl 25 [a0, a1] h).trans (run25 (E tbl) a0 a1 h)
theorem c29 (a0 a1 a2 a3 : AVal) (h : Heap) : E tbl 29 [a0, a1, a2, a3] h = (S29 (E tbl) a0 a1 a2 a3 h).bind ansOf := (E_eq tbl 29 [a0, a1, a2, a3] h).trans (run29 (E tbl) a0 a1 a2 a3 h)
theorem c30 (a0 : AVal) (h : Heap) : E tbl 30 [a0] h = (S30 (E tbl) a0 h).bind ansOf := (E_eq tbl 30 [a0] h).trans (run30 (E tbl) a0 h)
theorem c50 (a0 : AVal) (h : Heap) : E tbl 50 [a0] h = (S50 (E tbl) a0 h).bind ansOf := (E_eq tbl 50 [a0] h).trans (run50 (E tbl) a0 h)
theorem c51 (a0 : AVal) (h : Heap) : E tbl 51 [a0] h = (S51 (E tbl) a0 h).bind ansOf := (E_eq tbl 51 [a0] h).trans (run51 (E tbl) a0 h)
theorem c52 (a0 : AVal) (h : Heap) : E tbl 52 [a0] h = (S52 (E tbl) a0 h).bind ansOf := (E_eq tbl 52 [a0] h).trans (run52 (E tbl) a0 h)
theorem c22 (l : List AVal) (h : Heap) : E tbl 22 l h = pTypeOf 65 1 l h := E_eq tbl 22 l h
theorem c26 (l : List AVal) (h : Heap) : E tbl 26 l h = pValueOf 1 [(28, 2), (41, 22), (47, 22), (55, 22), (56, 22), (61, 22)] l h := E_eq tbl 26 l h
theorem c27 (l : List AVal) (h : Heap) : E tbl 27 l h = pValueType 65 1 l h := E_eq tbl 27 l h
theorem c28 (l : List AVal) (h : Heap) : E tbl 28 l h = pIsNil 1 [(55, 28, 2), (56, 41, 22)] l h := E_eq tbl 28 l h
theorem c31 (l : List AVal) (h : Heap) : E tbl 31 l h = pValueElem 1 [(55, 28, 2), (56, 41, 22)] l h := E_eq tbl 31 l h
theorem c32 (l : List AVal) (h : Heap) : E tbl 32 l h = pSet 1 [28, 41] l h := E_eq tbl 32 l h
theorem c47 (l : List AVal) (h : Heap) : E tbl 47 l h = pClosed tab47 l h := E_eq tbl 47 l h
theorem c54 (l : List AVal) (h : Heap) : E tbl 54 l h = pClosed tab54 l h := E_eq tbl 54 l h
theorem c55 (l : List AVal) (h : Heap) : E tbl 55 l h = pClosed tab55 l h := E_eq tbl 55 l h
theorem c56 (l : List AVal) (h : Heap) : E tbl 56 l h = pClosed tab56 l h := E_eq tbl 56 l h
theorem c57 (l : List AVal) (h : Heap) : E tbl 57 l h = pClosed tab57 l h := E_eq tbl 57 l h
theorem tbl_ok : ∀ f a, tbl f = some a → FnOk Tryd.prog (drawOk Tryd.prog) f a := by
  intro f a h
  unfold tbl at h
  split at h
  · cases h; exact ⟨_, Tryd.func3, by decide +kernel, ok3⟩
  · cases h; exact ⟨_, Tryd.func4, by decide +kernel, ok4⟩
  · cases h; exact ⟨_, Tryd.func5, by decide +kernel, ok5⟩
  · cases h; exact ⟨_, Tryd.func6, by decide +kernel, ok6⟩
  · cases h; exact ⟨_, Tryd.func7, by decide +kernel, ok7⟩
  · cases h; exact ⟨_, Tryd.func8, by decide +kernel, ok8⟩
  · cases h; exact ⟨_, Tryd.func9, by decide +kernel, ok9⟩
  · cases h; exact ⟨_, Tryd.func10, by decide +kernel, ok10⟩
  · cases h; exact ⟨_, Tryd.func11, by decide +kernel, ok11⟩
  · cases h; exact ⟨_, Tryd.func12, by decide +kernel, ok12⟩
  · cases h; exact ⟨_, Tryd.func13, by decide +kernel, ok13⟩
  · cases h; exact ⟨_, Tryd.func14, by decide +kernel, ok14⟩
  · cases h; exact ⟨_, Tryd.func15, by decide +kernel, ok15⟩
  · cases h; exact ⟨_, Tryd.func16, by decide +kernel, ok16⟩
  · cases h; exact ⟨_, Tryd.func17, by decide +kernel, ok17⟩
  · cases h; exact ⟨_, Tryd.func18, by decide +kernel, ok18⟩
  · cases h; exact ⟨_, Tryd.func19, by decide +kernel, ok19⟩
  · cases h; exact ⟨_, Tryd.func20, by decide +kernel, ok20⟩
  · cases h; exact ⟨_, Tryd.func21, by decide +kernel, ok21⟩
  · cases h; exact prim22
  · cases h; exact ⟨_, Tryd.func23, by decide +kernel, ok23⟩
  · cases h; exact ⟨_, Tryd.func24, by decide +kernel, ok24⟩
  · cases h; exact ⟨_, Tryd.func25, by decide +kernel, ok25⟩
  · cases h; exact prim26
  · cases h; exact prim27
  · cases h; exact prim28
  · cases h; exact ⟨_, Tryd.func29, by decide +kernel, ok29⟩
  · cases h; exact ⟨_, Tryd.func30, by decide +kernel, ok30⟩
  · cases h; exact prim31
  · cases h; exact prim32
  · cases h; exact prim47
  · cases h; exact ⟨_, Tryd.func50, by decide +kernel, ok50⟩
  · cases h; exact ⟨_, Tryd.func51, by decide +kernel, ok51⟩
  · cases h; exact ⟨_, Tryd.func52, by decide +kernel, ok52⟩
  · cases h; exact prim54
  · cases h; exact prim55
  · cases h; exact prim56
  · cases h; exact prim57
  · cases h
theorem prog_ok : CallOk Tryd.prog (E tbl) := E_ok tbl_ok
end Go.Proofs.YtkbchgbpglamcaaDoor.Code
