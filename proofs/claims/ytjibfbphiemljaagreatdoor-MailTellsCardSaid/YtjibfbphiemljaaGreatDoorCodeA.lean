/- YtjibfbphiemljaaGreatDoorCodeA -/
import Derived.Test.YtjibfbphiemljaaGreatDoorProg
import Derived.Test.YtjibfbphiemljaaGreatDoorFwZm
import Derived.KernelRfl
set_option linter.unusedSimpArgs false
set_option linter.unusedVariables false
namespace Go.Proofs.YtjibfbphiemljaaGreatDoor.Code
open Go.Fw
abbrev mz : List AVal := [.int .i64 0, .int .i64 0, .int .i64 0, .int .i64 0, .int .i64 0, .int .i64 0, .int .i64 0, .str [], .str [], .bool false, .int .u32 0, .nilSlice, .nilSlice]
abbrev cz : List AVal := [.str [], .str [], .int .i64 0, .int .i64 0, .int .i64 0, .int .i64 0, .int .i64 0, .int .i64 0, .bool false]
section prims
theorem pin_lt : 1 < pinsN := by decide
theorem nglob : Tryz.prog.globals.size = 1 := by kernel_rfl
theorem toType_run (t : Nat) (w : World) : (Go.Extern.ReflectliteType.toType t).run Tryz.prog w = .ok (.iface 135 (.agg #[.pointer (some ⟨1, t, none⟩)])) w := by kernel_rfl
theorem kind50 (w : World) : (Go.Extern.Rtype.kind 50).run Tryz.prog w = .ok 2 w := by kernel_rfl
theorem kind98 (w : World) : (Go.Extern.Rtype.kind 98).run Tryz.prog w = .ok 22 w := by kernel_rfl
theorem kind102 (w : World) : (Go.Extern.Rtype.kind 102).run Tryz.prog w = .ok 22 w := by kernel_rfl
theorem kind103 (w : World) : (Go.Extern.Rtype.kind 103).run Tryz.prog w = .ok 22 w := by kernel_rfl
theorem kinds_ok : ∀ p ∈ ([(50, 2), (98, 22), (102, 22), (103, 22)] : List (Nat × Nat)), ∀ w, (Go.Extern.Rtype.kind p.1).run Tryz.prog w = .ok p.2 w := by
  intro p hp
  simp only [List.mem_cons, List.not_mem_nil, or_false] at hp
  rcases hp with rfl | rfl | rfl | rfl
  · exact kind50
  · exact kind98
  · exact kind102
  · exact kind103
theorem ptrs_ok : ∀ p ∈ ([(102, 50, 2), (103, 98, 22)] : List (Nat × Nat × Nat)), PtrOk Tryz.prog p := by
  intro p hp
  simp only [List.mem_cons, List.not_mem_nil, or_false] at hp
  rcases hp with rfl | rfl
  · exact ⟨by kernel_rfl, by kernel_rfl, fun w => by kernel_rfl, kind50⟩
  · exact ⟨by kernel_rfl, by kernel_rfl, fun w => by kernel_rfl, kind98⟩
theorem sets_ok : ∀ t ∈ ([50, 98] : List Nat), aggOk Tryz.prog t false 1 = true ∧ Tryz.prog.packed t = false := by
  intro p hp
  simp only [List.mem_cons, List.not_mem_nil, or_false] at hp
  rcases hp with rfl | rfl
  · exact ⟨by kernel_rfl, by kernel_rfl⟩
  · exact ⟨by kernel_rfl, by kernel_rfl⟩
theorem prim87 : PrimOk Tryz.prog 87 (pValueOf 1 [(50, 2), (98, 22), (102, 22), (103, 22)]) := prim_of (e := fun args => Go.Extern.ReflectliteValue.unpack (args.getD 0 (.tuple #[]))) (Entry.of Tryz.func87 (by kernel_rfl) (by kernel_rfl) (by kernel_rfl) (by kernel_rfl)) (valueOf_ok pin_lt nglob kinds_ok)
theorem prim88 : PrimOk Tryz.prog 88 (pValueType 135 1) := prim_of (e := Go.Extern.ReflectliteValue.methodAny (Go.Extern.ReflectliteValue.valueError "reflectlite.Value.Type" 0) (fun t _ _ _ => Go.Extern.ReflectliteType.toType t)) (Entry.of Tryz.func88 (by kernel_rfl) (by kernel_rfl) (by kernel_rfl) (by kernel_rfl)) (valueType_ok pin_lt nglob toType_run)
theorem prim89 : PrimOk Tryz.prog 89 (pIsNil 1 [(102, 50, 2), (103, 98, 22)]) := prim_of (e := Go.Extern.ReflectliteValue.method (Go.Extern.ReflectliteValue.valueError "reflectlite.Value.IsNil" 0) Go.Extern.ReflectliteValue.isNil) (Entry.of Tryz.func89 (by kernel_rfl) (by kernel_rfl) (by kernel_rfl) (by kernel_rfl)) (isNil_ok pin_lt nglob ptrs_ok)
theorem prim95 : PrimOk Tryz.prog 95 (pTypeOf 135 1) := prim_of (e := Go.Extern.ReflectliteType.typeOf) (Entry.of Tryz.func95 (by kernel_rfl) (by kernel_rfl) (by kernel_rfl) (by kernel_rfl)) (typeOf_ok pin_lt toType_run)
theorem prim96 : PrimOk Tryz.prog 96 (pValueElem 1 [(102, 50, 2), (103, 98, 22)]) := prim_of (e := Go.Extern.ReflectliteValue.method (Go.Extern.ReflectliteValue.valueError "reflectlite.Value.Elem" 0) Go.Extern.ReflectliteValue.elem) (Entry.of Tryz.func96 (by kernel_rfl) (by kernel_rfl) (by kernel_rfl) (by kernel_rfl)) (valueElem_ok pin_lt nglob ptrs_ok)
theorem prim97 : PrimOk Tryz.prog 97 (pSet 1 [50, 98]) := prim_of (e := Go.Extern.ReflectliteValue.set) (Entry.of Tryz.func97 (by kernel_rfl) (by kernel_rfl) (by kernel_rfl) (by kernel_rfl)) (set_ok pin_lt nglob sets_ok)
def tab112 : List (List AVal × AVal) := [([.ptr 1 50], .int .u8 2), ([.ptr 1 98], .int .u8 22), ([.ptr 1 102], .int .u8 22), ([.ptr 1 103], .int .u8 22)]
theorem tab112_ok : ∀ p ∈ tab112, CFacts Tryz.prog 1 (Go.Extern.ReflectliteType.abiMethod fun t => do pure (.int .u8 (← Go.Extern.Rtype.kind t))) p := by
  intro p hp
  simp only [tab112, List.mem_cons, List.not_mem_nil, or_false] at hp
  rcases hp with rfl | rfl | rfl | rfl
  · exact ⟨[.pointer (some ⟨1, 50, none⟩)], .int .u8 2, rfl, rfl, fun w => by kernel_rfl⟩
  · exact ⟨[.pointer (some ⟨1, 98, none⟩)], .int .u8 22, rfl, rfl, fun w => by kernel_rfl⟩
  · exact ⟨[.pointer (some ⟨1, 102, none⟩)], .int .u8 22, rfl, rfl, fun w => by kernel_rfl⟩
  · exact ⟨[.pointer (some ⟨1, 103, none⟩)], .int .u8 22, rfl, rfl, fun w => by kernel_rfl⟩
theorem prim112 : PrimOk Tryz.prog 112 (pClosed tab112) := prim_of (e := Go.Extern.ReflectliteType.abiMethod fun t => do pure (.int .u8 (← Go.Extern.Rtype.kind t))) (Entry.of Tryz.func112 (by kernel_rfl) (by kernel_rfl) (by kernel_rfl) (by kernel_rfl)) (closed_ok pin_lt tab112_ok)
def tab123 : List (List AVal × AVal) := [([.agg [.ptr 1 50], .iface 135 (.agg [.ptr 1 50])], .bool true), ([.agg [.ptr 1 50], .iface 135 (.agg [.ptr 1 98])], .bool false), ([.agg [.ptr 1 98], .iface 135 (.agg [.ptr 1 50])], .bool false), ([.agg [.ptr 1 98], .iface 135 (.agg [.ptr 1 98])], .bool true), ([.agg [.ptr 1 102], .iface 135 (.agg [.ptr 1 50])], .bool false), ([.agg [.ptr 1 102], .iface 135 (.agg [.ptr 1 98])], .bool false)]
theorem tab123_ok : ∀ p ∈ tab123, CFacts Tryz.prog 1 (Go.Extern.ReflectliteType.relation "AssignableTo" Go.Extern.ReflectliteType.assignableTo) p := by
  intro p hp
  simp only [tab123, List.mem_cons, List.not_mem_nil, or_false] at hp
  rcases hp with rfl | rfl | rfl | rfl | rfl | rfl
  · exact ⟨[.agg #[.pointer (some ⟨1, 50, none⟩)], .iface 135 (.agg #[.pointer (some ⟨1, 50, none⟩)])], .bool true, rfl, rfl, fun w => by kernel_rfl⟩
  · exact ⟨[.agg #[.pointer (some ⟨1, 50, none⟩)], .iface 135 (.agg #[.pointer (some ⟨1, 98, none⟩)])], .bool false, rfl, rfl, fun w => by kernel_rfl⟩
  · exact ⟨[.agg #[.pointer (some ⟨1, 98, none⟩)], .iface 135 (.agg #[.pointer (some ⟨1, 50, none⟩)])], .bool false, rfl, rfl, fun w => by kernel_rfl⟩
  · exact ⟨[.agg #[.pointer (some ⟨1, 98, none⟩)], .iface 135 (.agg #[.pointer (some ⟨1, 98, none⟩)])], .bool true, rfl, rfl, fun w => by kernel_rfl⟩
  · exact ⟨[.agg #[.pointer (some ⟨1, 102, none⟩)], .iface 135 (.agg #[.pointer (some ⟨1, 50, none⟩)])], .bool false, rfl, rfl, fun w => by kernel_rfl⟩
  · exact ⟨[.agg #[.pointer (some ⟨1, 102, none⟩)], .iface 135 (.agg #[.pointer (some ⟨1, 98, none⟩)])], .bool false, rfl, rfl, fun w => by kernel_rfl⟩
theorem prim123 : PrimOk Tryz.prog 123 (pClosed tab123) := prim_of (e := Go.Extern.ReflectliteType.relation "AssignableTo" Go.Extern.ReflectliteType.assignableTo) (Entry.of Tryz.func123 (by kernel_rfl) (by kernel_rfl) (by kernel_rfl) (by kernel_rfl)) (closed_ok pin_lt tab123_ok)
def tab124 : List (List AVal × AVal) := [([.agg [.ptr 1 50]], .bool true), ([.agg [.ptr 1 98]], .bool true), ([.agg [.ptr 1 102]], .bool true)]
theorem tab124_ok : ∀ p ∈ tab124, CFacts Tryz.prog 1 (Go.Extern.ReflectliteType.method fun t => do Go.Extern.Rtype.noPackHeld "Comparable" t; pure (.bool (← typeInfo t).comparable)) p := by
  intro p hp
  simp only [tab124, List.mem_cons, List.not_mem_nil, or_false] at hp
  rcases hp with rfl | rfl | rfl
  · exact ⟨[.agg #[.pointer (some ⟨1, 50, none⟩)]], .bool true, rfl, rfl, fun w => by kernel_rfl⟩
  · exact ⟨[.agg #[.pointer (some ⟨1, 98, none⟩)]], .bool true, rfl, rfl, fun w => by kernel_rfl⟩
  · exact ⟨[.agg #[.pointer (some ⟨1, 102, none⟩)]], .bool true, rfl, rfl, fun w => by kernel_rfl⟩
theorem prim124 : PrimOk Tryz.prog 124 (pClosed tab124) := prim_of (e := Go.Extern.ReflectliteType.method fun t => do Go.Extern.Rtype.noPackHeld "Comparable" t; pure (.bool (← typeInfo t).comparable)) (Entry.of Tryz.func124 (by kernel_rfl) (by kernel_rfl) (by kernel_rfl) (by kernel_rfl)) (closed_ok pin_lt tab124_ok)
def tab125 : List (List AVal × AVal) := [([.agg [.ptr 1 102]], .iface 135 (.agg [.ptr 1 50])), ([.agg [.ptr 1 103]], .iface 135 (.agg [.ptr 1 98]))]
theorem tab125_ok : ∀ p ∈ tab125, CFacts Tryz.prog 1 (Go.Extern.ReflectliteType.method Go.Extern.ReflectliteType.elem) p := by
  intro p hp
  simp only [tab125, List.mem_cons, List.not_mem_nil, or_false] at hp
  rcases hp with rfl | rfl
  · exact ⟨[.agg #[.pointer (some ⟨1, 102, none⟩)]], .iface 135 (.agg #[.pointer (some ⟨1, 50, none⟩)]), rfl, rfl, fun w => by kernel_rfl⟩
  · exact ⟨[.agg #[.pointer (some ⟨1, 103, none⟩)]], .iface 135 (.agg #[.pointer (some ⟨1, 98, none⟩)]), rfl, rfl, fun w => by kernel_rfl⟩
theorem prim125 : PrimOk Tryz.prog 125 (pClosed tab125) := prim_of (e := Go.Extern.ReflectliteType.method Go.Extern.ReflectliteType.elem) (Entry.of Tryz.func125 (by kernel_rfl) (by kernel_rfl) (by kernel_rfl) (by kernel_rfl)) (closed_ok pin_lt tab125_ok)
def tab126 : List (List AVal × AVal) := [([.agg [.ptr 1 50], .iface 135 (.agg [.ptr 1 54])], .bool true), ([.agg [.ptr 1 98], .iface 135 (.agg [.ptr 1 54])], .bool true)]
theorem tab126_ok : ∀ p ∈ tab126, CFacts Tryz.prog 1 (Go.Extern.ReflectliteType.relation "Implements" Go.Extern.ReflectliteType.implements_) p := by
  intro p hp
  simp only [tab126, List.mem_cons, List.not_mem_nil, or_false] at hp
  rcases hp with rfl | rfl
  · exact ⟨[.agg #[.pointer (some ⟨1, 50, none⟩)], .iface 135 (.agg #[.pointer (some ⟨1, 54, none⟩)])], .bool true, rfl, rfl, fun w => by kernel_rfl⟩
  · exact ⟨[.agg #[.pointer (some ⟨1, 98, none⟩)], .iface 135 (.agg #[.pointer (some ⟨1, 54, none⟩)])], .bool true, rfl, rfl, fun w => by kernel_rfl⟩
theorem prim126 : PrimOk Tryz.prog 126 (pClosed tab126) := prim_of (e := Go.Extern.ReflectliteType.relation "Implements" Go.Extern.ReflectliteType.implements_) (Entry.of Tryz.func126 (by kernel_rfl) (by kernel_rfl) (by kernel_rfl) (by kernel_rfl)) (closed_ok pin_lt tab126_ok)
end prims
noncomputable def A3 : AFunc := ⟨0, (.seq (.region [.op 0 (.mov 0 (.const (.bool false)))] [])
 (.seq (.seq (.region [.op 0 (.mov 1 (.const (.int .i64 0)))] [])
 (.block 0 (.loop ⟨[1], []⟩ [((.exit 0), ⟨[], []⟩), (.ret, ⟨[0], []⟩)]
 (.seq (.seq (.region [.op 0 (.mov 10 (.tmp 1)),
 .op 1 (.bin 11 .lss .plain (.tmp 10) (.const (.int .i64 60)))] [])
 (.cond (.tmp 11)
 .skip
 (.exit 0)))
 (.seq (.block 1 (.seq (.region [.op 0 (.mov 14 (.tmp 1)),
 .op 1 (.call 15 5 [.tmp 14]),
 .op 2 (.build 16 [.nilSlice, .int .i64 0] [(0, 1, .tmp 15)]),
 .op 3 (.box 17 false (.tmp 16)),
 .op 4 (.call 18 6 [.tmp 17]),
 .op 5 (.alloc 2 true mz),
 .op 6 (.store true 13 (.tmp 2) (.tmp 18))] [])
 (.seq (.seq (.region [.op 0 (.load 19 true 13 (.tmp 2)),
 .op 1 (.call 20 7 [.tmp 19]),
 .op 2 (.un 21 .not (.tmp 20))] [])
 (.cond (.tmp 21)
 (.seq (.region [.op 0 (.mov 0 (.const (.bool false)))] [])
 .ret)
 .skip))
 (.seq (.seq (.region [.op 0 (.mov 3 (.const (.int .i64 0)))] [])
 (.block 2 (.loop ⟨[1, 3], [2]⟩ [((.exit 2), ⟨[1], [2]⟩), (.ret, ⟨[0], []⟩)]
 (.seq (.seq (.region [.op 0 (.mov 22 (.tmp 3)),
 .op 1 (.bin 23 .lss .plain (.tmp 22) (.const (.int .i64 14)))] [])
 (.cond (.tmp 23)
 .skip
 (.exit 2)))
 (.seq (.block 3 (.seq (.region [.op 0 (.buildSl 26 [.int .i64 0] 1 8 [(0, .const (.int .i64 (-2))), (1, .const (.int .i64 (-1))), (2, .const (.int .i64 0)), (3, .const (.int .i64 1)), (4, .const (.int .i64 5)), (5, .const (.int .i64 6)), (6, .const (.int .i64 255)), (7, .const (.int .i64 256))]),
 .op 1 (.len 27 false (.tmp 26)),
 .op 2 (.mov 28 (.const (.int .i64 0)))] [])
 (.block 4 (.loop ⟨[1, 3, 26, 27, 28], [2]⟩ [((.exit 4), ⟨[1, 3], [2]⟩), (.ret, ⟨[0], []⟩)]
 (.seq (.region [.op 0 (.bin 29 .lss .plain (.tmp 28) (.tmp 27))] [])
 (.seq (.cond (.tmp 29)
 .skip
 (.exit 4))
 (.seq (.block 5 (.seq (.region [.op 0 (.iaddr 30 none 1 (.tmp 26) (.tmp 28)),
 .op 1 (.load 31 false 1 (.tmp 30)),
 .op 2 (.mov 5 (.tmp 31))] [])
 (.seq (.region [.op 0 (.load 32 true 13 (.tmp 2)),
 .op 1 (.mov 33 (.tmp 3)),
 .op 2 (.mov 34 (.tmp 5)),
 .op 3 (.call 35 8 [.tmp 32, .tmp 33, .tmp 34]),
 .op 4 (.call 36 7 [.tmp 35]),
 .op 5 (.un 37 .not (.tmp 36))] [])
 (.cond (.tmp 37)
 (.seq (.region [.op 0 (.mov 0 (.const (.bool false)))] [])
 .ret)
 .skip))))
 (.region [.op 0 (.bin 38 .add .plain (.tmp 28) (.const (.int .i64 1))),
 .op 1 (.mov 28 (.tmp 38))] []))))))))
 (.region [.op 0 (.mov 24 (.tmp 3)),
 .op 1 (.bin 25 .add .plain (.tmp 24) (.const (.int .i64 1))),
 .op 2 (.mov 3 (.tmp 25))] []))))))
 (.seq (.region [.op 0 (.load 39 true 13 (.tmp 2)),
 .op 1 (.call 40 9 [.tmp 39]),
 .op 2 (.mov 6 (.tmp 40))] [])
 (.seq (.region [.op 0 (.mov 7 (.const (.int .i64 0)))] [])
 (.block 6 (.loop ⟨[1, 6, 7], []⟩ [((.exit 6), ⟨[1], []⟩), (.ret, ⟨[0], []⟩)]
 (.seq (.seq (.region [.op 0 (.mov 41 (.tmp 7)),
 .op 1 (.mov 42 (.tmp 6)),
 .op 2 (.len 43 false (.tmp 42)),
 .op 3 (.bin 44 .leq .plain (.tmp 41) (.tmp 43)),
 .op 4 (.mov 45 (.tmp 44)),
 .guard 45 true [.op 5 (.mov 46 (.tmp 1)),
 .op 6 (.bin 47 .lss .plain (.tmp 46) (.const (.int .i64 12)))] [] [47],
 .op 7 (.pick 48 (.tmp 45) (.tmp 47) (.const (.bool false)))] [])
 (.cond (.tmp 48)
 .skip
 (.exit 6)))
 (.seq (.block 7 (.seq (.seq (.region [.op 0 (.mov 51 (.tmp 6)),
 .op 1 (.mov 52 (.tmp 7)),
 .op 2 (.slice 53 (.sl 1) (.tmp 51) none (some (.tmp 52)) none),
 .op 3 (.call 54 10 [.tmp 53]),
 .op 4 (.un 55 .not (.tmp 54)),
 .op 5 (.mov 56 (.tmp 55)),
 .guard 56 false [.op 6 (.buildSl 57 [.int .u8 0] 1 0 []),
 .op 7 (.mov 58 (.tmp 6)),
 .op 8 (.mov 59 (.tmp 7)),
 .op 9 (.slice 60 (.sl 1) (.tmp 58) none (some (.tmp 59)) none),
 .op 10 (.append 61 1 1 [.int .u8 0] false (.tmp 57) (.tmp 60)),
 .op 11 (.buildSl 62 [.int .u8 0] 1 1 [(0, .const (.int .u8 1))]),
 .op 12 (.append 63 1 1 [.int .u8 0] false (.tmp 61) (.tmp 62)),
 .op 13 (.call 64 10 [.tmp 63]),
 .op 14 (.un 65 .not (.tmp 64))] [] [65],
 .op 15 (.pick 66 (.tmp 56) (.const (.bool true)) (.tmp 65))] [])
 (.cond (.tmp 66)
 (.seq (.region [.op 0 (.mov 0 (.const (.bool false)))] [])
 .ret)
 .skip))
 (.seq (.region [.op 0 (.mov 67 (.tmp 7)),
 .op 1 (.mov 68 (.tmp 6)),
 .op 2 (.len 69 false (.tmp 68)),
 .op 3 (.bin 70 .lss .plain (.tmp 67) (.tmp 69))] [])
 (.join [(.ret, ⟨[0], []⟩), (.normal, ⟨[1, 6, 7], []⟩)] (.cond (.tmp 70)
 (.seq (.region [.op 0 (.buildSl 71 [.int .u8 0] 1 0 []),
 .op 1 (.mov 72 (.tmp 6)),
 .op 2 (.append 73 1 1 [.int .u8 0] false (.tmp 71) (.tmp 72)),
 .op 3 (.mov 8 (.tmp 73))] [])
 (.seq (.region [.op 0 (.mov 74 (.tmp 8)),
 .op 1 (.mov 75 (.tmp 7)),
 .op 2 (.iaddr 76 none 1 (.tmp 74) (.tmp 75)),
 .op 3 (.load 77 false 1 (.tmp 76)),
 .op 4 (.mov 78 (.tmp 1)),
 .op 5 (.bin 79 .rem .plain (.tmp 78) (.const (.int .i64 8))),
 .op 6 (.conv 80 (.toInt .u64) (.tmp 79)),
 .op 7 (.bin 81 .shl .plain (.const (.int .u8 1)) (.tmp 80)),
 .op 8 (.bin 82 .xor .plain (.tmp 77) (.tmp 81)),
 .op 9 (.iaddr 83 none 1 (.tmp 74) (.tmp 75)),
 .op 10 (.store false 1 (.tmp 83) (.tmp 82))] [])
 (.seq (.region [.op 0 (.mov 84 (.tmp 8)),
 .op 1 (.call 85 10 [.tmp 84]),
 .op 2 (.un 86 .not (.tmp 85))] [])
 (.cond (.tmp 86)
 (.seq (.region [.op 0 (.mov 0 (.const (.bool false)))] [])
 .ret)
 .skip))))
 .skip)))))
 (.region [.op 0 (.mov 49 (.tmp 7)),
 .op 1 (.bin 50 .add .plain (.tmp 49) (.const (.int .i64 1))),
 .op 2 (.mov 7 (.tmp 50))] [])))))))))))
 (.region [.op 0 (.mov 12 (.tmp 1)),
 .op 1 (.bin 13 .add .plain (.tmp 12) (.const (.int .i64 1))),
 .op 2 (.mov 1 (.tmp 13))] []))))))
 (.seq (.seq (.region [.op 0 (.mov 9 (.const (.int .i64 0)))] [])
 (.block 8 (.loop ⟨[9], []⟩ [((.exit 8), ⟨[], []⟩), (.ret, ⟨[0], []⟩)]
 (.seq (.seq (.region [.op 0 (.mov 87 (.tmp 9)),
 .op 1 (.bin 88 .lss .plain (.tmp 87) (.const (.int .i64 8)))] [])
 (.cond (.tmp 88)
 .skip
 (.exit 8)))
 (.seq (.block 9 (.seq (.region [.op 0 (.mov 91 (.tmp 9)),
 .op 1 (.conv 92 (.toInt .u8) (.tmp 91)),
 .op 2 (.buildSl 93 [.int .u8 0] 1 1 [(0, .tmp 92)]),
 .op 3 (.call 94 10 [.tmp 93]),
 .op 4 (.un 95 .not (.tmp 94)),
 .op 5 (.mov 96 (.tmp 95)),
 .guard 96 false [.op 6 (.mov 97 (.tmp 9)),
 .op 7 (.conv 98 (.toInt .u8) (.tmp 97)),
 .op 8 (.buildSl 99 [.int .u8 0] 1 2 [(0, .tmp 98), (1, .const (.int .u8 0))]),
 .op 9 (.call 100 10 [.tmp 99]),
 .op 10 (.un 101 .not (.tmp 100))] [] [101],
 .op 11 (.pick 102 (.tmp 96) (.const (.bool true)) (.tmp 101))] [])
 (.cond (.tmp 102)
 (.seq (.region [.op 0 (.mov 0 (.const (.bool false)))] [])
 .ret)
 .skip)))
 (.region [.op 0 (.mov 89 (.tmp 9)),
 .op 1 (.bin 90 .add .plain (.tmp 89) (.const (.int .i64 1))),
 .op 2 (.mov 9 (.tmp 90))] []))))))
 (.seq (.region [.op 0 (.buildSl 103 [.int .u8 0] 1 1 [(0, .const (.int .u8 1))]),
 .op 1 (.call 104 11 [.tmp 103, .const (.int .i64 5)]),
 .op 2 (.call 105 10 [.tmp 104]),
 .op 3 (.mov 106 (.tmp 105)),
 .guard 106 true [.op 4 (.call 107 12 [])] [] [107],
 .op 5 (.pick 108 (.tmp 106) (.tmp 107) (.const (.bool false))),
 .op 6 (.mov 0 (.tmp 108))] [])
 .ret)))),
 [.tmp 0]⟩
theorem ok3 : funcOk Tryz.prog (drawOk Tryz.prog) Tryz.f3 A3 = true := by kernel_rfl
noncomputable def L3_2 (call : Go.Fw.Call) (xs : List AVal) (h : Heap) : Option J :=
 (aBin .lss .plain (xs.getD 4 .undef) (xs.getD 3 .undef)).bind fun v15 =>
 condV v15
 ((aIaddr 1 (xs.getD 2 .undef) (xs.getD 4 .undef)).bind fun v16 =>
 (aLoad h 1 v16).bind fun c17 =>
 (fromCells false c17).bind fun v18 =>
 (rdL (AVal.aggCells (xs.getD 5 .undef)) 0 13).bind fun c19 =>
 (fromCells true c19).bind fun v20 =>
 (call 8 [v20, (xs.getD 1 .undef), v18] h).bind fun r21 =>
 (call 7 [r21.1] r21.2).bind fun r22 =>
 (aUn .not r22.1).bind fun v23 =>
 condV v23
 (some (2, [(.bool false)], r22.2))
 ((aBin .add .plain (xs.getD 4 .undef) (.int .i64 1)).bind fun v24 =>
 some (0, [(xs.getD 0 .undef), (xs.getD 1 .undef), (xs.getD 2 .undef), (xs.getD 3 .undef), v24, (.agg (AVal.aggCells (xs.getD 5 .undef)))], r22.2)))
 (some (1, [(xs.getD 0 .undef), (xs.getD 1 .undef), (.agg (AVal.aggCells (xs.getD 5 .undef)))], h))
noncomputable def L3_1 (call : Go.Fw.Call) (xs : List AVal) (h : Heap) : Option J :=
 (aBin .lss .plain (xs.getD 1 .undef) (.int .i64 14)).bind fun v12 =>
 condV v12
 ((aFill (reps [.int .i64 0] 8) [(0, 1, (.int .i64 (-2))), (1, 1, (.int .i64 (-1))), (2, 1, (.int .i64 0)), (3, 1, (.int .i64 1)), (4, 1, (.int .i64 5)), (5, 1, (.int .i64 6)), (6, 1, (.int .i64 255)), (7, 1, (.int .i64 256))]).bind fun c13 =>
 (aLen false (.slice h.next 0 8 8 1 true)).bind fun v14 =>
 (loop (L3_2 call) [(xs.getD 0 .undef), (xs.getD 1 .undef), (.slice h.next 0 8 8 1 true), v14, (.int .i64 0), (.agg (AVal.aggCells (xs.getD 2 .undef)))] (h.alloc c13)).bind fun x25 =>
 bif Nat.beq x25.1 1 then (aBin .add .plain (x25.2.1.getD 1 .undef) (.int .i64 1)).bind fun v26 =>
 some (0, [(x25.2.1.getD 0 .undef), v26, (.agg (AVal.aggCells (x25.2.1.getD 2 .undef)))], x25.2.2) else
 bif Nat.beq x25.1 2 then some (2, [(x25.2.1.getD 0 .undef)], x25.2.2) else
 none)
 (some (1, [(xs.getD 0 .undef), (.agg (AVal.aggCells (xs.getD 2 .undef)))], h))
noncomputable def L3_3 (call : Go.Fw.Call) (xs : List AVal) (h : Heap) : Option J :=
 (aLen false (xs.getD 1 .undef)).bind fun v31 =>
 (aBin .leq .plain (xs.getD 2 .undef) v31).bind fun v32 =>
 (guardV v32 true
 ((aBin .lss .plain (xs.getD 0 .undef) (.int .i64 12)).bind fun v33 =>
 some (0, [v33], h))
 (some (0, [skipV], h))).bind fun g34 =>
 (aPick v32 (g34.2.1.getD 0 .undef) (.bool false)).bind fun v35 =>
 condV v35
 ((aSliceSl 1 (xs.getD 1 .undef) none (some (xs.getD 2 .undef)) none).bind fun v36 =>
 (call 10 [v36] g34.2.2).bind fun r37 =>
 (aUn .not r37.1).bind fun v38 =>
 (guardV v38 false
 ((aFill (reps [.int .u8 0] 0) []).bind fun c39 =>
 (aSliceSl 1 (xs.getD 1 .undef) none (some (xs.getD 2 .undef)) none).bind fun v40 =>
 (aAppend 1 1 [.int .u8 0] false (.slice r37.2.next 0 0 0 1 true) v40 (r37.2.alloc c39)).bind fun r41 =>
 (aFill (reps [.int .u8 0] 1) [(0, 1, (.int .u8 1))]).bind fun c42 =>
 (aAppend 1 1 [.int .u8 0] false r41.1 (.slice r41.2.next 0 1 1 1 true) (r41.2.alloc c42)).bind fun r43 =>
 (call 10 [r43.1] r43.2).bind fun r44 =>
 (aUn .not r44.1).bind fun v45 =>
 some (0, [v45], r44.2))
 (some (0, [skipV], r37.2))).bind fun g46 =>
 (aPick v38 (.bool true) (g46.2.1.getD 0 .undef)).bind fun v47 =>
 condV v47
 (some (2, [(.bool false)], g46.2.2))
 ((aLen false (xs.getD 1 .undef)).bind fun v48 =>
 (aBin .lss .plain (xs.getD 2 .undef) v48).bind fun v49 =>
 (condV v49
 ((aFill (reps [.int .u8 0] 0) []).bind fun c50 =>
 (aAppend 1 1 [.int .u8 0] false (.slice g46.2.2.next 0 0 0 1 true) (xs.getD 1 .undef) (g46.2.2.alloc c50)).bind fun r51 =>
 (aIaddr 1 r51.1 (xs.getD 2 .undef)).bind fun v52 =>
 (aLoad r51.2 1 v52).bind fun c53 =>
 (fromCells false c53).bind fun v54 =>
 (aBin .rem .plain (xs.getD 0 .undef) (.int .i64 8)).bind fun v55 =>
 (aConv (.toInt .u64) v55 r51.2).bind fun r56 =>
 (aBin .shl .plain (.int .u8 1) r56.1).bind fun v57 =>
 (aBin .xor .plain v54 v57).bind fun v58 =>
 (aIaddr 1 r51.1 (xs.getD 2 .undef)).bind fun v59 =>
 (aCells 1 v58).bind fun c60 =>
 (aStore r56.2 v59 c60).bind fun h61 =>
 (call 10 [r51.1] h61).bind fun r62 =>
 (aUn .not r62.1).bind fun v63 =>
 condV v63
 (some (0, [(.bool false)], r62.2))
 (some (1, [(xs.getD 0 .undef), (xs.getD 1 .undef), (xs.getD 2 .undef)], r62.2)))
 (some (1, [(xs.getD 0 .undef), (xs.getD 1 .undef), (xs.getD 2 .undef)], g46.2.2))).bind fun x64 =>
 bif Nat.beq x64.1 0 then some (2, [(x64.2.1.getD 0 .undef)], x64.2.2) else
 bif Nat.beq x64.1 1 then (aBin .add .plain (x64.2.1.getD 2 .undef) (.int .i64 1)).bind fun v65 =>
 some (0, [(x64.2.1.getD 0 .undef), (x64.2.1.getD 1 .undef), v65], x64.2.2) else
 none))
 (some (1, [(xs.getD 0 .undef)], g34.2.2))
noncomputable def L3_0 (call : Go.Fw.Call) (xs : List AVal) (h : Heap) : Option J :=
 (aBin .lss .plain (xs.getD 0 .undef) (.int .i64 60)).bind fun v1 =>
 condV v1
 ((call 5 [(xs.getD 0 .undef)] h).bind fun r2 =>
 (aFill [.nilSlice, .int .i64 0] [(0, 1, r2.1)]).bind fun c3 =>
 (AVal.cells? (.agg c3)).bind fun c4 =>
 (call 6 [(.ptr r2.2.next 0)] (r2.2.alloc c4)).bind fun r6 =>
 (aCells 13 r6.1).bind fun c7 =>
 bif Nat.ble ((0) + 13) (List.length (α := AVal) [.int .i64 0, .int .i64 0, .int .i64 0, .int .i64 0, .int .i64 0, .int .i64 0, .int .i64 0, .str [], .str [], .bool false, .int .u32 0, .nilSlice, .nilSlice]) then (rdL (splice [.int .i64 0, .int .i64 0, .int .i64 0, .int .i64 0, .int .i64 0, .int .i64 0, .int .i64 0, .str [], .str [], .bool false, .int .u32 0, .nilSlice, .nilSlice] (0) c7) 0 13).bind fun c8 =>
 (fromCells true c8).bind fun v9 =>
 (call 7 [v9] r6.2).bind fun r10 =>
 (aUn .not r10.1).bind fun v11 =>
 condV v11
 (some (2, [(.bool false)], r10.2))
 ((loop (L3_1 call) [(xs.getD 0 .undef), (.int .i64 0), (.agg (splice [.int .i64 0, .int .i64 0, .int .i64 0, .int .i64 0, .int .i64 0, .int .i64 0, .int .i64 0, .str [], .str [], .bool false, .int .u32 0, .nilSlice, .nilSlice] (0) c7))] r10.2).bind fun x27 =>
 bif Nat.beq x27.1 1 then (rdL (AVal.aggCells (x27.2.1.getD 1 .undef)) 0 13).bind fun c28 =>
 (fromCells true c28).bind fun v29 =>
 (call 9 [v29] x27.2.2).bind fun r30 =>
 (loop (L3_3 call) [(x27.2.1.getD 0 .undef), r30.1, (.int .i64 0)] r30.2).bind fun x66 =>
 bif Nat.beq x66.1 1 then (aBin .add .plain (x66.2.1.getD 0 .undef) (.int .i64 1)).bind fun v67 =>
 some (0, [v67], x66.2.2) else
 bif Nat.beq x66.1 2 then some (2, [(x66.2.1.getD 0 .undef)], x66.2.2) else
 none else
 bif Nat.beq x27.1 2 then some (2, [(x27.2.1.getD 0 .undef)], x27.2.2) else
 none) else none)
 (some (1, [], h))
noncomputable def L3_4 (call : Go.Fw.Call) (xs : List AVal) (h : Heap) : Option J :=
 (aBin .lss .plain (xs.getD 0 .undef) (.int .i64 8)).bind fun v69 =>
 condV v69
 ((aConv (.toInt .u8) (xs.getD 0 .undef) h).bind fun r70 =>
 (aFill (reps [.int .u8 0] 1) [(0, 1, r70.1)]).bind fun c71 =>
 (call 10 [(.slice r70.2.next 0 1 1 1 true)] (r70.2.alloc c71)).bind fun r72 =>
 (aUn .not r72.1).bind fun v73 =>
 (guardV v73 false
 ((aConv (.toInt .u8) (xs.getD 0 .undef) r72.2).bind fun r74 =>
 (aFill (reps [.int .u8 0] 2) [(0, 1, r74.1), (1, 1, (.int .u8 0))]).bind fun c75 =>
 (call 10 [(.slice r74.2.next 0 2 2 1 true)] (r74.2.alloc c75)).bind fun r76 =>
 (aUn .not r76.1).bind fun v77 =>
 some (0, [v77], r76.2))
 (some (0, [skipV], r72.2))).bind fun g78 =>
 (aPick v73 (.bool true) (g78.2.1.getD 0 .undef)).bind fun v79 =>
 condV v79
 (some (2, [(.bool false)], g78.2.2))
 ((aBin .add .plain (xs.getD 0 .undef) (.int .i64 1)).bind fun v80 =>
 some (0, [v80], g78.2.2)))
 (some (1, [], h))
noncomputable def S3 (call : Go.Fw.Call) (h : Heap) : Option J :=
 (loop (L3_0 call) [(.int .i64 0)] h).bind fun x68 =>
 bif Nat.beq x68.1 1 then (loop (L3_4 call) [(.int .i64 0)] x68.2.2).bind fun x81 =>
 bif Nat.beq x81.1 1 then (aFill (reps [.int .u8 0] 1) [(0, 1, (.int .u8 1))]).bind fun c82 =>
 (call 11 [(.slice x81.2.2.next 0 1 1 1 true), (.int .i64 5)] (x81.2.2.alloc c82)).bind fun r83 =>
 (call 10 [r83.1] r83.2).bind fun r84 =>
 (guardV r84.1 true
 ((call 12 [] r84.2).bind fun r85 =>
 some (0, [r85.1], r85.2))
 (some (0, [skipV], r84.2))).bind fun g86 =>
 (aPick r84.1 (g86.2.1.getD 0 .undef) (.bool false)).bind fun v87 =>
 some (0, [v87], g86.2.2) else
 bif Nat.beq x81.1 2 then some (0, [(x81.2.1.getD 0 .undef)], x81.2.2) else
 none else
 bif Nat.beq x68.1 2 then some (0, [(x68.2.1.getD 0 .undef)], x68.2.2) else
 none
theorem run3 (call : Go.Fw.Call) (h : Heap) : runFn call (.code A3) [] h = (S3 call  h).bind ansOf := by kernel_rfl
noncomputable def A4 : AFunc := ⟨7, (.seq (.region [.op 0 (.box 10 true (.tmp 3)),
 .op 1 (.mov 14 (.const (.bool false)))] [])
 (.seq (.region [.op 0 (.mov 17 (.tmp 0)),
 .op 1 (.build 18 [.nilSlice, .int .i64 0] [(0, 1, .tmp 17)]),
 .op 2 (.box 19 false (.tmp 18)),
 .op 3 (.call 20 6 [.tmp 19]),
 .op 4 (.alloc 15 true mz),
 .op 5 (.store true 13 (.tmp 15) (.tmp 20))] [])
 (.seq (.region [.op 0 (.load 21 true 13 (.tmp 15)),
 .op 1 (.call 22 9 [.tmp 21]),
 .op 2 (.mov 16 (.tmp 22))] [])
 (.seq (.region [.op 0 (.mov 23 (.tmp 16)),
 .op 1 (.mov 24 (.tmp 5)),
 .op 2 (.mov 25 (.tmp 16)),
 .op 3 (.len 26 false (.tmp 25)),
 .op 4 (.bin 27 .sub .plain (.tmp 26) (.const (.int .i64 1))),
 .op 5 (.call 28 13 [.tmp 24, .const (.int .i64 0), .tmp 27]),
 .op 6 (.iaddr 29 none 1 (.tmp 23) (.tmp 28)),
 .op 7 (.load 30 false 1 (.tmp 29)),
 .op 8 (.mov 31 (.tmp 6)),
 .op 9 (.bin 32 .xor .plain (.tmp 30) (.tmp 31)),
 .op 10 (.iaddr 33 none 1 (.tmp 23) (.tmp 28)),
 .op 11 (.store false 1 (.tmp 33) (.tmp 32))] [])
 (.seq (.seq (.region [.op 0 (.mov 34 (.tmp 4)),
 .op 1 (.len 35 false (.tmp 34)),
 .op 2 (.bin 36 .gtr .plain (.tmp 35) (.const (.int .i64 300)))] [])
 (.join [(.normal, ⟨[1, 2, 4, 5, 16], [10, 15]⟩)] (.cond (.tmp 36)
 (.region [.op 0 (.mov 37 (.tmp 4)),
 .op 1 (.slice 38 (.sl 1) (.tmp 37) none (some (.const (.int .i64 300))) none),
 .op 2 (.mov 4 (.tmp 38))] [])
 .skip)))
 (.seq (.region [.op 0 (.load 39 true 13 (.tmp 15)),
 .op 1 (.call 40 7 [.tmp 39]),
 .op 2 (.mov 41 (.tmp 40)),
 .guard 41 true [.op 3 (.load 42 true 13 (.tmp 15)),
 .op 4 (.mov 43 (.tmp 1)),
 .op 5 (.mov 44 (.tmp 2)),
 .op 6 (.call 45 8 [.tmp 42, .tmp 43, .tmp 44]),
 .op 7 (.call 46 7 [.tmp 45])] [] [46],
 .op 8 (.pick 47 (.tmp 41) (.tmp 46) (.const (.bool false))),
 .op 9 (.mov 48 (.tmp 47)),
 .guard 48 true [.op 10 (.load 49 true 13 (.tmp 15)),
 .op 11 (.mov 50 (.tmp 1)),
 .op 12 (.mov 51 (.tmp 2)),
 .op 13 (.call 52 8 [.tmp 49, .tmp 50, .tmp 51]),
 .op 14 (.mov 53 (.tmp 5)),
 .op 15 (.mov 54 (.tmp 2)),
 .op 16 (.bin 55 .and .plain (.tmp 54) (.const (.int .i64 7))),
 .op 17 (.call 56 8 [.tmp 52, .tmp 53, .tmp 55]),
 .op 18 (.call 57 7 [.tmp 56])] [] [57],
 .op 19 (.pick 58 (.tmp 48) (.tmp 57) (.const (.bool false))),
 .op 20 (.mov 59 (.tmp 58)),
 .guard 59 true [.op 21 (.load 60 true 13 (.tmp 10)),
 .op 22 (.call 61 7 [.tmp 60])] [] [61],
 .op 23 (.pick 62 (.tmp 59) (.tmp 61) (.const (.bool false))),
 .op 24 (.mov 63 (.tmp 62)),
 .guard 63 true [.op 25 (.mov 64 (.tmp 16)),
 .op 26 (.call 65 10 [.tmp 64])] [] [65],
 .op 27 (.pick 66 (.tmp 63) (.tmp 65) (.const (.bool false))),
 .op 28 (.mov 67 (.tmp 66)),
 .guard 67 true [.op 29 (.mov 68 (.tmp 4)),
 .op 30 (.call 69 10 [.tmp 68])] [] [69],
 .op 31 (.pick 70 (.tmp 67) (.tmp 69) (.const (.bool false))),
 .op 32 (.mov 71 (.tmp 70)),
 .guard 71 true [.op 33 (.load 72 true 13 (.tmp 15)),
 .op 34 (.load 73 true 13 (.tmp 10)),
 .op 35 (.call 74 14 [.tmp 72, .tmp 73]),
 .op 36 (.load 75 true 13 (.tmp 15)),
 .op 37 (.load 76 true 13 (.tmp 10)),
 .op 38 (.call 77 15 [.tmp 75, .tmp 76]),
 .op 39 (.bin 78 .eql .bool (.tmp 74) (.tmp 77))] [(36, 35), (37, 35)] [78],
 .op 40 (.pick 79 (.tmp 71) (.tmp 78) (.const (.bool false))),
 .op 41 (.mov 80 (.tmp 79)),
 .guard 80 true [.op 42 (.call 81 12 [])] [] [81],
 .op 43 (.pick 82 (.tmp 80) (.tmp 81) (.const (.bool false))),
 .op 44 (.mov 14 (.tmp 82))] [])
 .ret)))))),
 [.tmp 14]⟩
theorem ok4 : funcOk Tryz.prog (drawOk Tryz.prog) Tryz.f4 A4 = true := by kernel_rfl
noncomputable def S4 (call : Go.Fw.Call) (a0 a1 a2 a3 a4 a5 a6 : AVal) (h : Heap) : Option J :=
 (AVal.cells? a3).bind fun c1 =>
 (aFill [.nilSlice, .int .i64 0] [(0, 1, a0)]).bind fun c2 =>
 (AVal.cells? (.agg c2)).bind fun c3 =>
 (call 6 [(.ptr h.next 0)] (h.alloc c3)).bind fun r5 =>
 (aCells 13 r5.1).bind fun c6 =>
 bif Nat.ble ((0) + 13) (List.length (α := AVal) [.int .i64 0, .int .i64 0, .int .i64 0, .int .i64 0, .int .i64 0, .int .i64 0, .int .i64 0, .str [], .str [], .bool false, .int .u32 0, .nilSlice, .nilSlice]) then (rdL (splice [.int .i64 0, .int .i64 0, .int .i64 0, .int .i64 0, .int .i64 0, .int .i64 0, .int .i64 0, .str [], .str [], .bool false, .int .u32 0, .nilSlice, .nilSlice] (0) c6) 0 13).bind fun c7 =>
 (fromCells true c7).bind fun v8 =>
 (call 9 [v8] r5.2).bind fun r9 =>
 (aLen false r9.1).bind fun v10 =>
 (aBin .sub .plain v10 (.int .i64 1)).bind fun v11 =>
 (call 13 [a5, (.int .i64 0), v11] r9.2).bind fun r12 =>
 (aIaddr 1 r9.1 r12.1).bind fun v13 =>
 (aLoad r12.2 1 v13).bind fun c14 =>
 (fromCells false c14).bind fun v15 =>
 (aBin .xor .plain v15 a6).bind fun v16 =>
 (aIaddr 1 r9.1 r12.1).bind fun v17 =>
 (aCells 1 v16).bind fun c18 =>
 (aStore r12.2 v17 c18).bind fun h19 =>
 (aLen false a4).bind fun v20 =>
 (aBin .gtr .plain v20 (.int .i64 300)).bind fun v21 =>
 (condV v21
 ((aSliceSl 1 a4 none (some (.int .i64 300)) none).bind fun v22 =>
 some (0, [a1, a2, v22, a5, r9.1, (.agg c1), (.agg (splice [.int .i64 0, .int .i64 0, .int .i64 0, .int .i64 0, .int .i64 0, .int .i64 0, .int .i64 0, .str [], .str [], .bool false, .int .u32 0, .nilSlice, .nilSlice] (0) c6))], h19))
 (some (0, [a1, a2, a4, a5, r9.1, (.agg c1), (.agg (splice [.int .i64 0, .int .i64 0, .int .i64 0, .int .i64 0, .int .i64 0, .int .i64 0, .int .i64 0, .str [], .str [], .bool false, .int .u32 0, .nilSlice, .nilSlice] (0) c6))], h19))).bind fun x23 =>
 bif Nat.beq x23.1 0 then (rdL (AVal.aggCells (x23.2.1.getD 6 .undef)) 0 13).bind fun c24 =>
 (fromCells true c24).bind fun v25 =>
 (call 7 [v25] x23.2.2).bind fun r26 =>
 (guardV r26.1 true
 ((rdL (AVal.aggCells (x23.2.1.getD 6 .undef)) 0 13).bind fun c27 =>
 (fromCells true c27).bind fun v28 =>
 (call 8 [v28, (x23.2.1.getD 0 .undef), (x23.2.1.getD 1 .undef)] r26.2).bind fun r29 =>
 (call 7 [r29.1] r29.2).bind fun r30 =>
 some (0, [r30.1], r30.2))
 (some (0, [skipV], r26.2))).bind fun g31 =>
 (aPick r26.1 (g31.2.1.getD 0 .undef) (.bool false)).bind fun v32 =>
 (guardV v32 true
 ((rdL (AVal.aggCells (x23.2.1.getD 6 .undef)) 0 13).bind fun c33 =>
 (fromCells true c33).bind fun v34 =>
 (call 8 [v34, (x23.2.1.getD 0 .undef), (x23.2.1.getD 1 .undef)] g31.2.2).bind fun r35 =>
 (aBin .and .plain (x23.2.1.getD 1 .undef) (.int .i64 7)).bind fun v36 =>
 (call 8 [r35.1, (x23.2.1.getD 3 .undef), v36] r35.2).bind fun r37 =>
 (call 7 [r37.1] r37.2).bind fun r38 =>
 some (0, [r38.1], r38.2))
 (some (0, [skipV], g31.2.2))).bind fun g39 =>
 (aPick v32 (g39.2.1.getD 0 .undef) (.bool false)).bind fun v40 =>
 (guardV v40 true
 ((rdL (AVal.aggCells (x23.2.1.getD 5 .undef)) 0 13).bind fun c41 =>
 (fromCells true c41).bind fun v42 =>
 (call 7 [v42] g39.2.2).bind fun r43 =>
 some (0, [r43.1], r43.2))
 (some (0, [skipV], g39.2.2))).bind fun g44 =>
 (aPick v40 (g44.2.1.getD 0 .undef) (.bool false)).bind fun v45 =>
 (guardV v45 true
 ((call 10 [(x23.2.1.getD 4 .undef)] g44.2.2).bind fun r46 =>
 some (0, [r46.1], r46.2))
 (some (0, [skipV], g44.2.2))).bind fun g47 =>
 (aPick v45 (g47.2.1.getD 0 .undef) (.bool false)).bind fun v48 =>
 (guardV v48 true
 ((call 10 [(x23.2.1.getD 2 .undef)] g47.2.2).bind fun r49 =>
 some (0, [r49.1], r49.2))
 (some (0, [skipV], g47.2.2))).bind fun g50 =>
 (aPick v48 (g50.2.1.getD 0 .undef) (.bool false)).bind fun v51 =>
 (guardV v51 true
 ((rdL (AVal.aggCells (x23.2.1.getD 6 .undef)) 0 13).bind fun c52 =>
 (fromCells true c52).bind fun v53 =>
 (rdL (AVal.aggCells (x23.2.1.getD 5 .undef)) 0 13).bind fun c54 =>
 (fromCells true c54).bind fun v55 =>
 (call 14 [v53, v55] g50.2.2).bind fun r56 =>
 (rdL (AVal.aggCells (x23.2.1.getD 6 .undef)) 0 13).bind fun c57 =>
 (fromCells true c57).bind fun v58 =>
 (rdL (AVal.aggCells (x23.2.1.getD 5 .undef)) 0 13).bind fun c59 =>
 (fromCells true c59).bind fun v60 =>
 (call 15 [v58, v60] r56.2).bind fun r61 =>
 (aBin .eql .bool r56.1 r61.1).bind fun v62 =>
 bif checkPairs [(37, some (.lrd 10 (0) 13)), (36, some (.lrd 15 (0) 13)), (35, some (.ef [(10, (AVal.aggCells (x23.2.1.getD 5 .undef))), (15, (AVal.aggCells (x23.2.1.getD 6 .undef)))] g50.2.2 [(10, (AVal.aggCells (x23.2.1.getD 5 .undef))), (15, (AVal.aggCells (x23.2.1.getD 6 .undef)))] r56.2))] [(36, 35), (37, 35)] then some (0, [v62], r61.2) else none)
 (some (0, [skipV], g50.2.2))).bind fun g63 =>
 (aPick v51 (g63.2.1.getD 0 .undef) (.bool false)).bind fun v64 =>
 (guardV v64 true
 ((call 12 [] g63.2.2).bind fun r65 =>
 some (0, [r65.1], r65.2))
 (some (0, [skipV], g63.2.2))).bind fun g66 =>
 (aPick v64 (g66.2.1.getD 0 .undef) (.bool false)).bind fun v67 =>
 some (0, [v67], g66.2.2) else
 none else none
theorem run4 (call : Go.Fw.Call) (a0 a1 a2 a3 a4 a5 a6 : AVal) (h : Heap) : runFn call (.code A4) [a0, a1, a2, a3, a4, a5, a6] h = (S4 call a0 a1 a2 a3 a4 a5 a6 h).bind ansOf := by kernel_rfl
noncomputable def A5 : AFunc := ⟨1, (.seq (.region [.op 0 (.mov 2 (.const (.nilSlice)))] [])
 (.seq (.region [.op 0 (.mov 3 (.const (.nilSlice)))] [])
 (.seq (.seq (.region [.op 0 (.mov 4 (.const (.int .i64 0)))] [])
 (.block 0 (.loop ⟨[0, 3, 4], []⟩ [((.exit 0), ⟨[3], []⟩)]
 (.seq (.seq (.region [.op 0 (.mov 5 (.tmp 4)),
 .op 1 (.bin 6 .lss .plain (.tmp 5) (.const (.int .i64 80)))] [])
 (.cond (.tmp 6)
 .skip
 (.exit 0)))
 (.seq (.block 1 (.region [.op 0 (.mov 9 (.tmp 3)),
 .op 1 (.mov 10 (.tmp 4)),
 .op 2 (.mov 11 (.tmp 4)),
 .op 3 (.bin 12 .mul .plain (.tmp 10) (.tmp 11)),
 .op 4 (.bin 13 .mul .plain (.tmp 12) (.const (.int .i64 7))),
 .op 5 (.mov 14 (.tmp 0)),
 .op 6 (.bin 15 .mul .plain (.tmp 14) (.const (.int .i64 23))),
 .op 7 (.bin 16 .add .plain (.tmp 13) (.tmp 15)),
 .op 8 (.mov 17 (.tmp 4)),
 .op 9 (.mov 18 (.tmp 0)),
 .op 10 (.bin 19 .mul .plain (.tmp 17) (.tmp 18)),
 .op 11 (.bin 20 .add .plain (.tmp 16) (.tmp 19)),
 .op 12 (.bin 21 .rem .plain (.tmp 20) (.const (.int .i64 211))),
 .op 13 (.buildSl 22 [.int .i64 0] 1 1 [(0, .tmp 21)]),
 .op 14 (.append 23 1 8 [.int .i64 0] false (.tmp 9) (.tmp 22)),
 .op 15 (.mov 3 (.tmp 23))] []))
 (.region [.op 0 (.mov 7 (.tmp 4)),
 .op 1 (.bin 8 .add .plain (.tmp 7) (.const (.int .i64 1))),
 .op 2 (.mov 4 (.tmp 8))] []))))))
 (.seq (.region [.op 0 (.mov 24 (.tmp 3)),
 .op 1 (.mov 2 (.tmp 24))] [])
 .ret)))),
 [.tmp 2]⟩
theorem ok5 : funcOk Tryz.prog (drawOk Tryz.prog) Tryz.f5 A5 = true := by kernel_rfl
noncomputable def L5_0 (call : Go.Fw.Call) (xs : List AVal) (h : Heap) : Option J :=
 (aBin .lss .plain (xs.getD 2 .undef) (.int .i64 80)).bind fun v1 =>
 condV v1
 ((aBin .mul .plain (xs.getD 2 .undef) (xs.getD 2 .undef)).bind fun v2 =>
 (aBin .mul .plain v2 (.int .i64 7)).bind fun v3 =>
 (aBin .mul .plain (xs.getD 0 .undef) (.int .i64 23)).bind fun v4 =>
 (aBin .add .plain v3 v4).bind fun v5 =>
 (aBin .mul .plain (xs.getD 2 .undef) (xs.getD 0 .undef)).bind fun v6 =>
 (aBin .add .plain v5 v6).bind fun v7 =>
 (aBin .rem .plain v7 (.int .i64 211)).bind fun v8 =>
 (aFill (reps [.int .i64 0] 1) [(0, 1, v8)]).bind fun c9 =>
 (aAppend 1 8 [.int .i64 0] false (xs.getD 1 .undef) (.slice h.next 0 1 1 1 true) (h.alloc c9)).bind fun r10 =>
 (aBin .add .plain (xs.getD 2 .undef) (.int .i64 1)).bind fun v11 =>
 some (0, [(xs.getD 0 .undef), r10.1, v11], r10.2))
 (some (1, [(xs.getD 1 .undef)], h))
noncomputable def S5 (call : Go.Fw.Call) (a0 : AVal) (h : Heap) : Option J :=
 (loop (L5_0 call) [a0, (.nilSlice), (.int .i64 0)] h).bind fun x12 =>
 bif Nat.beq x12.1 1 then some (0, [(x12.2.1.getD 0 .undef)], x12.2.2) else
 none
theorem run5 (call : Go.Fw.Call) (a0 : AVal) (h : Heap) : runFn call (.code A5) [a0] h = (S5 call a0 h).bind ansOf := by kernel_rfl
noncomputable def A6 : AFunc := ⟨1, (.seq (.region [.op 0 (.alloc 2 true mz)] [])
 (.seq (.region [.op 0 (.mov 5 (.tmp 0)),
 .op 1 (.call 6 16 [.tmp 5, .const (.int .i64 5)]),
 .op 2 (.bin 7 .add .plain (.const (.int .i64 1)) (.tmp 6)),
 .op 3 (.build 8 mz [(0, 1, .tmp 7)]),
 .op 4 (.alloc 3 true mz),
 .op 5 (.store true 13 (.tmp 3) (.tmp 8))] [])
 (.seq (.seq (.region [.op 0 (.faddr 9 0 (.tmp 3)),
 .op 1 (.load 10 false 1 (.tmp 9))] [])
 (.block 0 (.seq (.seq (.region [.op 0 (.bin 15 .eql .plain (.tmp 10) (.const (.int .i64 1))),
 .op 1 (.mov 14 (.tmp 15))] [])
 (.join [(.normal, ⟨[0, 10, 14], [2, 3]⟩)] (.cond (.tmp 14)
 .skip
 (.region [.op 0 (.bin 16 .eql .plain (.tmp 10) (.const (.int .i64 2))),
 .op 1 (.mov 14 (.tmp 16))] []))))
 (.join [(.normal, ⟨[], [2, 3]⟩)] (.cond (.tmp 14)
 (.seq (.region [.op 0 (.mov 17 (.tmp 0)),
 .op 1 (.call 18 16 [.tmp 17, .const (.int .i64 9)]),
 .op 2 (.mov 19 (.tmp 0)),
 .op 3 (.call 20 16 [.tmp 19, .const (.int .i64 5)]),
 .op 4 (.bin 21 .add .plain (.const (.int .i64 1)) (.tmp 20)),
 .op 5 (.faddr 22 4 (.tmp 3)),
 .op 6 (.store false 1 (.tmp 22) (.tmp 18)),
 .op 7 (.faddr 23 1 (.tmp 3)),
 .op 8 (.store false 1 (.tmp 23) (.tmp 21))] [])
 (.seq (.seq (.region [.op 0 (.faddr 24 1 (.tmp 3)),
 .op 1 (.load 25 false 1 (.tmp 24)),
 .op 2 (.bin 26 .neq .plain (.tmp 25) (.const (.int .i64 5)))] [])
 (.join [(.normal, ⟨[0], [2, 3]⟩)] (.cond (.tmp 26)
 (.region [.op 0 (.mov 27 (.tmp 0)),
 .op 1 (.call 28 17 [.tmp 27]),
 .op 2 (.faddr 29 7 (.tmp 3)),
 .op 3 (.store true 2 (.tmp 29) (.tmp 28))] [])
 .skip)))
 (.seq (.region [.op 0 (.mov 30 (.tmp 0)),
 .op 1 (.call 31 16 [.tmp 30, .const (.int .i64 30)]),
 .op 2 (.bin 32 .sub .plain (.tmp 31) (.const (.int .i64 1))),
 .op 3 (.faddr 33 6 (.tmp 3)),
 .op 4 (.store false 1 (.tmp 33) (.tmp 32))] [])
 (.seq (.region [.op 0 (.faddr 34 0 (.tmp 3)),
 .op 1 (.load 35 false 1 (.tmp 34)),
 .op 2 (.bin 36 .eql .plain (.tmp 35) (.const (.int .i64 1)))] [])
 (.join [(.normal, ⟨[], [2, 3]⟩)] (.cond (.tmp 36)
 (.region [.op 0 (.mov 37 (.tmp 0)),
 .op 1 (.call 38 16 [.tmp 37, .const (.int .i64 70)]),
 .op 2 (.mov 39 (.tmp 0)),
 .op 3 (.call 40 16 [.tmp 39, .const (.int .i64 5)]),
 .op 4 (.faddr 41 5 (.tmp 3)),
 .op 5 (.store false 1 (.tmp 41) (.tmp 38)),
 .op 6 (.faddr 42 2 (.tmp 3)),
 .op 7 (.store false 1 (.tmp 42) (.tmp 40))] [])
 (.regionF 1 [.op 0 (.fl 43 0 (some (1, 5)) [.int .i64 0] [(0, .const (.int .i64 0)), (1, .const (.int .i64 1)), (2, .const (.int .i64 22)), (3, .const (.int .i64 24)), (4, .const (.int .i64 255))]),
 .op 1 (.mov 44 (.tmp 0)),
 .op 2 (.call 45 16 [.tmp 44, .const (.int .i64 5)]),
 .op 3 (.iaddr 46 none 1 (.tmp 43) (.tmp 45)),
 .op 4 (.load 47 false 1 (.tmp 46)),
 .op 5 (.mov 48 (.tmp 0)),
 .op 6 (.call 49 16 [.tmp 48, .const (.int .i64 2)]),
 .op 7 (.bin 50 .eql .plain (.tmp 49) (.const (.int .i64 0))),
 .op 8 (.mov 51 (.tmp 0)),
 .op 9 (.call 52 16 [.tmp 51, .const (.int .i64 1073741824)]),
 .op 10 (.conv 53 (.toInt .u32) (.tmp 52)),
 .op 11 (.mov 54 (.tmp 0)),
 .op 12 (.call 55 18 [.tmp 54, .const (.int .i64 5)]),
 .op 13 (.faddr 56 3 (.tmp 3)),
 .op 14 (.store false 1 (.tmp 56) (.tmp 47)),
 .op 15 (.faddr 57 9 (.tmp 3)),
 .op 16 (.store false 1 (.tmp 57) (.tmp 50)),
 .op 17 (.faddr 58 10 (.tmp 3)),
 .op 18 (.store false 1 (.tmp 58) (.tmp 53)),
 .op 19 (.faddr 59 11 (.tmp 3)),
 .op 20 (.store false 1 (.tmp 59) (.tmp 55))] [(4, 6), (4, 9), (4, 12)])))))))
 (.seq (.region [.op 0 (.bin 61 .eql .plain (.tmp 10) (.const (.int .i64 5))),
 .op 1 (.mov 60 (.tmp 61))] [])
 (.join [(.normal, ⟨[], [2, 3]⟩)] (.cond (.tmp 60)
 (.seq (.region [.op 0 (.mov 62 (.tmp 0)),
 .op 1 (.call 63 16 [.tmp 62, .const (.int .i64 6)]),
 .op 2 (.mov 4 (.tmp 63))] [])
 (.block 1 (.loop ⟨[0, 4], [2, 3]⟩ [((.exit 1), ⟨[], [2, 3]⟩)]
 (.seq (.seq (.region [.op 0 (.mov 64 (.tmp 4)),
 .op 1 (.bin 65 .gtr .plain (.tmp 64) (.const (.int .i64 0)))] [])
 (.cond (.tmp 65)
 .skip
 (.exit 1)))
 (.seq (.block 2 (.region [.op 0 (.faddr 68 12 (.tmp 3)),
 .op 1 (.load 69 false 1 (.tmp 68)),
 .op 2 (.mov 70 (.tmp 0)),
 .op 3 (.call 71 17 [.tmp 70]),
 .op 4 (.buildSl 72 [.str [], .str []] 2 1 [(0, .tmp 71)]),
 .op 5 (.append 73 2 32 [.str [], .str []] false (.tmp 69) (.tmp 72)),
 .op 6 (.faddr 74 12 (.tmp 3)),
 .op 7 (.store false 1 (.tmp 74) (.tmp 73))] [(1, 3), (1, 4)]))
 (.region [.op 0 (.mov 66 (.tmp 4)),
 .op 1 (.bin 67 .sub .plain (.tmp 66) (.const (.int .i64 1))),
 .op 2 (.mov 4 (.tmp 67))] []))))))
 (.region [.op 0 (.mov 11 (.tmp 0)),
 .op 1 (.call 12 18 [.tmp 11, .const (.int .i64 6)]),
 .op 2 (.faddr 13 11 (.tmp 3)),
 .op 3 (.store false 1 (.tmp 13) (.tmp 12))] [])))))))))
 (.seq (.region [.op 0 (.load 75 true 13 (.tmp 3)),
 .op 1 (.store true 13 (.tmp 2) (.tmp 75))] [])
 .ret)))),
 [.cell 2 true 13]⟩
theorem ok6 : funcOk Tryz.prog (drawOk Tryz.prog) Tryz.f6 A6 = true := by kernel_rfl
noncomputable def L6_0 (call : Go.Fw.Call) (xs : List AVal) (h : Heap) : Option J :=
 (aBin .gtr .plain (xs.getD 1 .undef) (.int .i64 0)).bind fun v48 =>
 condV v48
 ((rdL (AVal.aggCells (xs.getD 3 .undef)) 12 1).bind fun c49 =>
 (fromCells false c49).bind fun v50 =>
 (call 17 [(xs.getD 0 .undef)] h).bind fun r51 =>
 (aFill (reps [.str [], .str []] 1) [(0, 2, r51.1)]).bind fun c52 =>
 (aAppend 2 32 [.str [], .str []] false v50 (.slice r51.2.next 0 1 1 2 true) (r51.2.alloc c52)).bind fun r53 =>
 (aCells 1 r53.1).bind fun c54 =>
 bif Nat.ble ((12) + 1) (List.length (α := AVal) (AVal.aggCells (xs.getD 3 .undef))) then bif checkPairs [(4, some (.al r51.2.next)), (3, some (.ef [(2, (AVal.aggCells (xs.getD 2 .undef))), (3, (AVal.aggCells (xs.getD 3 .undef)))] h [(2, (AVal.aggCells (xs.getD 2 .undef))), (3, (AVal.aggCells (xs.getD 3 .undef)))] r51.2)), (1, some (.lrd 3 (12) 1))] [(1, 3), (1, 4)] then (aBin .sub .plain (xs.getD 1 .undef) (.int .i64 1)).bind fun v55 =>
 some (0, [(xs.getD 0 .undef), v55, (.agg (AVal.aggCells (xs.getD 2 .undef))), (.agg (splice (AVal.aggCells (xs.getD 3 .undef)) (12) c54))], r53.2) else none else none)
 (some (1, [(.agg (AVal.aggCells (xs.getD 2 .undef))), (.agg (AVal.aggCells (xs.getD 3 .undef)))], h))
noncomputable def S6 (call : Go.Fw.Call) (a0 : AVal) (h : Heap) : Option J :=
 (call 16 [a0, (.int .i64 5)] h).bind fun r1 =>
 (aBin .add .plain (.int .i64 1) r1.1).bind fun v2 =>
 (aFill [.int .i64 0, .int .i64 0, .int .i64 0, .int .i64 0, .int .i64 0, .int .i64 0, .int .i64 0, .str [], .str [], .bool false, .int .u32 0, .nilSlice, .nilSlice] [(0, 1, v2)]).bind fun c3 =>
 (aCells 13 (.agg c3)).bind fun c4 =>
 bif Nat.ble ((0) + 13) (List.length (α := AVal) [.int .i64 0, .int .i64 0, .int .i64 0, .int .i64 0, .int .i64 0, .int .i64 0, .int .i64 0, .str [], .str [], .bool false, .int .u32 0, .nilSlice, .nilSlice]) then (rdL (splice [.int .i64 0, .int .i64 0, .int .i64 0, .int .i64 0, .int .i64 0, .int .i64 0, .int .i64 0, .str [], .str [], .bool false, .int .u32 0, .nilSlice, .nilSlice] (0) c4) 0 1).bind fun c5 =>
 (fromCells false c5).bind fun v6 =>
 (aBin .eql .plain v6 (.int .i64 1)).bind fun v7 =>
 (condV v7
 (some (0, [a0, v6, v7, (.agg [.int .i64 0, .int .i64 0, .int .i64 0, .int .i64 0, .int .i64 0, .int .i64 0, .int .i64 0, .str [], .str [], .bool false, .int .u32 0, .nilSlice, .nilSlice]), (.agg (splice [.int .i64 0, .int .i64 0, .int .i64 0, .int .i64 0, .int .i64 0, .int .i64 0, .int .i64 0, .str [], .str [], .bool false, .int .u32 0, .nilSlice, .nilSlice] (0) c4))], r1.2))
 ((aBin .eql .plain v6 (.int .i64 2)).bind fun v8 =>
 some (0, [a0, v6, v8, (.agg [.int .i64 0, .int .i64 0, .int .i64 0, .int .i64 0, .int .i64 0, .int .i64 0, .int .i64 0, .str [], .str [], .bool false, .int .u32 0, .nilSlice, .nilSlice]), (.agg (splice [.int .i64 0, .int .i64 0, .int .i64 0, .int .i64 0, .int .i64 0, .int .i64 0, .int .i64 0, .str [], .str [], .bool false, .int .u32 0, .nilSlice, .nilSlice] (0) c4))], r1.2))).bind fun x9 =>
 bif Nat.beq x9.1 0 then (condV (x9.2.1.getD 2 .undef)
 ((call 16 [(x9.2.1.getD 0 .undef), (.int .i64 9)] x9.2.2).bind fun r10 =>
 (call 16 [(x9.2.1.getD 0 .undef), (.int .i64 5)] r10.2).bind fun r11 =>
 (aBin .add .plain (.int .i64 1) r11.1).bind fun v12 =>
 (aCells 1 r10.1).bind fun c13 =>
 bif Nat.ble ((4) + 1) (List.length (α := AVal) (AVal.aggCells (x9.2.1.getD 4 .undef))) then (aCells 1 v12).bind fun c14 =>
 bif Nat.ble ((1) + 1) (List.length (α := AVal) (splice (AVal.aggCells (x9.2.1.getD 4 .undef)) (4) c13)) then (rdL (splice (splice (AVal.aggCells (x9.2.1.getD 4 .undef)) (4) c13) (1) c14) 1 1).bind fun c15 =>
 (fromCells false c15).bind fun v16 =>
 (aBin .neq .plain v16 (.int .i64 5)).bind fun v17 =>
 (condV v17
 ((call 17 [(x9.2.1.getD 0 .undef)] r11.2).bind fun r18 =>
 (aCells 2 r18.1).bind fun c19 =>
 bif Nat.ble ((7) + 2) (List.length (α := AVal) (splice (splice (AVal.aggCells (x9.2.1.getD 4 .undef)) (4) c13) (1) c14)) then some (0, [(x9.2.1.getD 0 .undef), (.agg (AVal.aggCells (x9.2.1.getD 3 .undef))), (.agg (splice (splice (splice (AVal.aggCells (x9.2.1.getD 4 .undef)) (4) c13) (1) c14) (7) c19))], r18.2) else none)
 (some (0, [(x9.2.1.getD 0 .undef), (.agg (AVal.aggCells (x9.2.1.getD 3 .undef))), (.agg (splice (splice (AVal.aggCells (x9.2.1.getD 4 .undef)) (4) c13) (1) c14))], r11.2))).bind fun x20 =>
 bif Nat.beq x20.1 0 then (call 16 [(x20.2.1.getD 0 .undef), (.int .i64 30)] x20.2.2).bind fun r21 =>
 (aBin .sub .plain r21.1 (.int .i64 1)).bind fun v22 =>
 (aCells 1 v22).bind fun c23 =>
 bif Nat.ble ((6) + 1) (List.length (α := AVal) (AVal.aggCells (x20.2.1.getD 2 .undef))) then (rdL (splice (AVal.aggCells (x20.2.1.getD 2 .undef)) (6) c23) 0 1).bind fun c24 =>
 (fromCells false c24).bind fun v25 =>
 (aBin .eql .plain v25 (.int .i64 1)).bind fun v26 =>
 (condV v26
 ((call 16 [(x20.2.1.getD 0 .undef), (.int .i64 70)] r21.2).bind fun r27 =>
 (call 16 [(x20.2.1.getD 0 .undef), (.int .i64 5)] r27.2).bind fun r28 =>
 (aCells 1 r27.1).bind fun c29 =>
 bif Nat.ble ((5) + 1) (List.length (α := AVal) (splice (AVal.aggCells (x20.2.1.getD 2 .undef)) (6) c23)) then (aCells 1 r28.1).bind fun c30 =>
 bif Nat.ble ((2) + 1) (List.length (α := AVal) (splice (splice (AVal.aggCells (x20.2.1.getD 2 .undef)) (6) c23) (5) c29)) then some (0, [(.agg (AVal.aggCells (x20.2.1.getD 1 .undef))), (.agg (splice (splice (splice (AVal.aggCells (x20.2.1.getD 2 .undef)) (6) c23) (5) c29) (2) c30))], r28.2) else none else none)
 ((aFill (reps [.int .i64 0] 5) [(0, 1, (.int .i64 0)), (1, 1, (.int .i64 1)), (2, 1, (.int .i64 22)), (3, 1, (.int .i64 24)), (4, 1, (.int .i64 255))]).bind fun c31 =>
 (call 16 [(x20.2.1.getD 0 .undef), (.int .i64 5)] ((r21.2.res 1).setBlk (r21.2.next + 0) (some ⟨c31, true⟩))).bind fun r32 =>
 (aIaddr 1 (.slice (r21.2.next + 0) 0 5 5 1 true) r32.1).bind fun v33 =>
 (aLoad r32.2 1 v33).bind fun c34 =>
 (fromCells false c34).bind fun v35 =>
 (call 16 [(x20.2.1.getD 0 .undef), (.int .i64 2)] r32.2).bind fun r36 =>
 (aBin .eql .plain r36.1 (.int .i64 0)).bind fun v37 =>
 (call 16 [(x20.2.1.getD 0 .undef), (.int .i64 1073741824)] r36.2).bind fun r38 =>
 (aConv (.toInt .u32) r38.1 r38.2).bind fun r39 =>
 (call 18 [(x20.2.1.getD 0 .undef), (.int .i64 5)] r39.2).bind fun r40 =>
 (aCells 1 v35).bind fun c41 =>
 bif Nat.ble ((3) + 1) (List.length (α := AVal) (splice (AVal.aggCells (x20.2.1.getD 2 .undef)) (6) c23)) then (aCells 1 v37).bind fun c42 =>
 bif Nat.ble ((9) + 1) (List.length (α := AVal) (splice (splice (AVal.aggCells (x20.2.1.getD 2 .undef)) (6) c23) (3) c41)) then (aCells 1 r39.1).bind fun c43 =>
 bif Nat.ble ((10) + 1) (List.length (α := AVal) (splice (splice (splice (AVal.aggCells (x20.2.1.getD 2 .undef)) (6) c23) (3) c41) (9) c42)) then (aCells 1 r40.1).bind fun c44 =>
 bif Nat.ble ((11) + 1) (List.length (α := AVal) (splice (splice (splice (splice (AVal.aggCells (x20.2.1.getD 2 .undef)) (6) c23) (3) c41) (9) c42) (10) c43)) then bif checkPairs [(12, some (.ef [(2, (AVal.aggCells (x20.2.1.getD 1 .undef))), (3, (splice (AVal.aggCells (x20.2.1.getD 2 .undef)) (6) c23))] r39.2 [(2, (AVal.aggCells (x20.2.1.getD 1 .undef))), (3, (splice (AVal.aggCells (x20.2.1.getD 2 .undef)) (6) c23))] r40.2)), (9, some (.ef [(2, (AVal.aggCells (x20.2.1.getD 1 .undef))), (3, (splice (AVal.aggCells (x20.2.1.getD 2 .undef)) (6) c23))] r36.2 [(2, (AVal.aggCells (x20.2.1.getD 1 .undef))), (3, (splice (AVal.aggCells (x20.2.1.getD 2 .undef)) (6) c23))] r38.2)), (6, some (.ef [(2, (AVal.aggCells (x20.2.1.getD 1 .undef))), (3, (splice (AVal.aggCells (x20.2.1.getD 2 .undef)) (6) c23))] r32.2 [(2, (AVal.aggCells (x20.2.1.getD 1 .undef))), (3, (splice (AVal.aggCells (x20.2.1.getD 2 .undef)) (6) c23))] r36.2)), (4, logRd v33 1)] [(4, 6), (4, 9), (4, 12)] then some (0, [(.agg (AVal.aggCells (x20.2.1.getD 1 .undef))), (.agg (splice (splice (splice (splice (splice (AVal.aggCells (x20.2.1.getD 2 .undef)) (6) c23) (3) c41) (9) c42) (10) c43) (11) c44))], r40.2) else none else none else none else none else none)).bind fun x45 =>
 bif Nat.beq x45.1 0 then some (0, [(.agg (AVal.aggCells (x45.2.1.getD 0 .undef))), (.agg (AVal.aggCells (x45.2.1.getD 1 .undef)))], x45.2.2) else
 none else none else
 none else none else none)
 ((aBin .eql .plain (x9.2.1.getD 1 .undef) (.int .i64 5)).bind fun v46 =>
 (condV v46
 ((call 16 [(x9.2.1.getD 0 .undef), (.int .i64 6)] x9.2.2).bind fun r47 =>
 (loop (L6_0 call) [(x9.2.1.getD 0 .undef), r47.1, (.agg (AVal.aggCells (x9.2.1.getD 3 .undef))), (.agg (AVal.aggCells (x9.2.1.getD 4 .undef)))] r47.2).bind fun x56 =>
 bif Nat.beq x56.1 1 then some (0, [(.agg (AVal.aggCells (x56.2.1.getD 0 .undef))), (.agg (AVal.aggCells (x56.2.1.getD 1 .undef)))], x56.2.2) else
 none)
 ((call 18 [(x9.2.1.getD 0 .undef), (.int .i64 6)] x9.2.2).bind fun r57 =>
 (aCells 1 r57.1).bind fun c58 =>
 bif Nat.ble ((11) + 1) (List.length (α := AVal) (AVal.aggCells (x9.2.1.getD 4 .undef))) then some (0, [(.agg (AVal.aggCells (x9.2.1.getD 3 .undef))), (.agg (splice (AVal.aggCells (x9.2.1.getD 4 .undef)) (11) c58))], r57.2) else none)).bind fun x59 =>
 bif Nat.beq x59.1 0 then some (0, [(.agg (AVal.aggCells (x59.2.1.getD 0 .undef))), (.agg (AVal.aggCells (x59.2.1.getD 1 .undef)))], x59.2.2) else
 none)).bind fun x60 =>
 bif Nat.beq x60.1 0 then (rdL (AVal.aggCells (x60.2.1.getD 1 .undef)) 0 13).bind fun c61 =>
 (fromCells true c61).bind fun v62 =>
 (aCells 13 v62).bind fun c63 =>
 bif Nat.ble ((0) + 13) (List.length (α := AVal) (AVal.aggCells (x60.2.1.getD 0 .undef))) then (((rdL (splice (AVal.aggCells (x60.2.1.getD 0 .undef)) (0) c63) (0) 13).bind fun cs => fromCells true cs).bind fun v => (some []).bind fun vs => some (v :: vs)).bind fun vs => some (0, [oneOr vs], x60.2.2) else none else
 none else
 none else none
theorem run6 (call : Go.Fw.Call) (a0 : AVal) (h : Heap) : runFn call (.code A6) [a0] h = (S6 call a0 h).bind ansOf := by kernel_rfl
noncomputable def A7 : AFunc := ⟨1, (.seq (.region [.op 0 (.box 1 true (.tmp 0)),
 .op 1 (.mov 2 (.const (.bool false)))] [])
 (.seq (.region [.op 0 (.load 8 true 13 (.tmp 1)),
 .op 1 (.call 9 19 [.tmp 8]),
 .op 2 (.mov 7 (.tmp 9)),
 .op 3 (.extract 10 (.tmp 7) 0),
 .op 4 (.extract 11 (.tmp 7) 1),
 .op 5 (.mov 3 (.tmp 10)),
 .op 6 (.mov 4 (.tmp 11))] [])
 (.seq (.region [.op 0 (.load 13 true 13 (.tmp 1)),
 .op 1 (.call 14 20 [.tmp 13]),
 .op 2 (.mov 12 (.tmp 14)),
 .op 3 (.extract 15 (.tmp 12) 0),
 .op 4 (.extract 16 (.tmp 12) 1),
 .op 5 (.mov 5 (.tmp 15)),
 .op 6 (.mov 6 (.tmp 16))] [])
 (.seq (.seq (.region [.op 0 (.load 17 true 13 (.tmp 1)),
 .op 1 (.call 18 22 [.tmp 17]),
 .op 2 (.mov 19 (.tmp 3)),
 .op 3 (.mov 20 (.tmp 4)),
 .op 4 (.call 21 21 [.tmp 18, .const (.str []), .tmp 19, .tmp 20]),
 .op 5 (.un 22 .not (.tmp 21)),
 .op 6 (.mov 23 (.tmp 22)),
 .guard 23 false [.op 7 (.mov 24 (.tmp 6)),
 .op 8 (.mov 25 (.tmp 3)),
 .op 9 (.mov 26 (.tmp 4)),
 .op 10 (.call 27 21 [.tmp 24, .const (.str [119, 114, 105, 116, 101]), .tmp 25, .tmp 26]),
 .op 11 (.un 28 .not (.tmp 27))] [] [28],
 .op 12 (.pick 29 (.tmp 23) (.const (.bool true)) (.tmp 28)),
 .op 13 (.mov 30 (.tmp 29)),
 .guard 30 false [.op 14 (.load 31 true 13 (.tmp 1)),
 .op 15 (.load 32 true 13 (.tmp 1)),
 .op 16 (.call 33 14 [.tmp 31, .tmp 32]),
 .op 17 (.un 34 .not (.tmp 33))] [] [34],
 .op 18 (.pick 35 (.tmp 30) (.const (.bool true)) (.tmp 34))] [])
 (.cond (.tmp 35)
 (.seq (.region [.op 0 (.mov 2 (.const (.bool false)))] [])
 .ret)
 .skip))
 (.seq (.seq (.region [.op 0 (.mov 36 (.tmp 4)),
 .op 1 (.bin 37 .neq .plain (.tmp 36) (.const (.int .i64 0)))] [])
 (.cond (.tmp 37)
 (.seq (.region [.op 0 (.mov 38 (.tmp 5)),
 .op 1 (.len 39 false (.tmp 38)),
 .op 2 (.bin 40 .eql .plain (.tmp 39) (.const (.int .i64 0))),
 .op 3 (.mov 2 (.tmp 40))] [])
 .ret)
 .skip))
 (.seq (.region [.op 0 (.mov 41 (.tmp 5)),
 .op 1 (.conv 42 .bytesStr (.tmp 41)),
 .op 2 (.load 43 true 13 (.tmp 1)),
 .op 3 (.call 44 9 [.tmp 43]),
 .op 4 (.conv 45 .bytesStr (.tmp 44)),
 .op 5 (.bin 46 .eql .plain (.tmp 42) (.tmp 45)),
 .op 6 (.mov 47 (.tmp 46)),
 .guard 47 true [.op 7 (.mov 48 (.tmp 5)),
 .op 8 (.call 49 10 [.tmp 48])] [] [49],
 .op 9 (.pick 50 (.tmp 47) (.tmp 49) (.const (.bool false))),
 .op 10 (.mov 2 (.tmp 50))] [(1, 3)])
 .ret)))))),
 [.tmp 2]⟩
theorem ok7 : funcOk Tryz.prog (drawOk Tryz.prog) Tryz.f7 A7 = true := by kernel_rfl
noncomputable def S7 (call : Go.Fw.Call) (a0 : AVal) (h : Heap) : Option J :=
 (AVal.cells? a0).bind fun c1 =>
 (rdL c1 0 13).bind fun c2 =>
 (fromCells true c2).bind fun v3 =>
 (call 19 [v3] h).bind fun r4 =>
 (aExtract 0 r4.1).bind fun v5 =>
 (aExtract 1 r4.1).bind fun v6 =>
 (rdL c1 0 13).bind fun c7 =>
 (fromCells true c7).bind fun v8 =>
 (call 20 [v8] r4.2).bind fun r9 =>
 (aExtract 0 r9.1).bind fun v10 =>
 (aExtract 1 r9.1).bind fun v11 =>
 (rdL c1 0 13).bind fun c12 =>
 (fromCells true c12).bind fun v13 =>
 (call 22 [v13] r9.2).bind fun r14 =>
 (call 21 [r14.1, (.str []), v5, v6] r14.2).bind fun r15 =>
 (aUn .not r15.1).bind fun v16 =>
 (guardV v16 false
 ((call 21 [v11, (.str [119, 114, 105, 116, 101]), v5, v6] r15.2).bind fun r17 =>
 (aUn .not r17.1).bind fun v18 =>
 some (0, [v18], r17.2))
 (some (0, [skipV], r15.2))).bind fun g19 =>
 (aPick v16 (.bool true) (g19.2.1.getD 0 .undef)).bind fun v20 =>
 (guardV v20 false
 ((rdL c1 0 13).bind fun c21 =>
 (fromCells true c21).bind fun v22 =>
 (rdL c1 0 13).bind fun c23 =>
 (fromCells true c23).bind fun v24 =>
 (call 14 [v22, v24] g19.2.2).bind fun r25 =>
 (aUn .not r25.1).bind fun v26 =>
 some (0, [v26], r25.2))
 (some (0, [skipV], g19.2.2))).bind fun g27 =>
 (aPick v20 (.bool true) (g27.2.1.getD 0 .undef)).bind fun v28 =>
 condV v28
 (some (0, [(.bool false)], g27.2.2))
 ((aBin .neq .plain v6 (.int .i64 0)).bind fun v29 =>
 condV v29
 ((aLen false v10).bind fun v30 =>
 (aBin .eql .plain v30 (.int .i64 0)).bind fun v31 =>
 some (0, [v31], g27.2.2))
 ((aConv .bytesStr v10 g27.2.2).bind fun r32 =>
 (rdL c1 0 13).bind fun c33 =>
 (fromCells true c33).bind fun v34 =>
 (call 9 [v34] r32.2).bind fun r35 =>
 (aConv .bytesStr r35.1 r35.2).bind fun r36 =>
 (aBin .eql .plain r32.1 r36.1).bind fun v37 =>
 (guardV v37 true
 ((call 10 [v10] r36.2).bind fun r38 =>
 some (0, [r38.1], r38.2))
 (some (0, [skipV], r36.2))).bind fun g39 =>
 (aPick v37 (g39.2.1.getD 0 .undef) (.bool false)).bind fun v40 =>
 bif checkPairs [(3, some (.ef [(1, c1)] r32.2 [(1, c1)] r35.2)), (1, logBs v10)] [(1, 3)] then some (0, [v40], g39.2.2) else none))
theorem run7 (call : Go.Fw.Call) (a0 : AVal) (h : Heap) : runFn call (.code A7) [a0] h = (S7 call a0 h).bind ansOf := by kernel_rfl
noncomputable def A8 : AFunc := ⟨3, (.seq (.region [.op 0 (.box 3 true (.tmp 0)),
 .op 1 (.alloc 6 true mz)] [])
 (.seq (.seq (.region [.op 0 (.mov 8 (.tmp 1)),
 .op 1 (.call 9 13 [.tmp 8, .const (.int .i64 0), .const (.int .i64 13)])] [])
 (.block 0 (.seq (.region [.op 0 (.bin 13 .eql .plain (.tmp 9) (.const (.int .i64 0))),
 .op 1 (.mov 12 (.tmp 13))] [])
 (.join [(.normal, ⟨[], [3, 6]⟩)] (.cond (.tmp 12)
 (.region [.op 0 (.mov 14 (.tmp 2)),
 .op 1 (.faddr 15 0 (.tmp 3)),
 .op 2 (.store false 1 (.tmp 15) (.tmp 14))] [])
 (.seq (.region [.op 0 (.bin 17 .eql .plain (.tmp 9) (.const (.int .i64 1))),
 .op 1 (.mov 16 (.tmp 17))] [])
 (.join [(.normal, ⟨[], [3, 6]⟩)] (.cond (.tmp 16)
 (.region [.op 0 (.mov 18 (.tmp 2)),
 .op 1 (.faddr 19 1 (.tmp 3)),
 .op 2 (.store false 1 (.tmp 19) (.tmp 18))] [])
 (.seq (.region [.op 0 (.bin 21 .eql .plain (.tmp 9) (.const (.int .i64 2))),
 .op 1 (.mov 20 (.tmp 21))] [])
 (.join [(.normal, ⟨[], [3, 6]⟩)] (.cond (.tmp 20)
 (.region [.op 0 (.mov 22 (.tmp 2)),
 .op 1 (.faddr 23 2 (.tmp 3)),
 .op 2 (.store false 1 (.tmp 23) (.tmp 22))] [])
 (.seq (.region [.op 0 (.bin 25 .eql .plain (.tmp 9) (.const (.int .i64 3))),
 .op 1 (.mov 24 (.tmp 25))] [])
 (.join [(.normal, ⟨[], [3, 6]⟩)] (.cond (.tmp 24)
 (.region [.op 0 (.mov 26 (.tmp 2)),
 .op 1 (.faddr 27 3 (.tmp 3)),
 .op 2 (.store false 1 (.tmp 27) (.tmp 26))] [])
 (.seq (.region [.op 0 (.bin 29 .eql .plain (.tmp 9) (.const (.int .i64 4))),
 .op 1 (.mov 28 (.tmp 29))] [])
 (.join [(.normal, ⟨[], [3, 6]⟩)] (.cond (.tmp 28)
 (.region [.op 0 (.mov 30 (.tmp 2)),
 .op 1 (.faddr 31 4 (.tmp 3)),
 .op 2 (.store false 1 (.tmp 31) (.tmp 30))] [])
 (.seq (.region [.op 0 (.bin 33 .eql .plain (.tmp 9) (.const (.int .i64 5))),
 .op 1 (.mov 32 (.tmp 33))] [])
 (.join [(.normal, ⟨[], [3, 6]⟩)] (.cond (.tmp 32)
 (.region [.op 0 (.mov 34 (.tmp 2)),
 .op 1 (.faddr 35 5 (.tmp 3)),
 .op 2 (.store false 1 (.tmp 35) (.tmp 34))] [])
 (.seq (.region [.op 0 (.bin 37 .eql .plain (.tmp 9) (.const (.int .i64 6))),
 .op 1 (.mov 36 (.tmp 37))] [])
 (.join [(.normal, ⟨[], [3, 6]⟩)] (.cond (.tmp 36)
 (.region [.op 0 (.mov 38 (.tmp 2)),
 .op 1 (.faddr 39 6 (.tmp 3)),
 .op 2 (.store false 1 (.tmp 39) (.tmp 38))] [])
 (.seq (.region [.op 0 (.bin 41 .eql .plain (.tmp 9) (.const (.int .i64 7))),
 .op 1 (.mov 40 (.tmp 41))] [])
 (.join [(.normal, ⟨[], [3, 6]⟩)] (.cond (.tmp 40)
 (.region [.op 0 (.buildSl 42 [.str []] 1 4 [(0, .const (.str [])), (1, .const (.str [65])), (2, .const (.str [111, 107])), (3, .const (.str [48, 49, 50, 51, 52, 53, 54, 55, 56, 57, 97, 98, 99, 100, 101, 102, 103]))]),
 .op 1 (.mov 43 (.tmp 2)),
 .op 2 (.call 44 13 [.tmp 43, .const (.int .i64 0), .const (.int .i64 3)]),
 .op 3 (.iaddr 45 none 1 (.tmp 42) (.tmp 44)),
 .op 4 (.load 46 false 1 (.tmp 45)),
 .op 5 (.faddr 47 7 (.tmp 3)),
 .op 6 (.faddr 48 0 (.tmp 47)),
 .op 7 (.store false 1 (.tmp 48) (.tmp 46))] [])
 (.seq (.region [.op 0 (.bin 50 .eql .plain (.tmp 9) (.const (.int .i64 8))),
 .op 1 (.mov 49 (.tmp 50))] [])
 (.join [(.normal, ⟨[], [3, 6]⟩)] (.cond (.tmp 49)
 (.region [.op 0 (.faddr 51 9 (.tmp 3)),
 .op 1 (.load 52 false 1 (.tmp 51)),
 .op 2 (.un 53 .not (.tmp 52)),
 .op 3 (.faddr 54 9 (.tmp 3)),
 .op 4 (.store false 1 (.tmp 54) (.tmp 53))] [])
 (.seq (.region [.op 0 (.bin 56 .eql .plain (.tmp 9) (.const (.int .i64 9))),
 .op 1 (.mov 55 (.tmp 56))] [])
 (.join [(.normal, ⟨[], [3, 6]⟩)] (.cond (.tmp 55)
 (.region [.op 0 (.mov 57 (.tmp 2)),
 .op 1 (.conv 58 (.toInt .u32) (.tmp 57)),
 .op 2 (.faddr 59 10 (.tmp 3)),
 .op 3 (.store false 1 (.tmp 59) (.tmp 58))] [])
 (.seq (.region [.op 0 (.bin 61 .eql .plain (.tmp 9) (.const (.int .i64 10))),
 .op 1 (.mov 60 (.tmp 61))] [])
 (.join [(.normal, ⟨[], [3, 6]⟩)] (.cond (.tmp 60)
 (.region [.op 0 (.buildSl 62 cz 9 0 []),
 .op 1 (.faddr 63 11 (.tmp 3)),
 .op 2 (.load 64 false 1 (.tmp 63)),
 .op 3 (.append 65 9 88 cz false (.tmp 62) (.tmp 64)),
 .op 4 (.mov 66 (.tmp 2)),
 .op 5 (.build 67 cz [(2, 1, .tmp 66)]),
 .op 6 (.buildSl 68 cz 9 1 [(0, .tmp 67)]),
 .op 7 (.append 69 9 88 cz false (.tmp 65) (.tmp 68)),
 .op 8 (.faddr 70 11 (.tmp 3)),
 .op 9 (.store false 1 (.tmp 70) (.tmp 69))] [])
 (.seq (.region [.op 0 (.bin 72 .eql .plain (.tmp 9) (.const (.int .i64 11))),
 .op 1 (.mov 71 (.tmp 72))] [])
 (.join [(.normal, ⟨[], [3, 6]⟩)] (.cond (.tmp 71)
 (.region [.op 0 (.buildSl 73 [.str [], .str []] 2 0 []),
 .op 1 (.faddr 74 12 (.tmp 3)),
 .op 2 (.load 75 false 1 (.tmp 74)),
 .op 3 (.append 76 2 32 [.str [], .str []] false (.tmp 73) (.tmp 75)),
 .op 4 (.buildSl 77 [.str []] 1 2 [(0, .const (.str [98])), (1, .const (.str []))]),
 .op 5 (.mov 78 (.tmp 2)),
 .op 6 (.call 79 13 [.tmp 78, .const (.int .i64 0), .const (.int .i64 1)]),
 .op 7 (.iaddr 80 none 1 (.tmp 77) (.tmp 79)),
 .op 8 (.load 81 false 1 (.tmp 80)),
 .op 9 (.build 82 [.str [], .str []] [(0, 1, .const (.str [97])), (1, 1, .tmp 81)]),
 .op 10 (.buildSl 83 [.str [], .str []] 2 1 [(0, .tmp 82)]),
 .op 11 (.append 84 2 32 [.str [], .str []] false (.tmp 76) (.tmp 83)),
 .op 12 (.faddr 85 12 (.tmp 3)),
 .op 13 (.store false 1 (.tmp 85) (.tmp 84))] [])
 (.seq (.region [.op 0 (.bin 87 .eql .plain (.tmp 9) (.const (.int .i64 12))),
 .op 1 (.mov 86 (.tmp 87))] [])
 (.join [(.normal, ⟨[], [3, 6]⟩)] (.cond (.tmp 86)
 (.seq (.region [.op 0 (.faddr 88 11 (.tmp 3)),
 .op 1 (.store false 1 (.tmp 88) (.const (.nilSlice)))] [])
 (.seq (.region [.op 0 (.mov 7 (.const (.int .i64 0)))] [])
 (.block 1 (.loop ⟨[2, 7], [3, 6]⟩ [((.exit 1), ⟨[], [3, 6]⟩)]
 (.seq (.seq (.region [.op 0 (.mov 89 (.tmp 7)),
 .op 1 (.mov 90 (.tmp 2)),
 .op 2 (.call 91 13 [.tmp 90, .const (.int .i64 0), .const (.int .i64 5)]),
 .op 3 (.bin 92 .add .plain (.const (.int .i64 62)) (.tmp 91)),
 .op 4 (.bin 93 .lss .plain (.tmp 89) (.tmp 92))] [])
 (.cond (.tmp 93)
 .skip
 (.exit 1)))
 (.seq (.block 2 (.region [.op 0 (.faddr 96 11 (.tmp 3)),
 .op 1 (.load 97 false 1 (.tmp 96)),
 .op 2 (.build 98 [.str [], .str []] [(0, 1, .const (.str [97])), (1, 1, .const (.str [98]))]),
 .op 3 (.build 99 cz [(0, 2, .tmp 98), (2, 1, .const (.int .i64 1)), (4, 1, .const (.int .i64 1))]),
 .op 4 (.buildSl 100 cz 9 1 [(0, .tmp 99)]),
 .op 5 (.append 101 9 88 cz false (.tmp 97) (.tmp 100)),
 .op 6 (.faddr 102 11 (.tmp 3)),
 .op 7 (.store false 1 (.tmp 102) (.tmp 101))] []))
 (.region [.op 0 (.mov 94 (.tmp 7)),
 .op 1 (.bin 95 .add .plain (.tmp 94) (.const (.int .i64 1))),
 .op 2 (.mov 7 (.tmp 95))] [])))))))
 (.region [.op 0 (.faddr 10 7 (.tmp 3)),
 .op 1 (.faddr 11 1 (.tmp 10)),
 .op 2 (.store false 1 (.tmp 11) (.const (.str [])))] []))))))))))))))))))))))))))))))))))))))))))
 (.seq (.region [.op 0 (.load 103 true 13 (.tmp 3)),
 .op 1 (.store true 13 (.tmp 6) (.tmp 103))] [])
 .ret))),
 [.cell 6 true 13]⟩
theorem ok8 : funcOk Tryz.prog (drawOk Tryz.prog) Tryz.f8 A8 = true := by kernel_rfl
noncomputable def L8_0 (call : Go.Fw.Call) (xs : List AVal) (h : Heap) : Option J :=
 (call 13 [(xs.getD 0 .undef), (.int .i64 0), (.int .i64 5)] h).bind fun r57 =>
 (aBin .add .plain (.int .i64 62) r57.1).bind fun v58 =>
 (aBin .lss .plain (xs.getD 1 .undef) v58).bind fun v59 =>
 condV v59
 ((rdL (AVal.aggCells (xs.getD 2 .undef)) 11 1).bind fun c60 =>
 (fromCells false c60).bind fun v61 =>
 (aFill [.str [], .str []] [(0, 1, (.str [97])), (1, 1, (.str [98]))]).bind fun c62 =>
 (aFill [.str [], .str [], .int .i64 0, .int .i64 0, .int .i64 0, .int .i64 0, .int .i64 0, .int .i64 0, .bool false] [(0, 2, (.agg c62)), (2, 1, (.int .i64 1)), (4, 1, (.int .i64 1))]).bind fun c63 =>
 (aFill (reps [.str [], .str [], .int .i64 0, .int .i64 0, .int .i64 0, .int .i64 0, .int .i64 0, .int .i64 0, .bool false] 1) [(0, 9, (.agg c63))]).bind fun c64 =>
 (aAppend 9 88 [.str [], .str [], .int .i64 0, .int .i64 0, .int .i64 0, .int .i64 0, .int .i64 0, .int .i64 0, .bool false] false v61 (.slice r57.2.next 0 1 1 9 true) (r57.2.alloc c64)).bind fun r65 =>
 (aCells 1 r65.1).bind fun c66 =>
 bif Nat.ble ((11) + 1) (List.length (α := AVal) (AVal.aggCells (xs.getD 2 .undef))) then (aBin .add .plain (xs.getD 1 .undef) (.int .i64 1)).bind fun v67 =>
 some (0, [(xs.getD 0 .undef), v67, (.agg (splice (AVal.aggCells (xs.getD 2 .undef)) (11) c66)), (.agg (AVal.aggCells (xs.getD 3 .undef)))], r65.2) else none)
 (some (1, [(.agg (AVal.aggCells (xs.getD 2 .undef))), (.agg (AVal.aggCells (xs.getD 3 .undef)))], r57.2))
noncomputable def S8 (call : Go.Fw.Call) (a0 a1 a2 : AVal) (h : Heap) : Option J :=
 (AVal.cells? a0).bind fun c1 =>
 (call 13 [a1, (.int .i64 0), (.int .i64 13)] h).bind fun r2 =>
 (aBin .eql .plain r2.1 (.int .i64 0)).bind fun v3 =>
 (condV v3
 ((aCells 1 a2).bind fun c4 =>
 bif Nat.ble ((0) + 1) (List.length (α := AVal) c1) then some (0, [(.agg (splice c1 (0) c4)), (.agg [.int .i64 0, .int .i64 0, .int .i64 0, .int .i64 0, .int .i64 0, .int .i64 0, .int .i64 0, .str [], .str [], .bool false, .int .u32 0, .nilSlice, .nilSlice])], r2.2) else none)
 ((aBin .eql .plain r2.1 (.int .i64 1)).bind fun v5 =>
 (condV v5
 ((aCells 1 a2).bind fun c6 =>
 bif Nat.ble ((1) + 1) (List.length (α := AVal) c1) then some (0, [(.agg (splice c1 (1) c6)), (.agg [.int .i64 0, .int .i64 0, .int .i64 0, .int .i64 0, .int .i64 0, .int .i64 0, .int .i64 0, .str [], .str [], .bool false, .int .u32 0, .nilSlice, .nilSlice])], r2.2) else none)
 ((aBin .eql .plain r2.1 (.int .i64 2)).bind fun v7 =>
 (condV v7
 ((aCells 1 a2).bind fun c8 =>
 bif Nat.ble ((2) + 1) (List.length (α := AVal) c1) then some (0, [(.agg (splice c1 (2) c8)), (.agg [.int .i64 0, .int .i64 0, .int .i64 0, .int .i64 0, .int .i64 0, .int .i64 0, .int .i64 0, .str [], .str [], .bool false, .int .u32 0, .nilSlice, .nilSlice])], r2.2) else none)
 ((aBin .eql .plain r2.1 (.int .i64 3)).bind fun v9 =>
 (condV v9
 ((aCells 1 a2).bind fun c10 =>
 bif Nat.ble ((3) + 1) (List.length (α := AVal) c1) then some (0, [(.agg (splice c1 (3) c10)), (.agg [.int .i64 0, .int .i64 0, .int .i64 0, .int .i64 0, .int .i64 0, .int .i64 0, .int .i64 0, .str [], .str [], .bool false, .int .u32 0, .nilSlice, .nilSlice])], r2.2) else none)
 ((aBin .eql .plain r2.1 (.int .i64 4)).bind fun v11 =>
 (condV v11
 ((aCells 1 a2).bind fun c12 =>
 bif Nat.ble ((4) + 1) (List.length (α := AVal) c1) then some (0, [(.agg (splice c1 (4) c12)), (.agg [.int .i64 0, .int .i64 0, .int .i64 0, .int .i64 0, .int .i64 0, .int .i64 0, .int .i64 0, .str [], .str [], .bool false, .int .u32 0, .nilSlice, .nilSlice])], r2.2) else none)
 ((aBin .eql .plain r2.1 (.int .i64 5)).bind fun v13 =>
 (condV v13
 ((aCells 1 a2).bind fun c14 =>
 bif Nat.ble ((5) + 1) (List.length (α := AVal) c1) then some (0, [(.agg (splice c1 (5) c14)), (.agg [.int .i64 0, .int .i64 0, .int .i64 0, .int .i64 0, .int .i64 0, .int .i64 0, .int .i64 0, .str [], .str [], .bool false, .int .u32 0, .nilSlice, .nilSlice])], r2.2) else none)
 ((aBin .eql .plain r2.1 (.int .i64 6)).bind fun v15 =>
 (condV v15
 ((aCells 1 a2).bind fun c16 =>
 bif Nat.ble ((6) + 1) (List.length (α := AVal) c1) then some (0, [(.agg (splice c1 (6) c16)), (.agg [.int .i64 0, .int .i64 0, .int .i64 0, .int .i64 0, .int .i64 0, .int .i64 0, .int .i64 0, .str [], .str [], .bool false, .int .u32 0, .nilSlice, .nilSlice])], r2.2) else none)
 ((aBin .eql .plain r2.1 (.int .i64 7)).bind fun v17 =>
 (condV v17
 ((aFill (reps [.str []] 4) [(0, 1, (.str [])), (1, 1, (.str [65])), (2, 1, (.str [111, 107])), (3, 1, (.str [48, 49, 50, 51, 52, 53, 54, 55, 56, 57, 97, 98, 99, 100, 101, 102, 103]))]).bind fun c18 =>
 (call 13 [a2, (.int .i64 0), (.int .i64 3)] (r2.2.alloc c18)).bind fun r19 =>
 (aIaddr 1 (.slice r2.2.next 0 4 4 1 true) r19.1).bind fun v20 =>
 (aLoad r19.2 1 v20).bind fun c21 =>
 (fromCells false c21).bind fun v22 =>
 (aCells 1 v22).bind fun c23 =>
 bif Nat.ble ((7) + 1) (List.length (α := AVal) c1) then some (0, [(.agg (splice c1 (7) c23)), (.agg [.int .i64 0, .int .i64 0, .int .i64 0, .int .i64 0, .int .i64 0, .int .i64 0, .int .i64 0, .str [], .str [], .bool false, .int .u32 0, .nilSlice, .nilSlice])], r19.2) else none)
 ((aBin .eql .plain r2.1 (.int .i64 8)).bind fun v24 =>
 (condV v24
 ((rdL c1 9 1).bind fun c25 =>
 (fromCells false c25).bind fun v26 =>
 (aUn .not v26).bind fun v27 =>
 (aCells 1 v27).bind fun c28 =>
 bif Nat.ble ((9) + 1) (List.length (α := AVal) c1) then some (0, [(.agg (splice c1 (9) c28)), (.agg [.int .i64 0, .int .i64 0, .int .i64 0, .int .i64 0, .int .i64 0, .int .i64 0, .int .i64 0, .str [], .str [], .bool false, .int .u32 0, .nilSlice, .nilSlice])], r2.2) else none)
 ((aBin .eql .plain r2.1 (.int .i64 9)).bind fun v29 =>
 (condV v29
 ((aConv (.toInt .u32) a2 r2.2).bind fun r30 =>
 (aCells 1 r30.1).bind fun c31 =>
 bif Nat.ble ((10) + 1) (List.length (α := AVal) c1) then some (0, [(.agg (splice c1 (10) c31)), (.agg [.int .i64 0, .int .i64 0, .int .i64 0, .int .i64 0, .int .i64 0, .int .i64 0, .int .i64 0, .str [], .str [], .bool false, .int .u32 0, .nilSlice, .nilSlice])], r30.2) else none)
 ((aBin .eql .plain r2.1 (.int .i64 10)).bind fun v32 =>
 (condV v32
 ((aFill (reps [.str [], .str [], .int .i64 0, .int .i64 0, .int .i64 0, .int .i64 0, .int .i64 0, .int .i64 0, .bool false] 0) []).bind fun c33 =>
 (rdL c1 11 1).bind fun c34 =>
 (fromCells false c34).bind fun v35 =>
 (aAppend 9 88 [.str [], .str [], .int .i64 0, .int .i64 0, .int .i64 0, .int .i64 0, .int .i64 0, .int .i64 0, .bool false] false (.slice r2.2.next 0 0 0 9 true) v35 (r2.2.alloc c33)).bind fun r36 =>
 (aFill [.str [], .str [], .int .i64 0, .int .i64 0, .int .i64 0, .int .i64 0, .int .i64 0, .int .i64 0, .bool false] [(2, 1, a2)]).bind fun c37 =>
 (aFill (reps [.str [], .str [], .int .i64 0, .int .i64 0, .int .i64 0, .int .i64 0, .int .i64 0, .int .i64 0, .bool false] 1) [(0, 9, (.agg c37))]).bind fun c38 =>
 (aAppend 9 88 [.str [], .str [], .int .i64 0, .int .i64 0, .int .i64 0, .int .i64 0, .int .i64 0, .int .i64 0, .bool false] false r36.1 (.slice r36.2.next 0 1 1 9 true) (r36.2.alloc c38)).bind fun r39 =>
 (aCells 1 r39.1).bind fun c40 =>
 bif Nat.ble ((11) + 1) (List.length (α := AVal) c1) then some (0, [(.agg (splice c1 (11) c40)), (.agg [.int .i64 0, .int .i64 0, .int .i64 0, .int .i64 0, .int .i64 0, .int .i64 0, .int .i64 0, .str [], .str [], .bool false, .int .u32 0, .nilSlice, .nilSlice])], r39.2) else none)
 ((aBin .eql .plain r2.1 (.int .i64 11)).bind fun v41 =>
 (condV v41
 ((aFill (reps [.str [], .str []] 0) []).bind fun c42 =>
 (rdL c1 12 1).bind fun c43 =>
 (fromCells false c43).bind fun v44 =>
 (aAppend 2 32 [.str [], .str []] false (.slice r2.2.next 0 0 0 2 true) v44 (r2.2.alloc c42)).bind fun r45 =>
 (aFill (reps [.str []] 2) [(0, 1, (.str [98])), (1, 1, (.str []))]).bind fun c46 =>
 (call 13 [a2, (.int .i64 0), (.int .i64 1)] (r45.2.alloc c46)).bind fun r47 =>
 (aIaddr 1 (.slice r45.2.next 0 2 2 1 true) r47.1).bind fun v48 =>
 (aLoad r47.2 1 v48).bind fun c49 =>
 (fromCells false c49).bind fun v50 =>
 (aFill [.str [], .str []] [(0, 1, (.str [97])), (1, 1, v50)]).bind fun c51 =>
 (aFill (reps [.str [], .str []] 1) [(0, 2, (.agg c51))]).bind fun c52 =>
 (aAppend 2 32 [.str [], .str []] false r45.1 (.slice r47.2.next 0 1 1 2 true) (r47.2.alloc c52)).bind fun r53 =>
 (aCells 1 r53.1).bind fun c54 =>
 bif Nat.ble ((12) + 1) (List.length (α := AVal) c1) then some (0, [(.agg (splice c1 (12) c54)), (.agg [.int .i64 0, .int .i64 0, .int .i64 0, .int .i64 0, .int .i64 0, .int .i64 0, .int .i64 0, .str [], .str [], .bool false, .int .u32 0, .nilSlice, .nilSlice])], r53.2) else none)
 ((aBin .eql .plain r2.1 (.int .i64 12)).bind fun v55 =>
 (condV v55
 ((aCells 1 (.nilSlice)).bind fun c56 =>
 bif Nat.ble ((11) + 1) (List.length (α := AVal) c1) then (loop (L8_0 call) [a2, (.int .i64 0), (.agg (splice c1 (11) c56)), (.agg [.int .i64 0, .int .i64 0, .int .i64 0, .int .i64 0, .int .i64 0, .int .i64 0, .int .i64 0, .str [], .str [], .bool false, .int .u32 0, .nilSlice, .nilSlice])] r2.2).bind fun x68 =>
 bif Nat.beq x68.1 1 then some (0, [(.agg (AVal.aggCells (x68.2.1.getD 0 .undef))), (.agg (AVal.aggCells (x68.2.1.getD 1 .undef)))], x68.2.2) else
 none else none)
 ((aCells 1 (.str [])).bind fun c69 =>
 bif Nat.ble ((8) + 1) (List.length (α := AVal) c1) then some (0, [(.agg (splice c1 (8) c69)), (.agg [.int .i64 0, .int .i64 0, .int .i64 0, .int .i64 0, .int .i64 0, .int .i64 0, .int .i64 0, .str [], .str [], .bool false, .int .u32 0, .nilSlice, .nilSlice])], r2.2) else none)).bind fun x70 =>
 bif Nat.beq x70.1 0 then some (0, [(.agg (AVal.aggCells (x70.2.1.getD 0 .undef))), (.agg (AVal.aggCells (x70.2.1.getD 1 .undef)))], x70.2.2) else
 none)).bind fun x71 =>
 bif Nat.beq x71.1 0 then some (0, [(.agg (AVal.aggCells (x71.2.1.getD 0 .undef))), (.agg (AVal.aggCells (x71.2.1.getD 1 .undef)))], x71.2.2) else
 none)).bind fun x72 =>
 bif Nat.beq x72.1 0 then some (0, [(.agg (AVal.aggCells (x72.2.1.getD 0 .undef))), (.agg (AVal.aggCells (x72.2.1.getD 1 .undef)))], x72.2.2) else
 none)).bind fun x73 =>
 bif Nat.beq x73.1 0 then some (0, [(.agg (AVal.aggCells (x73.2.1.getD 0 .undef))), (.agg (AVal.aggCells (x73.2.1.getD 1 .undef)))], x73.2.2) else
 none)).bind fun x74 =>
 bif Nat.beq x74.1 0 then some (0, [(.agg (AVal.aggCells (x74.2.1.getD 0 .undef))), (.agg (AVal.aggCells (x74.2.1.getD 1 .undef)))], x74.2.2) else
 none)).bind fun x75 =>
 bif Nat.beq x75.1 0 then some (0, [(.agg (AVal.aggCells (x75.2.1.getD 0 .undef))), (.agg (AVal.aggCells (x75.2.1.getD 1 .undef)))], x75.2.2) else
 none)).bind fun x76 =>
 bif Nat.beq x76.1 0 then some (0, [(.agg (AVal.aggCells (x76.2.1.getD 0 .undef))), (.agg (AVal.aggCells (x76.2.1.getD 1 .undef)))], x76.2.2) else
 none)).bind fun x77 =>
 bif Nat.beq x77.1 0 then some (0, [(.agg (AVal.aggCells (x77.2.1.getD 0 .undef))), (.agg (AVal.aggCells (x77.2.1.getD 1 .undef)))], x77.2.2) else
 none)).bind fun x78 =>
 bif Nat.beq x78.1 0 then some (0, [(.agg (AVal.aggCells (x78.2.1.getD 0 .undef))), (.agg (AVal.aggCells (x78.2.1.getD 1 .undef)))], x78.2.2) else
 none)).bind fun x79 =>
 bif Nat.beq x79.1 0 then some (0, [(.agg (AVal.aggCells (x79.2.1.getD 0 .undef))), (.agg (AVal.aggCells (x79.2.1.getD 1 .undef)))], x79.2.2) else
 none)).bind fun x80 =>
 bif Nat.beq x80.1 0 then some (0, [(.agg (AVal.aggCells (x80.2.1.getD 0 .undef))), (.agg (AVal.aggCells (x80.2.1.getD 1 .undef)))], x80.2.2) else
 none)).bind fun x81 =>
 bif Nat.beq x81.1 0 then some (0, [(.agg (AVal.aggCells (x81.2.1.getD 0 .undef))), (.agg (AVal.aggCells (x81.2.1.getD 1 .undef)))], x81.2.2) else
 none)).bind fun x82 =>
 bif Nat.beq x82.1 0 then (rdL (AVal.aggCells (x82.2.1.getD 0 .undef)) 0 13).bind fun c83 =>
 (fromCells true c83).bind fun v84 =>
 (aCells 13 v84).bind fun c85 =>
 bif Nat.ble ((0) + 13) (List.length (α := AVal) (AVal.aggCells (x82.2.1.getD 1 .undef))) then (((rdL (splice (AVal.aggCells (x82.2.1.getD 1 .undef)) (0) c85) (0) 13).bind fun cs => fromCells true cs).bind fun v => (some []).bind fun vs => some (v :: vs)).bind fun vs => some (0, [oneOr vs], x82.2.2) else none else
 none
theorem run8 (call : Go.Fw.Call) (a0 a1 a2 : AVal) (h : Heap) : runFn call (.code A8) [a0, a1, a2] h = (S8 call a0 a1 a2 h).bind ansOf := by kernel_rfl
noncomputable def A9 : AFunc := ⟨1, (.seq (.region [.op 0 (.box 1 true (.tmp 0)),
 .op 1 (.mov 2 (.const (.nilSlice)))] [])
 (.seq (.region [.op 0 (.faddr 6 0 (.tmp 1)),
 .op 1 (.load 7 false 1 (.tmp 6)),
 .op 2 (.call 8 23 [.const (.nilSlice), .tmp 7]),
 .op 3 (.mov 3 (.tmp 8))] [])
 (.seq (.seq (.region [.op 0 (.faddr 9 0 (.tmp 1)),
 .op 1 (.load 10 false 1 (.tmp 9))] [])
 (.block 0 (.seq (.region [.op 0 (.bin 12 .eql .plain (.tmp 10) (.const (.int .i64 1))),
 .op 1 (.mov 11 (.tmp 12))] [])
 (.cond (.tmp 11)
 (.seq (.region [.op 0 (.mov 13 (.tmp 3)),
 .op 1 (.faddr 14 4 (.tmp 1)),
 .op 2 (.load 15 false 1 (.tmp 14)),
 .op 3 (.call 16 11 [.tmp 13, .tmp 15]),
 .op 4 (.faddr 17 1 (.tmp 1)),
 .op 5 (.load 18 false 1 (.tmp 17)),
 .op 6 (.call 19 23 [.tmp 16, .tmp 18]),
 .op 7 (.faddr 20 7 (.tmp 1)),
 .op 8 (.load 21 true 2 (.tmp 20)),
 .op 9 (.call 22 24 [.tmp 19, .tmp 21]),
 .op 10 (.mov 3 (.tmp 22))] [(5, 3), (8, 3), (8, 6)])
 (.seq (.region [.op 0 (.mov 23 (.tmp 3)),
 .op 1 (.faddr 24 5 (.tmp 1)),
 .op 2 (.load 25 false 1 (.tmp 24)),
 .op 3 (.call 26 11 [.tmp 23, .tmp 25]),
 .op 4 (.faddr 27 2 (.tmp 1)),
 .op 5 (.load 28 false 1 (.tmp 27)),
 .op 6 (.call 29 23 [.tmp 26, .tmp 28]),
 .op 7 (.faddr 30 6 (.tmp 1)),
 .op 8 (.load 31 false 1 (.tmp 30)),
 .op 9 (.call 32 11 [.tmp 29, .tmp 31]),
 .op 10 (.mov 2 (.tmp 32))] [(5, 3), (8, 3), (8, 6)])
 .ret))
 (.seq (.region [.op 0 (.bin 34 .eql .plain (.tmp 10) (.const (.int .i64 2))),
 .op 1 (.mov 33 (.tmp 34))] [])
 (.cond (.tmp 33)
 (.seq (.region [.op 0 (.mov 35 (.tmp 3)),
 .op 1 (.faddr 36 4 (.tmp 1)),
 .op 2 (.load 37 false 1 (.tmp 36)),
 .op 3 (.call 38 11 [.tmp 35, .tmp 37]),
 .op 4 (.faddr 39 1 (.tmp 1)),
 .op 5 (.load 40 false 1 (.tmp 39)),
 .op 6 (.call 41 23 [.tmp 38, .tmp 40]),
 .op 7 (.faddr 42 7 (.tmp 1)),
 .op 8 (.load 43 true 2 (.tmp 42)),
 .op 9 (.call 44 24 [.tmp 41, .tmp 43]),
 .op 10 (.mov 3 (.tmp 44))] [(5, 3), (8, 3), (8, 6)])
 (.seq (.region [.op 0 (.mov 45 (.tmp 3)),
 .op 1 (.faddr 46 3 (.tmp 1)),
 .op 2 (.load 47 false 1 (.tmp 46)),
 .op 3 (.call 48 23 [.tmp 45, .tmp 47]),
 .op 4 (.faddr 49 9 (.tmp 1)),
 .op 5 (.load 50 false 1 (.tmp 49)),
 .op 6 (.call 51 25 [.tmp 50]),
 .op 7 (.call 52 23 [.tmp 48, .tmp 51]),
 .op 8 (.mov 3 (.tmp 52))] [(5, 3)])
 (.seq (.region [.op 0 (.mov 53 (.tmp 3)),
 .op 1 (.faddr 54 6 (.tmp 1)),
 .op 2 (.load 55 false 1 (.tmp 54)),
 .op 3 (.call 56 11 [.tmp 53, .tmp 55]),
 .op 4 (.faddr 57 10 (.tmp 1)),
 .op 5 (.load 58 false 1 (.tmp 57)),
 .op 6 (.conv 59 (.toInt .i64) (.tmp 58)),
 .op 7 (.call 60 11 [.tmp 56, .tmp 59]),
 .op 8 (.faddr 61 11 (.tmp 1)),
 .op 9 (.load 62 false 1 (.tmp 61)),
 .op 10 (.call 63 26 [.tmp 60, .tmp 62]),
 .op 11 (.mov 2 (.tmp 63))] [(5, 3), (9, 3), (9, 7)])
 .ret)))
 (.seq (.region [.op 0 (.bin 65 .eql .plain (.tmp 10) (.const (.int .i64 5))),
 .op 1 (.mov 64 (.tmp 65))] [])
 (.cond (.tmp 64)
 (.seq (.region [.op 0 (.mov 66 (.tmp 3)),
 .op 1 (.faddr 67 12 (.tmp 1)),
 .op 2 (.load 68 false 1 (.tmp 67)),
 .op 3 (.len 69 false (.tmp 68)),
 .op 4 (.call 70 23 [.tmp 66, .tmp 69]),
 .op 5 (.mov 3 (.tmp 70))] [])
 (.seq (.seq (.region [.op 0 (.faddr 71 12 (.tmp 1)),
 .op 1 (.load 72 false 1 (.tmp 71)),
 .op 2 (.len 73 false (.tmp 72)),
 .op 3 (.mov 74 (.const (.int .i64 0)))] [])
 (.block 1 (.loop ⟨[3, 72, 73, 74], []⟩ [((.exit 1), ⟨[3], []⟩)]
 (.seq (.region [.op 0 (.bin 75 .lss .plain (.tmp 74) (.tmp 73))] [])
 (.seq (.cond (.tmp 75)
 .skip
 (.exit 1))
 (.seq (.block 2 (.seq (.region [.op 0 (.iaddr 76 none 2 (.tmp 72) (.tmp 74)),
 .op 1 (.load 77 true 2 (.tmp 76)),
 .op 2 (.alloc 5 true [.str [], .str []]),
 .op 3 (.store true 2 (.tmp 5) (.tmp 77))] [])
 (.region [.op 0 (.mov 78 (.tmp 3)),
 .op 1 (.load 79 true 2 (.tmp 5)),
 .op 2 (.call 80 24 [.tmp 78, .tmp 79]),
 .op 3 (.mov 3 (.tmp 80))] [])))
 (.region [.op 0 (.bin 81 .add .plain (.tmp 74) (.const (.int .i64 1))),
 .op 1 (.mov 74 (.tmp 81))] [])))))))
 (.seq (.region [.op 0 (.mov 82 (.tmp 3)),
 .op 1 (.mov 2 (.tmp 82))] [])
 .ret)))
 .skip))))))))
 (.seq (.region [.op 0 (.mov 83 (.tmp 3)),
 .op 1 (.faddr 84 11 (.tmp 1)),
 .op 2 (.load 85 false 1 (.tmp 84)),
 .op 3 (.call 86 26 [.tmp 83, .tmp 85]),
 .op 4 (.mov 2 (.tmp 86))] [])
 .ret)))),
 [.tmp 2]⟩
theorem ok9 : funcOk Tryz.prog (drawOk Tryz.prog) Tryz.f9 A9 = true := by kernel_rfl
noncomputable def L9_0 (call : Go.Fw.Call) (xs : List AVal) (h : Heap) : Option J :=
 (aBin .lss .plain (xs.getD 3 .undef) (xs.getD 2 .undef)).bind fun v61 =>
 condV v61
 ((aIaddr 2 (xs.getD 1 .undef) (xs.getD 3 .undef)).bind fun v62 =>
 (aLoad h 2 v62).bind fun c63 =>
 (fromCells true c63).bind fun v64 =>
 (aCells 2 v64).bind fun c65 =>
 bif Nat.ble ((0) + 2) (List.length (α := AVal) [.str [], .str []]) then (rdL (splice [.str [], .str []] (0) c65) 0 2).bind fun c66 =>
 (fromCells true c66).bind fun v67 =>
 (call 24 [(xs.getD 0 .undef), v67] h).bind fun r68 =>
 (aBin .add .plain (xs.getD 3 .undef) (.int .i64 1)).bind fun v69 =>
 some (0, [r68.1, (xs.getD 1 .undef), (xs.getD 2 .undef), v69], r68.2) else none)
 (some (1, [(xs.getD 0 .undef)], h))
noncomputable def S9 (call : Go.Fw.Call) (a0 : AVal) (h : Heap) : Option J :=
 (AVal.cells? a0).bind fun c1 =>
 (rdL c1 0 1).bind fun c2 =>
 (fromCells false c2).bind fun v3 =>
 (call 23 [(.nilSlice), v3] h).bind fun r4 =>
 (rdL c1 0 1).bind fun c5 =>
 (fromCells false c5).bind fun v6 =>
 (aBin .eql .plain v6 (.int .i64 1)).bind fun v7 =>
 condV v7
 ((rdL c1 4 1).bind fun c8 =>
 (fromCells false c8).bind fun v9 =>
 (call 11 [r4.1, v9] r4.2).bind fun r10 =>
 (rdL c1 1 1).bind fun c11 =>
 (fromCells false c11).bind fun v12 =>
 (call 23 [r10.1, v12] r10.2).bind fun r13 =>
 (rdL c1 7 2).bind fun c14 =>
 (fromCells true c14).bind fun v15 =>
 (call 24 [r13.1, v15] r13.2).bind fun r16 =>
 bif checkPairs [(8, some (.lrd 1 (7) 2)), (6, some (.ef [(1, c1)] r10.2 [(1, c1)] r13.2)), (5, some (.lrd 1 (1) 1)), (3, some (.ef [(1, c1)] r4.2 [(1, c1)] r10.2))] [(5, 3), (8, 3), (8, 6)] then (rdL c1 5 1).bind fun c17 =>
 (fromCells false c17).bind fun v18 =>
 (call 11 [r16.1, v18] r16.2).bind fun r19 =>
 (rdL c1 2 1).bind fun c20 =>
 (fromCells false c20).bind fun v21 =>
 (call 23 [r19.1, v21] r19.2).bind fun r22 =>
 (rdL c1 6 1).bind fun c23 =>
 (fromCells false c23).bind fun v24 =>
 (call 11 [r22.1, v24] r22.2).bind fun r25 =>
 bif checkPairs [(8, some (.lrd 1 (6) 1)), (6, some (.ef [(1, c1)] r19.2 [(1, c1)] r22.2)), (5, some (.lrd 1 (2) 1)), (3, some (.ef [(1, c1)] r16.2 [(1, c1)] r19.2))] [(5, 3), (8, 3), (8, 6)] then some (0, [r25.1], r25.2) else none else none)
 ((aBin .eql .plain v6 (.int .i64 2)).bind fun v26 =>
 condV v26
 ((rdL c1 4 1).bind fun c27 =>
 (fromCells false c27).bind fun v28 =>
 (call 11 [r4.1, v28] r4.2).bind fun r29 =>
 (rdL c1 1 1).bind fun c30 =>
 (fromCells false c30).bind fun v31 =>
 (call 23 [r29.1, v31] r29.2).bind fun r32 =>
 (rdL c1 7 2).bind fun c33 =>
 (fromCells true c33).bind fun v34 =>
 (call 24 [r32.1, v34] r32.2).bind fun r35 =>
 bif checkPairs [(8, some (.lrd 1 (7) 2)), (6, some (.ef [(1, c1)] r29.2 [(1, c1)] r32.2)), (5, some (.lrd 1 (1) 1)), (3, some (.ef [(1, c1)] r4.2 [(1, c1)] r29.2))] [(5, 3), (8, 3), (8, 6)] then (rdL c1 3 1).bind fun c36 =>
 (fromCells false c36).bind fun v37 =>
 (call 23 [r35.1, v37] r35.2).bind fun r38 =>
 (rdL c1 9 1).bind fun c39 =>
 (fromCells false c39).bind fun v40 =>
 (call 25 [v40] r38.2).bind fun r41 =>
 (call 23 [r38.1, r41.1] r41.2).bind fun r42 =>
 bif checkPairs [(5, some (.lrd 1 (9) 1)), (3, some (.ef [(1, c1)] r35.2 [(1, c1)] r38.2))] [(5, 3)] then (rdL c1 6 1).bind fun c43 =>
 (fromCells false c43).bind fun v44 =>
 (call 11 [r42.1, v44] r42.2).bind fun r45 =>
 (rdL c1 10 1).bind fun c46 =>
 (fromCells false c46).bind fun v47 =>
 (aConv (.toInt .i64) v47 r45.2).bind fun r48 =>
 (call 11 [r45.1, r48.1] r48.2).bind fun r49 =>
 (rdL c1 11 1).bind fun c50 =>
 (fromCells false c50).bind fun v51 =>
 (call 26 [r49.1, v51] r49.2).bind fun r52 =>
 bif checkPairs [(9, some (.lrd 1 (11) 1)), (7, some (.ef [(1, c1)] r48.2 [(1, c1)] r49.2)), (5, some (.lrd 1 (10) 1)), (3, some (.ef [(1, c1)] r42.2 [(1, c1)] r45.2))] [(5, 3), (9, 3), (9, 7)] then some (0, [r52.1], r52.2) else none else none else none)
 ((aBin .eql .plain v6 (.int .i64 5)).bind fun v53 =>
 condV v53
 ((rdL c1 12 1).bind fun c54 =>
 (fromCells false c54).bind fun v55 =>
 (aLen false v55).bind fun v56 =>
 (call 23 [r4.1, v56] r4.2).bind fun r57 =>
 (rdL c1 12 1).bind fun c58 =>
 (fromCells false c58).bind fun v59 =>
 (aLen false v59).bind fun v60 =>
 (loop (L9_0 call) [r57.1, v59, v60, (.int .i64 0)] r57.2).bind fun x70 =>
 bif Nat.beq x70.1 1 then some (0, [(x70.2.1.getD 0 .undef)], x70.2.2) else
 none)
 ((rdL c1 11 1).bind fun c71 =>
 (fromCells false c71).bind fun v72 =>
 (call 26 [r4.1, v72] r4.2).bind fun r73 =>
 some (0, [r73.1], r73.2))))
theorem run9 (call : Go.Fw.Call) (a0 : AVal) (h : Heap) : runFn call (.code A9) [a0] h = (S9 call a0 h).bind ansOf := by kernel_rfl
noncomputable def A10 : AFunc := ⟨1, (.seq (.region [.op 0 (.mov 2 (.const (.bool false)))] [])
 (.seq (.region [.op 0 (.mov 9 (.tmp 0)),
 .op 1 (.call 10 27 [.tmp 9]),
 .op 2 (.mov 8 (.tmp 10)),
 .op 3 (.extract 11 (.tmp 8) 0),
 .op 4 (.extract 12 (.tmp 8) 1),
 .op 5 (.alloc 3 true mz),
 .op 6 (.store true 13 (.tmp 3) (.tmp 11)),
 .op 7 (.mov 4 (.tmp 12))] [])
 (.seq (.region [.op 0 (.mov 14 (.tmp 0)),
 .op 1 (.call 15 28 [.tmp 14]),
 .op 2 (.mov 13 (.tmp 15)),
 .op 3 (.extract 16 (.tmp 13) 0),
 .op 4 (.extract 17 (.tmp 13) 1),
 .op 5 (.extract 18 (.tmp 13) 2),
 .op 6 (.alloc 5 true mz),
 .op 7 (.store true 13 (.tmp 5) (.tmp 16)),
 .op 8 (.mov 6 (.tmp 17)),
 .op 9 (.mov 7 (.tmp 18))] [])
 (.seq (.region [.op 0 (.mov 19 (.tmp 4)),
 .op 1 (.mov 20 (.tmp 6)),
 .op 2 (.mov 21 (.tmp 7)),
 .op 3 (.call 22 21 [.tmp 19, .const (.str [114, 101, 97, 100]), .tmp 20, .tmp 21]),
 .op 4 (.mov 23 (.tmp 22)),
 .guard 23 true [.op 5 (.load 24 true 13 (.tmp 3)),
 .op 6 (.load 25 true 13 (.tmp 5)),
 .op 7 (.call 26 15 [.tmp 24, .tmp 25])] [] [26],
 .op 8 (.pick 27 (.tmp 23) (.tmp 26) (.const (.bool false))),
 .op 9 (.mov 2 (.tmp 27))] [])
 .ret)))),
 [.tmp 2]⟩
theorem ok10 : funcOk Tryz.prog (drawOk Tryz.prog) Tryz.f10 A10 = true := by kernel_rfl
noncomputable def S10 (call : Go.Fw.Call) (a0 : AVal) (h : Heap) : Option J :=
 (call 27 [a0] h).bind fun r1 =>
 (aExtract 0 r1.1).bind fun v2 =>
 (aExtract 1 r1.1).bind fun v3 =>
 (aCells 13 v2).bind fun c4 =>
 bif Nat.ble ((0) + 13) (List.length (α := AVal) [.int .i64 0, .int .i64 0, .int .i64 0, .int .i64 0, .int .i64 0, .int .i64 0, .int .i64 0, .str [], .str [], .bool false, .int .u32 0, .nilSlice, .nilSlice]) then (call 28 [a0] r1.2).bind fun r5 =>
 (aExtract 0 r5.1).bind fun v6 =>
 (aExtract 1 r5.1).bind fun v7 =>
 (aExtract 2 r5.1).bind fun v8 =>
 (aCells 13 v6).bind fun c9 =>
 bif Nat.ble ((0) + 13) (List.length (α := AVal) [.int .i64 0, .int .i64 0, .int .i64 0, .int .i64 0, .int .i64 0, .int .i64 0, .int .i64 0, .str [], .str [], .bool false, .int .u32 0, .nilSlice, .nilSlice]) then (call 21 [v3, (.str [114, 101, 97, 100]), v7, v8] r5.2).bind fun r10 =>
 (guardV r10.1 true
 ((rdL (splice [.int .i64 0, .int .i64 0, .int .i64 0, .int .i64 0, .int .i64 0, .int .i64 0, .int .i64 0, .str [], .str [], .bool false, .int .u32 0, .nilSlice, .nilSlice] (0) c4) 0 13).bind fun c11 =>
 (fromCells true c11).bind fun v12 =>
 (rdL (splice [.int .i64 0, .int .i64 0, .int .i64 0, .int .i64 0, .int .i64 0, .int .i64 0, .int .i64 0, .str [], .str [], .bool false, .int .u32 0, .nilSlice, .nilSlice] (0) c9) 0 13).bind fun c13 =>
 (fromCells true c13).bind fun v14 =>
 (call 15 [v12, v14] r10.2).bind fun r15 =>
 some (0, [r15.1], r15.2))
 (some (0, [skipV], r10.2))).bind fun g16 =>
 (aPick r10.1 (g16.2.1.getD 0 .undef) (.bool false)).bind fun v17 =>
 some (0, [v17], g16.2.2) else none else none
theorem run10 (call : Go.Fw.Call) (a0 : AVal) (h : Heap) : runFn call (.code A10) [a0] h = (S10 call a0 h).bind ansOf := by kernel_rfl
noncomputable def A11 : AFunc := ⟨2, (.seq (.region [.op 0 (.mov 4 (.const (.nilSlice)))] [])
 (.seq (.region [.op 0 (.buildSl 7 [.int .u8 0] 1 0 []),
 .op 1 (.mov 8 (.tmp 0)),
 .op 2 (.append 9 1 1 [.int .u8 0] false (.tmp 7) (.tmp 8)),
 .op 3 (.mov 5 (.tmp 9))] [])
 (.seq (.seq (.region [.op 0 (.mov 6 (.const (.int .i64 56)))] [])
 (.block 0 (.loop ⟨[1, 5, 6], []⟩ [((.exit 0), ⟨[5], []⟩)]
 (.seq (.seq (.region [.op 0 (.mov 10 (.tmp 6)),
 .op 1 (.bin 11 .geq .plain (.tmp 10) (.const (.int .i64 0)))] [])
 (.cond (.tmp 11)
 .skip
 (.exit 0)))
 (.seq (.block 1 (.region [.op 0 (.mov 14 (.tmp 5)),
 .op 1 (.mov 15 (.tmp 1)),
 .op 2 (.mov 16 (.tmp 6)),
 .op 3 (.conv 17 (.toInt .u64) (.tmp 16)),
 .op 4 (.bin 18 .shr .plain (.tmp 15) (.tmp 17)),
 .op 5 (.conv 19 (.toInt .u8) (.tmp 18)),
 .op 6 (.buildSl 20 [.int .u8 0] 1 1 [(0, .tmp 19)]),
 .op 7 (.append 21 1 1 [.int .u8 0] false (.tmp 14) (.tmp 20)),
 .op 8 (.mov 5 (.tmp 21))] []))
 (.region [.op 0 (.mov 12 (.tmp 6)),
 .op 1 (.bin 13 .sub .plain (.tmp 12) (.const (.int .i64 8))),
 .op 2 (.mov 6 (.tmp 13))] []))))))
 (.seq (.region [.op 0 (.mov 22 (.tmp 5)),
 .op 1 (.mov 4 (.tmp 22))] [])
 .ret)))),
 [.tmp 4]⟩
theorem ok11 : funcOk Tryz.prog (drawOk Tryz.prog) Tryz.f11 A11 = true := by kernel_rfl
noncomputable def L11_0 (call : Go.Fw.Call) (xs : List AVal) (h : Heap) : Option J :=
 (aBin .geq .plain (xs.getD 2 .undef) (.int .i64 0)).bind fun v3 =>
 condV v3
 ((aConv (.toInt .u64) (xs.getD 2 .undef) h).bind fun r4 =>
 (aBin .shr .plain (xs.getD 0 .undef) r4.1).bind fun v5 =>
 (aConv (.toInt .u8) v5 r4.2).bind fun r6 =>
 (aFill (reps [.int .u8 0] 1) [(0, 1, r6.1)]).bind fun c7 =>
 (aAppend 1 1 [.int .u8 0] false (xs.getD 1 .undef) (.slice r6.2.next 0 1 1 1 true) (r6.2.alloc c7)).bind fun r8 =>
 (aBin .sub .plain (xs.getD 2 .undef) (.int .i64 8)).bind fun v9 =>
 some (0, [(xs.getD 0 .undef), r8.1, v9], r8.2))
 (some (1, [(xs.getD 1 .undef)], h))
noncomputable def S11 (call : Go.Fw.Call) (a0 a1 : AVal) (h : Heap) : Option J :=
 (aFill (reps [.int .u8 0] 0) []).bind fun c1 =>
 (aAppend 1 1 [.int .u8 0] false (.slice h.next 0 0 0 1 true) a0 (h.alloc c1)).bind fun r2 =>
 (loop (L11_0 call) [a1, r2.1, (.int .i64 56)] r2.2).bind fun x10 =>
 bif Nat.beq x10.1 1 then some (0, [(x10.2.1.getD 0 .undef)], x10.2.2) else
 none
theorem run11 (call : Go.Fw.Call) (a0 a1 : AVal) (h : Heap) : runFn call (.code A11) [a0, a1] h = (S11 call a0 a1 h).bind ansOf := by kernel_rfl
noncomputable def A12 : AFunc := ⟨0, (.seq (.region [.op 0 (.mov 0 (.const (.bool false)))] [])
 (.seq (.region [.op 0 (.build 10 mz [(0, 1, .const (.int .i64 5))]),
 .op 1 (.alloc 1 true mz),
 .op 2 (.store true 13 (.tmp 1) (.tmp 10))] [])
 (.seq (.region [.op 0 (.load 12 true 13 (.tmp 1)),
 .op 1 (.call 13 20 [.tmp 12]),
 .op 2 (.mov 11 (.tmp 13)),
 .op 3 (.extract 14 (.tmp 11) 0),
 .op 4 (.extract 15 (.tmp 11) 1),
 .op 5 (.mov 2 (.tmp 14)),
 .op 6 (.mov 3 (.tmp 15))] [])
 (.seq (.region [.op 0 (.mov 17 (.tmp 2)),
 .op 1 (.call 18 27 [.tmp 17]),
 .op 2 (.mov 16 (.tmp 18)),
 .op 3 (.extract 19 (.tmp 16) 0),
 .op 4 (.extract 20 (.tmp 16) 1),
 .op 5 (.alloc 4 true mz),
 .op 6 (.store true 13 (.tmp 4) (.tmp 19)),
 .op 7 (.mov 5 (.tmp 20))] [])
 (.seq (.region [.op 0 (.build 22 mz [(0, 1, .const (.int .i64 9))]),
 .op 1 (.call 23 20 [.tmp 22]),
 .op 2 (.mov 21 (.tmp 23)),
 .op 3 (.extract 24 (.tmp 21) 0),
 .op 4 (.extract 25 (.tmp 21) 1),
 .op 5 (.mov 6 (.tmp 24)),
 .op 6 (.mov 7 (.tmp 25))] [])
 (.seq (.region [.op 0 (.call 27 27 [.const (.nilSlice)]),
 .op 1 (.mov 26 (.tmp 27)),
 .op 2 (.extract 28 (.tmp 26) 0),
 .op 3 (.extract 29 (.tmp 26) 1),
 .op 4 (.alloc 8 true mz),
 .op 5 (.store true 13 (.tmp 8) (.tmp 28)),
 .op 6 (.mov 9 (.tmp 29))] [])
 (.seq (.region [.op 0 (.mov 30 (.tmp 3)),
 .op 1 (.bin 31 .eql (.iface true []) (.tmp 30) (.const (.nilIface))),
 .op 2 (.mov 32 (.tmp 31)),
 .guard 32 true [.op 3 (.mov 33 (.tmp 5)),
 .op 4 (.bin 34 .eql (.iface true []) (.tmp 33) (.const (.nilIface)))] [] [34],
 .op 5 (.pick 35 (.tmp 32) (.tmp 34) (.const (.bool false))),
 .op 6 (.mov 36 (.tmp 35)),
 .guard 36 true [.op 7 (.load 37 true 13 (.tmp 4)),
 .op 8 (.load 38 true 13 (.tmp 1)),
 .op 9 (.call 39 14 [.tmp 37, .tmp 38])] [] [39],
 .op 10 (.pick 40 (.tmp 36) (.tmp 39) (.const (.bool false))),
 .op 11 (.mov 41 (.tmp 40)),
 .guard 41 true [.op 12 (.mov 42 (.tmp 7)),
 .op 13 (.call 43 21 [.tmp 42, .const (.str [119, 114, 105, 116, 101]), .const (.str [107, 105, 110, 100]), .const (.int .i64 12)])] [] [43],
 .op 14 (.pick 44 (.tmp 41) (.tmp 43) (.const (.bool false))),
 .op 15 (.mov 45 (.tmp 44)),
 .guard 45 true [.op 16 (.mov 46 (.tmp 9)),
 .op 17 (.call 47 21 [.tmp 46, .const (.str [114, 101, 97, 100]), .const (.str [98, 121, 116, 101, 115]), .const (.int .i64 12)])] [] [47],
 .op 18 (.pick 48 (.tmp 45) (.tmp 47) (.const (.bool false))),
 .op 19 (.mov 49 (.tmp 48)),
 .guard 49 true [.op 20 (.load 50 true 13 (.tmp 1)),
 .op 21 (.call 51 22 [.tmp 50]),
 .op 22 (.bin 52 .eql (.iface true []) (.tmp 51) (.const (.nilIface)))] [] [52],
 .op 23 (.pick 53 (.tmp 49) (.tmp 52) (.const (.bool false))),
 .op 24 (.mov 54 (.tmp 53)),
 .guard 54 true [.op 25 (.build 55 mz []),
 .op 26 (.call 56 22 [.tmp 55]),
 .op 27 (.call 57 21 [.tmp 56, .const (.str []), .const (.str [107, 105, 110, 100]), .const (.int .i64 12)])] [] [57],
 .op 28 (.pick 58 (.tmp 54) (.tmp 57) (.const (.bool false))),
 .op 29 (.mov 0 (.tmp 58))] [])
 .ret))))))),
 [.tmp 0]⟩
theorem ok12 : funcOk Tryz.prog (drawOk Tryz.prog) Tryz.f12 A12 = true := by kernel_rfl
noncomputable def S12 (call : Go.Fw.Call) (h : Heap) : Option J :=
 (aFill [.int .i64 0, .int .i64 0, .int .i64 0, .int .i64 0, .int .i64 0, .int .i64 0, .int .i64 0, .str [], .str [], .bool false, .int .u32 0, .nilSlice, .nilSlice] [(0, 1, (.int .i64 5))]).bind fun c1 =>
 (aCells 13 (.agg c1)).bind fun c2 =>
 bif Nat.ble ((0) + 13) (List.length (α := AVal) [.int .i64 0, .int .i64 0, .int .i64 0, .int .i64 0, .int .i64 0, .int .i64 0, .int .i64 0, .str [], .str [], .bool false, .int .u32 0, .nilSlice, .nilSlice]) then (rdL (splice [.int .i64 0, .int .i64 0, .int .i64 0, .int .i64 0, .int .i64 0, .int .i64 0, .int .i64 0, .str [], .str [], .bool false, .int .u32 0, .nilSlice, .nilSlice] (0) c2) 0 13).bind fun c3 =>
 (fromCells true c3).bind fun v4 =>
 (call 20 [v4] h).bind fun r5 =>
 (aExtract 0 r5.1).bind fun v6 =>
 (aExtract 1 r5.1).bind fun v7 =>
 (call 27 [v6] r5.2).bind fun r8 =>
 (aExtract 0 r8.1).bind fun v9 =>
 (aExtract 1 r8.1).bind fun v10 =>
 (aCells 13 v9).bind fun c11 =>
 bif Nat.ble ((0) + 13) (List.length (α := AVal) [.int .i64 0, .int .i64 0, .int .i64 0, .int .i64 0, .int .i64 0, .int .i64 0, .int .i64 0, .str [], .str [], .bool false, .int .u32 0, .nilSlice, .nilSlice]) then (aFill [.int .i64 0, .int .i64 0, .int .i64 0, .int .i64 0, .int .i64 0, .int .i64 0, .int .i64 0, .str [], .str [], .bool false, .int .u32 0, .nilSlice, .nilSlice] [(0, 1, (.int .i64 9))]).bind fun c12 =>
 (call 20 [(.agg c12)] r8.2).bind fun r13 =>
 (aExtract 0 r13.1).bind fun v14 =>
 (aExtract 1 r13.1).bind fun v15 =>
 (call 27 [(.nilSlice)] r13.2).bind fun r16 =>
 (aExtract 0 r16.1).bind fun v17 =>
 (aExtract 1 r16.1).bind fun v18 =>
 (aCells 13 v17).bind fun c19 =>
 bif Nat.ble ((0) + 13) (List.length (α := AVal) [.int .i64 0, .int .i64 0, .int .i64 0, .int .i64 0, .int .i64 0, .int .i64 0, .int .i64 0, .str [], .str [], .bool false, .int .u32 0, .nilSlice, .nilSlice]) then (aBin .eql (.iface true []) v7 (.nilIface)).bind fun v20 =>
 (guardV v20 true
 ((aBin .eql (.iface true []) v10 (.nilIface)).bind fun v21 =>
 some (0, [v21], r16.2))
 (some (0, [skipV], r16.2))).bind fun g22 =>
 (aPick v20 (g22.2.1.getD 0 .undef) (.bool false)).bind fun v23 =>
 (guardV v23 true
 ((rdL (splice [.int .i64 0, .int .i64 0, .int .i64 0, .int .i64 0, .int .i64 0, .int .i64 0, .int .i64 0, .str [], .str [], .bool false, .int .u32 0, .nilSlice, .nilSlice] (0) c11) 0 13).bind fun c24 =>
 (fromCells true c24).bind fun v25 =>
 (rdL (splice [.int .i64 0, .int .i64 0, .int .i64 0, .int .i64 0, .int .i64 0, .int .i64 0, .int .i64 0, .str [], .str [], .bool false, .int .u32 0, .nilSlice, .nilSlice] (0) c2) 0 13).bind fun c26 =>
 (fromCells true c26).bind fun v27 =>
 (call 14 [v25, v27] g22.2.2).bind fun r28 =>
 some (0, [r28.1], r28.2))
 (some (0, [skipV], g22.2.2))).bind fun g29 =>
 (aPick v23 (g29.2.1.getD 0 .undef) (.bool false)).bind fun v30 =>
 (guardV v30 true
 ((call 21 [v15, (.str [119, 114, 105, 116, 101]), (.str [107, 105, 110, 100]), (.int .i64 12)] g29.2.2).bind fun r31 =>
 some (0, [r31.1], r31.2))
 (some (0, [skipV], g29.2.2))).bind fun g32 =>
 (aPick v30 (g32.2.1.getD 0 .undef) (.bool false)).bind fun v33 =>
 (guardV v33 true
 ((call 21 [v18, (.str [114, 101, 97, 100]), (.str [98, 121, 116, 101, 115]), (.int .i64 12)] g32.2.2).bind fun r34 =>
 some (0, [r34.1], r34.2))
 (some (0, [skipV], g32.2.2))).bind fun g35 =>
 (aPick v33 (g35.2.1.getD 0 .undef) (.bool false)).bind fun v36 =>
 (guardV v36 true
 ((rdL (splice [.int .i64 0, .int .i64 0, .int .i64 0, .int .i64 0, .int .i64 0, .int .i64 0, .int .i64 0, .str [], .str [], .bool false, .int .u32 0, .nilSlice, .nilSlice] (0) c2) 0 13).bind fun c37 =>
 (fromCells true c37).bind fun v38 =>
 (call 22 [v38] g35.2.2).bind fun r39 =>
 (aBin .eql (.iface true []) r39.1 (.nilIface)).bind fun v40 =>
 some (0, [v40], r39.2))
 (some (0, [skipV], g35.2.2))).bind fun g41 =>
 (aPick v36 (g41.2.1.getD 0 .undef) (.bool false)).bind fun v42 =>
 (guardV v42 true
 ((aFill [.int .i64 0, .int .i64 0, .int .i64 0, .int .i64 0, .int .i64 0, .int .i64 0, .int .i64 0, .str [], .str [], .bool false, .int .u32 0, .nilSlice, .nilSlice] []).bind fun c43 =>
 (call 22 [(.agg c43)] g41.2.2).bind fun r44 =>
 (call 21 [r44.1, (.str []), (.str [107, 105, 110, 100]), (.int .i64 12)] r44.2).bind fun r45 =>
 some (0, [r45.1], r45.2))
 (some (0, [skipV], g41.2.2))).bind fun g46 =>
 (aPick v42 (g46.2.1.getD 0 .undef) (.bool false)).bind fun v47 =>
 some (0, [v47], g46.2.2) else none else none else none
theorem run12 (call : Go.Fw.Call) (h : Heap) : runFn call (.code A12) [] h = (S12 call  h).bind ansOf := by kernel_rfl
noncomputable def A13 : AFunc := ⟨3, (.seq (.region [.op 0 (.mov 6 (.const (.int .i64 0)))] [])
 (.seq (.seq (.region [.op 0 (.mov 7 (.tmp 0)),
 .op 1 (.mov 8 (.tmp 1)),
 .op 2 (.bin 9 .geq .plain (.tmp 7) (.tmp 8)),
 .op 3 (.mov 10 (.tmp 9)),
 .guard 10 true [.op 4 (.mov 11 (.tmp 0)),
 .op 5 (.mov 12 (.tmp 2)),
 .op 6 (.bin 13 .leq .plain (.tmp 11) (.tmp 12))] [] [13],
 .op 7 (.pick 14 (.tmp 10) (.tmp 13) (.const (.bool false)))] [])
 (.cond (.tmp 14)
 (.seq (.region [.op 0 (.mov 15 (.tmp 0)),
 .op 1 (.mov 6 (.tmp 15))] [])
 .ret)
 .skip))
 (.seq (.region [.op 0 (.mov 16 (.tmp 0)),
 .op 1 (.mov 17 (.tmp 2)),
 .op 2 (.mov 18 (.tmp 1)),
 .op 3 (.bin 19 .sub .plain (.tmp 17) (.tmp 18)),
 .op 4 (.bin 20 .add .plain (.tmp 19) (.const (.int .i64 1))),
 .op 5 (.bin 21 .rem .plain (.tmp 16) (.tmp 20)),
 .op 6 (.mov 0 (.tmp 21))] [])
 (.seq (.seq (.region [.op 0 (.mov 22 (.tmp 0)),
 .op 1 (.bin 23 .lss .plain (.tmp 22) (.const (.int .i64 0)))] [])
 (.join [(.normal, ⟨[0, 1], []⟩)] (.cond (.tmp 23)
 (.region [.op 0 (.mov 24 (.tmp 0)),
 .op 1 (.mov 25 (.tmp 2)),
 .op 2 (.bin 26 .add .plain (.tmp 24) (.tmp 25)),
 .op 3 (.mov 27 (.tmp 1)),
 .op 4 (.bin 28 .sub .plain (.tmp 26) (.tmp 27)),
 .op 5 (.bin 29 .add .plain (.tmp 28) (.const (.int .i64 1))),
 .op 6 (.mov 0 (.tmp 29))] [])
 .skip)))
 (.seq (.region [.op 0 (.mov 30 (.tmp 1)),
 .op 1 (.mov 31 (.tmp 0)),
 .op 2 (.bin 32 .add .plain (.tmp 30) (.tmp 31)),
 .op 3 (.mov 6 (.tmp 32))] [])
 .ret))))),
 [.tmp 6]⟩
theorem ok13 : funcOk Tryz.prog (drawOk Tryz.prog) Tryz.f13 A13 = true := by kernel_rfl
noncomputable def S13 (call : Go.Fw.Call) (a0 a1 a2 : AVal) (h : Heap) : Option J :=
 (aBin .geq .plain a0 a1).bind fun v1 =>
 (guardV v1 true
 ((aBin .leq .plain a0 a2).bind fun v2 =>
 some (0, [v2], h))
 (some (0, [skipV], h))).bind fun g3 =>
 (aPick v1 (g3.2.1.getD 0 .undef) (.bool false)).bind fun v4 =>
 condV v4
 (some (0, [a0], g3.2.2))
 ((aBin .sub .plain a2 a1).bind fun v5 =>
 (aBin .add .plain v5 (.int .i64 1)).bind fun v6 =>
 (aBin .rem .plain a0 v6).bind fun v7 =>
 (aBin .lss .plain v7 (.int .i64 0)).bind fun v8 =>
 (condV v8
 ((aBin .add .plain v7 a2).bind fun v9 =>
 (aBin .sub .plain v9 a1).bind fun v10 =>
 (aBin .add .plain v10 (.int .i64 1)).bind fun v11 =>
 some (0, [v11, a1], g3.2.2))
 (some (0, [v7, a1], g3.2.2))).bind fun x12 =>
 bif Nat.beq x12.1 0 then (aBin .add .plain (x12.2.1.getD 1 .undef) (x12.2.1.getD 0 .undef)).bind fun v13 =>
 some (0, [v13], x12.2.2) else
 none)
theorem run13 (call : Go.Fw.Call) (a0 a1 a2 : AVal) (h : Heap) : runFn call (.code A13) [a0, a1, a2] h = (S13 call a0 a1 a2 h).bind ansOf := by kernel_rfl
noncomputable def A14 : AFunc := ⟨2, (.seq (.region [.op 0 (.box 2 true (.tmp 0)),
 .op 1 (.box 3 true (.tmp 1)),
 .op 2 (.mov 4 (.const (.bool false)))] [])
 (.seq (.seq (.region [.op 0 (.faddr 5 11 (.tmp 2)),
 .op 1 (.load 6 false 1 (.tmp 5)),
 .op 2 (.faddr 7 11 (.tmp 3)),
 .op 3 (.load 8 false 1 (.tmp 7)),
 .op 4 (.call 9 29 [.tmp 6, .tmp 8]),
 .op 5 (.un 10 .not (.tmp 9)),
 .op 6 (.mov 11 (.tmp 10)),
 .guard 11 false [.op 7 (.faddr 12 12 (.tmp 2)),
 .op 8 (.load 13 false 1 (.tmp 12)),
 .op 9 (.faddr 14 12 (.tmp 3)),
 .op 10 (.load 15 false 1 (.tmp 14)),
 .op 11 (.call 16 30 [.tmp 13, .tmp 15]),
 .op 12 (.un 17 .not (.tmp 16))] [] [17],
 .op 13 (.pick 18 (.tmp 11) (.const (.bool true)) (.tmp 17))] [])
 (.cond (.tmp 18)
 (.seq (.region [.op 0 (.mov 4 (.const (.bool false)))] [])
 .ret)
 .skip))
 (.seq (.region [.op 0 (.faddr 19 0 (.tmp 2)),
 .op 1 (.load 20 false 1 (.tmp 19)),
 .op 2 (.faddr 21 0 (.tmp 3)),
 .op 3 (.load 22 false 1 (.tmp 21)),
 .op 4 (.bin 23 .eql .plain (.tmp 20) (.tmp 22)),
 .op 5 (.mov 24 (.tmp 23)),
 .guard 24 true [.op 6 (.faddr 25 1 (.tmp 2)),
 .op 7 (.load 26 false 1 (.tmp 25)),
 .op 8 (.faddr 27 1 (.tmp 3)),
 .op 9 (.load 28 false 1 (.tmp 27)),
 .op 10 (.bin 29 .eql .plain (.tmp 26) (.tmp 28))] [] [29],
 .op 11 (.pick 30 (.tmp 24) (.tmp 29) (.const (.bool false))),
 .op 12 (.mov 31 (.tmp 30)),
 .guard 31 true [.op 13 (.faddr 32 2 (.tmp 2)),
 .op 14 (.load 33 false 1 (.tmp 32)),
 .op 15 (.faddr 34 2 (.tmp 3)),
 .op 16 (.load 35 false 1 (.tmp 34)),
 .op 17 (.bin 36 .eql .plain (.tmp 33) (.tmp 35))] [] [36],
 .op 18 (.pick 37 (.tmp 31) (.tmp 36) (.const (.bool false))),
 .op 19 (.mov 38 (.tmp 37)),
 .guard 38 true [.op 20 (.faddr 39 3 (.tmp 2)),
 .op 21 (.load 40 false 1 (.tmp 39)),
 .op 22 (.faddr 41 3 (.tmp 3)),
 .op 23 (.load 42 false 1 (.tmp 41)),
 .op 24 (.bin 43 .eql .plain (.tmp 40) (.tmp 42))] [] [43],
 .op 25 (.pick 44 (.tmp 38) (.tmp 43) (.const (.bool false))),
 .op 26 (.mov 45 (.tmp 44)),
 .guard 45 true [.op 27 (.faddr 46 4 (.tmp 2)),
 .op 28 (.load 47 false 1 (.tmp 46)),
 .op 29 (.faddr 48 4 (.tmp 3)),
 .op 30 (.load 49 false 1 (.tmp 48)),
 .op 31 (.bin 50 .eql .plain (.tmp 47) (.tmp 49))] [] [50],
 .op 32 (.pick 51 (.tmp 45) (.tmp 50) (.const (.bool false))),
 .op 33 (.mov 52 (.tmp 51)),
 .guard 52 true [.op 34 (.faddr 53 5 (.tmp 2)),
 .op 35 (.load 54 false 1 (.tmp 53)),
 .op 36 (.faddr 55 5 (.tmp 3)),
 .op 37 (.load 56 false 1 (.tmp 55)),
 .op 38 (.bin 57 .eql .plain (.tmp 54) (.tmp 56))] [] [57],
 .op 39 (.pick 58 (.tmp 52) (.tmp 57) (.const (.bool false))),
 .op 40 (.mov 59 (.tmp 58)),
 .guard 59 true [.op 41 (.faddr 60 6 (.tmp 2)),
 .op 42 (.load 61 false 1 (.tmp 60)),
 .op 43 (.faddr 62 6 (.tmp 3)),
 .op 44 (.load 63 false 1 (.tmp 62)),
 .op 45 (.bin 64 .eql .plain (.tmp 61) (.tmp 63))] [] [64],
 .op 46 (.pick 65 (.tmp 59) (.tmp 64) (.const (.bool false))),
 .op 47 (.mov 66 (.tmp 65)),
 .guard 66 true [.op 48 (.faddr 67 7 (.tmp 2)),
 .op 49 (.load 68 true 2 (.tmp 67)),
 .op 50 (.faddr 69 7 (.tmp 3)),
 .op 51 (.load 70 true 2 (.tmp 69)),
 .op 52 (.bin 71 .eql (.cells [2, 2]) (.tmp 68) (.tmp 70))] [] [71],
 .op 53 (.pick 72 (.tmp 66) (.tmp 71) (.const (.bool false))),
 .op 54 (.mov 73 (.tmp 72)),
 .guard 73 true [.op 55 (.faddr 74 9 (.tmp 2)),
 .op 56 (.load 75 false 1 (.tmp 74)),
 .op 57 (.faddr 76 9 (.tmp 3)),
 .op 58 (.load 77 false 1 (.tmp 76)),
 .op 59 (.bin 78 .eql .bool (.tmp 75) (.tmp 77))] [] [78],
 .op 60 (.pick 79 (.tmp 73) (.tmp 78) (.const (.bool false))),
 .op 61 (.mov 80 (.tmp 79)),
 .guard 80 true [.op 62 (.faddr 81 10 (.tmp 2)),
 .op 63 (.load 82 false 1 (.tmp 81)),
 .op 64 (.faddr 83 10 (.tmp 3)),
 .op 65 (.load 84 false 1 (.tmp 83)),
 .op 66 (.bin 85 .eql .plain (.tmp 82) (.tmp 84))] [] [85],
 .op 67 (.pick 86 (.tmp 80) (.tmp 85) (.const (.bool false))),
 .op 68 (.mov 4 (.tmp 86))] [])
 .ret))),
 [.tmp 4]⟩
theorem ok14 : funcOk Tryz.prog (drawOk Tryz.prog) Tryz.f14 A14 = true := by kernel_rfl
noncomputable def S14 (call : Go.Fw.Call) (a0 a1 : AVal) (h : Heap) : Option J :=
 (AVal.cells? a0).bind fun c1 =>
 (AVal.cells? a1).bind fun c2 =>
 (rdL c1 11 1).bind fun c3 =>
 (fromCells false c3).bind fun v4 =>
 (rdL c2 11 1).bind fun c5 =>
 (fromCells false c5).bind fun v6 =>
 (call 29 [v4, v6] h).bind fun r7 =>
 (aUn .not r7.1).bind fun v8 =>
 (guardV v8 false
 ((rdL c1 12 1).bind fun c9 =>
 (fromCells false c9).bind fun v10 =>
 (rdL c2 12 1).bind fun c11 =>
 (fromCells false c11).bind fun v12 =>
 (call 30 [v10, v12] r7.2).bind fun r13 =>
 (aUn .not r13.1).bind fun v14 =>
 some (0, [v14], r13.2))
 (some (0, [skipV], r7.2))).bind fun g15 =>
 (aPick v8 (.bool true) (g15.2.1.getD 0 .undef)).bind fun v16 =>
 condV v16
 (some (0, [(.bool false)], g15.2.2))
 ((rdL c1 0 1).bind fun c17 =>
 (fromCells false c17).bind fun v18 =>
 (rdL c2 0 1).bind fun c19 =>
 (fromCells false c19).bind fun v20 =>
 (aBin .eql .plain v18 v20).bind fun v21 =>
 (guardV v21 true
 ((rdL c1 1 1).bind fun c22 =>
 (fromCells false c22).bind fun v23 =>
 (rdL c2 1 1).bind fun c24 =>
 (fromCells false c24).bind fun v25 =>
 (aBin .eql .plain v23 v25).bind fun v26 =>
 some (0, [v26], g15.2.2))
 (some (0, [skipV], g15.2.2))).bind fun g27 =>
 (aPick v21 (g27.2.1.getD 0 .undef) (.bool false)).bind fun v28 =>
 (guardV v28 true
 ((rdL c1 2 1).bind fun c29 =>
 (fromCells false c29).bind fun v30 =>
 (rdL c2 2 1).bind fun c31 =>
 (fromCells false c31).bind fun v32 =>
 (aBin .eql .plain v30 v32).bind fun v33 =>
 some (0, [v33], g27.2.2))
 (some (0, [skipV], g27.2.2))).bind fun g34 =>
 (aPick v28 (g34.2.1.getD 0 .undef) (.bool false)).bind fun v35 =>
 (guardV v35 true
 ((rdL c1 3 1).bind fun c36 =>
 (fromCells false c36).bind fun v37 =>
 (rdL c2 3 1).bind fun c38 =>
 (fromCells false c38).bind fun v39 =>
 (aBin .eql .plain v37 v39).bind fun v40 =>
 some (0, [v40], g34.2.2))
 (some (0, [skipV], g34.2.2))).bind fun g41 =>
 (aPick v35 (g41.2.1.getD 0 .undef) (.bool false)).bind fun v42 =>
 (guardV v42 true
 ((rdL c1 4 1).bind fun c43 =>
 (fromCells false c43).bind fun v44 =>
 (rdL c2 4 1).bind fun c45 =>
 (fromCells false c45).bind fun v46 =>
 (aBin .eql .plain v44 v46).bind fun v47 =>
 some (0, [v47], g41.2.2))
 (some (0, [skipV], g41.2.2))).bind fun g48 =>
 (aPick v42 (g48.2.1.getD 0 .undef) (.bool false)).bind fun v49 =>
 (guardV v49 true
 ((rdL c1 5 1).bind fun c50 =>
 (fromCells false c50).bind fun v51 =>
 (rdL c2 5 1).bind fun c52 =>
 (fromCells false c52).bind fun v53 =>
 (aBin .eql .plain v51 v53).bind fun v54 =>
 some (0, [v54], g48.2.2))
 (some (0, [skipV], g48.2.2))).bind fun g55 =>
 (aPick v49 (g55.2.1.getD 0 .undef) (.bool false)).bind fun v56 =>
 (guardV v56 true
 ((rdL c1 6 1).bind fun c57 =>
 (fromCells false c57).bind fun v58 =>
 (rdL c2 6 1).bind fun c59 =>
 (fromCells false c59).bind fun v60 =>
 (aBin .eql .plain v58 v60).bind fun v61 =>
 some (0, [v61], g55.2.2))
 (some (0, [skipV], g55.2.2))).bind fun g62 =>
 (aPick v56 (g62.2.1.getD 0 .undef) (.bool false)).bind fun v63 =>
 (guardV v63 true
 ((rdL c1 7 2).bind fun c64 =>
 (fromCells true c64).bind fun v65 =>
 (rdL c2 7 2).bind fun c66 =>
 (fromCells true c66).bind fun v67 =>
 (aBin .eql (.cells [2, 2]) v65 v67).bind fun v68 =>
 some (0, [v68], g62.2.2))
 (some (0, [skipV], g62.2.2))).bind fun g69 =>
 (aPick v63 (g69.2.1.getD 0 .undef) (.bool false)).bind fun v70 =>
 (guardV v70 true
 ((rdL c1 9 1).bind fun c71 =>
 (fromCells false c71).bind fun v72 =>
 (rdL c2 9 1).bind fun c73 =>
 (fromCells false c73).bind fun v74 =>
 (aBin .eql .bool v72 v74).bind fun v75 =>
 some (0, [v75], g69.2.2))
 (some (0, [skipV], g69.2.2))).bind fun g76 =>
 (aPick v70 (g76.2.1.getD 0 .undef) (.bool false)).bind fun v77 =>
 (guardV v77 true
 ((rdL c1 10 1).bind fun c78 =>
 (fromCells false c78).bind fun v79 =>
 (rdL c2 10 1).bind fun c80 =>
 (fromCells false c80).bind fun v81 =>
 (aBin .eql .plain v79 v81).bind fun v82 =>
 some (0, [v82], g76.2.2))
 (some (0, [skipV], g76.2.2))).bind fun g83 =>
 (aPick v77 (g83.2.1.getD 0 .undef) (.bool false)).bind fun v84 =>
 some (0, [v84], g83.2.2))
theorem run14 (call : Go.Fw.Call) (a0 a1 : AVal) (h : Heap) : runFn call (.code A14) [a0, a1] h = (S14 call a0 a1 h).bind ansOf := by kernel_rfl
noncomputable def A15 : AFunc := ⟨2, (.seq (.region [.op 0 (.box 2 true (.tmp 0)),
 .op 1 (.box 3 true (.tmp 1)),
 .op 2 (.mov 4 (.const (.bool false)))] [])
 (.seq (.region [.op 0 (.faddr 5 0 (.tmp 2)),
 .op 1 (.load 6 false 1 (.tmp 5)),
 .op 2 (.faddr 7 0 (.tmp 3)),
 .op 3 (.load 8 false 1 (.tmp 7)),
 .op 4 (.bin 9 .eql .plain (.tmp 6) (.tmp 8)),
 .op 5 (.mov 10 (.tmp 9)),
 .guard 10 true [.op 6 (.faddr 11 1 (.tmp 2)),
 .op 7 (.load 12 false 1 (.tmp 11)),
 .op 8 (.faddr 13 1 (.tmp 3)),
 .op 9 (.load 14 false 1 (.tmp 13)),
 .op 10 (.bin 15 .eql .plain (.tmp 12) (.tmp 14))] [] [15],
 .op 11 (.pick 16 (.tmp 10) (.tmp 15) (.const (.bool false))),
 .op 12 (.mov 17 (.tmp 16)),
 .guard 17 true [.op 13 (.faddr 18 2 (.tmp 2)),
 .op 14 (.load 19 false 1 (.tmp 18)),
 .op 15 (.faddr 20 2 (.tmp 3)),
 .op 16 (.load 21 false 1 (.tmp 20)),
 .op 17 (.bin 22 .eql .plain (.tmp 19) (.tmp 21))] [] [22],
 .op 18 (.pick 23 (.tmp 17) (.tmp 22) (.const (.bool false))),
 .op 19 (.mov 24 (.tmp 23)),
 .guard 24 true [.op 20 (.faddr 25 3 (.tmp 2)),
 .op 21 (.load 26 false 1 (.tmp 25)),
 .op 22 (.faddr 27 3 (.tmp 3)),
 .op 23 (.load 28 false 1 (.tmp 27)),
 .op 24 (.bin 29 .eql .plain (.tmp 26) (.tmp 28))] [] [29],
 .op 25 (.pick 30 (.tmp 24) (.tmp 29) (.const (.bool false))),
 .op 26 (.mov 31 (.tmp 30)),
 .guard 31 true [.op 27 (.faddr 32 4 (.tmp 2)),
 .op 28 (.load 33 false 1 (.tmp 32)),
 .op 29 (.faddr 34 4 (.tmp 3)),
 .op 30 (.load 35 false 1 (.tmp 34)),
 .op 31 (.bin 36 .eql .plain (.tmp 33) (.tmp 35))] [] [36],
 .op 32 (.pick 37 (.tmp 31) (.tmp 36) (.const (.bool false))),
 .op 33 (.mov 38 (.tmp 37)),
 .guard 38 true [.op 34 (.faddr 39 5 (.tmp 2)),
 .op 35 (.load 40 false 1 (.tmp 39)),
 .op 36 (.faddr 41 5 (.tmp 3)),
 .op 37 (.load 42 false 1 (.tmp 41)),
 .op 38 (.bin 43 .eql .plain (.tmp 40) (.tmp 42))] [] [43],
 .op 39 (.pick 44 (.tmp 38) (.tmp 43) (.const (.bool false))),
 .op 40 (.mov 45 (.tmp 44)),
 .guard 45 true [.op 41 (.faddr 46 6 (.tmp 2)),
 .op 42 (.load 47 false 1 (.tmp 46)),
 .op 43 (.faddr 48 6 (.tmp 3)),
 .op 44 (.load 49 false 1 (.tmp 48)),
 .op 45 (.bin 50 .eql .plain (.tmp 47) (.tmp 49))] [] [50],
 .op 46 (.pick 51 (.tmp 45) (.tmp 50) (.const (.bool false))),
 .op 47 (.mov 52 (.tmp 51)),
 .guard 52 true [.op 48 (.faddr 53 7 (.tmp 2)),
 .op 49 (.load 54 true 2 (.tmp 53)),
 .op 50 (.faddr 55 7 (.tmp 3)),
 .op 51 (.load 56 true 2 (.tmp 55)),
 .op 52 (.bin 57 .eql (.cells [2, 2]) (.tmp 54) (.tmp 56))] [] [57],
 .op 53 (.pick 58 (.tmp 52) (.tmp 57) (.const (.bool false))),
 .op 54 (.mov 59 (.tmp 58)),
 .guard 59 true [.op 55 (.faddr 60 9 (.tmp 2)),
 .op 56 (.load 61 false 1 (.tmp 60)),
 .op 57 (.faddr 62 9 (.tmp 3)),
 .op 58 (.load 63 false 1 (.tmp 62)),
 .op 59 (.bin 64 .eql .bool (.tmp 61) (.tmp 63))] [] [64],
 .op 60 (.pick 65 (.tmp 59) (.tmp 64) (.const (.bool false))),
 .op 61 (.mov 66 (.tmp 65)),
 .guard 66 true [.op 62 (.faddr 67 10 (.tmp 2)),
 .op 63 (.load 68 false 1 (.tmp 67)),
 .op 64 (.faddr 69 10 (.tmp 3)),
 .op 65 (.load 70 false 1 (.tmp 69)),
 .op 66 (.bin 71 .eql .plain (.tmp 68) (.tmp 70))] [] [71],
 .op 67 (.pick 72 (.tmp 66) (.tmp 71) (.const (.bool false))),
 .op 68 (.mov 73 (.tmp 72)),
 .guard 73 true [.op 69 (.faddr 74 11 (.tmp 2)),
 .op 70 (.load 75 false 1 (.tmp 74)),
 .op 71 (.faddr 76 11 (.tmp 3)),
 .op 72 (.load 77 false 1 (.tmp 76)),
 .op 73 (.call 78 31 [.tmp 75, .tmp 77])] [] [78],
 .op 74 (.pick 79 (.tmp 73) (.tmp 78) (.const (.bool false))),
 .op 75 (.mov 80 (.tmp 79)),
 .guard 80 true [.op 76 (.faddr 81 12 (.tmp 2)),
 .op 77 (.load 82 false 1 (.tmp 81)),
 .op 78 (.faddr 83 12 (.tmp 3)),
 .op 79 (.load 84 false 1 (.tmp 83)),
 .op 80 (.call 85 32 [.tmp 82, .tmp 84])] [] [85],
 .op 81 (.pick 86 (.tmp 80) (.tmp 85) (.const (.bool false))),
 .op 82 (.mov 4 (.tmp 86))] [])
 .ret)),
 [.tmp 4]⟩
theorem ok15 : funcOk Tryz.prog (drawOk Tryz.prog) Tryz.f15 A15 = true := by kernel_rfl
noncomputable def S15 (call : Go.Fw.Call) (a0 a1 : AVal) (h : Heap) : Option J :=
 (AVal.cells? a0).bind fun c1 =>
 (AVal.cells? a1).bind fun c2 =>
 (rdL c1 0 1).bind fun c3 =>
 (fromCells false c3).bind fun v4 =>
 (rdL c2 0 1).bind fun c5 =>
 (fromCells false c5).bind fun v6 =>
 (aBin .eql .plain v4 v6).bind fun v7 =>
 (guardV v7 true
 ((rdL c1 1 1).bind fun c8 =>
 (fromCells false c8).bind fun v9 =>
 (rdL c2 1 1).bind fun c10 =>
 (fromCells false c10).bind fun v11 =>
 (aBin .eql .plain v9 v11).bind fun v12 =>
 some (0, [v12], h))
 (some (0, [skipV], h))).bind fun g13 =>
 (aPick v7 (g13.2.1.getD 0 .undef) (.bool false)).bind fun v14 =>
 (guardV v14 true
 ((rdL c1 2 1).bind fun c15 =>
 (fromCells false c15).bind fun v16 =>
 (rdL c2 2 1).bind fun c17 =>
 (fromCells false c17).bind fun v18 =>
 (aBin .eql .plain v16 v18).bind fun v19 =>
 some (0, [v19], g13.2.2))
 (some (0, [skipV], g13.2.2))).bind fun g20 =>
 (aPick v14 (g20.2.1.getD 0 .undef) (.bool false)).bind fun v21 =>
 (guardV v21 true
 ((rdL c1 3 1).bind fun c22 =>
 (fromCells false c22).bind fun v23 =>
 (rdL c2 3 1).bind fun c24 =>
 (fromCells false c24).bind fun v25 =>
 (aBin .eql .plain v23 v25).bind fun v26 =>
 some (0, [v26], g20.2.2))
 (some (0, [skipV], g20.2.2))).bind fun g27 =>
 (aPick v21 (g27.2.1.getD 0 .undef) (.bool false)).bind fun v28 =>
 (guardV v28 true
 ((rdL c1 4 1).bind fun c29 =>
 (fromCells false c29).bind fun v30 =>
 (rdL c2 4 1).bind fun c31 =>
 (fromCells false c31).bind fun v32 =>
 (aBin .eql .plain v30 v32).bind fun v33 =>
 some (0, [v33], g27.2.2))
 (some (0, [skipV], g27.2.2))).bind fun g34 =>
 (aPick v28 (g34.2.1.getD 0 .undef) (.bool false)).bind fun v35 =>
 (guardV v35 true
 ((rdL c1 5 1).bind fun c36 =>
 (fromCells false c36).bind fun v37 =>
 (rdL c2 5 1).bind fun c38 =>
 (fromCells false c38).bind fun v39 =>
 (aBin .eql .plain v37 v39).bind fun v40 =>
 some (0, [v40], g34.2.2))
 (some (0, [skipV], g34.2.2))).bind fun g41 =>
 (aPick v35 (g41.2.1.getD 0 .undef) (.bool false)).bind fun v42 =>
 (guardV v42 true
 ((rdL c1 6 1).bind fun c43 =>
 (fromCells false c43).bind fun v44 =>
 (rdL c2 6 1).bind fun c45 =>
 (fromCells false c45).bind fun v46 =>
 (aBin .eql .plain v44 v46).bind fun v47 =>
 some (0, [v47], g41.2.2))
 (some (0, [skipV], g41.2.2))).bind fun g48 =>
 (aPick v42 (g48.2.1.getD 0 .undef) (.bool false)).bind fun v49 =>
 (guardV v49 true
 ((rdL c1 7 2).bind fun c50 =>
 (fromCells true c50).bind fun v51 =>
 (rdL c2 7 2).bind fun c52 =>
 (fromCells true c52).bind fun v53 =>
 (aBin .eql (.cells [2, 2]) v51 v53).bind fun v54 =>
 some (0, [v54], g48.2.2))
 (some (0, [skipV], g48.2.2))).bind fun g55 =>
 (aPick v49 (g55.2.1.getD 0 .undef) (.bool false)).bind fun v56 =>
 (guardV v56 true
 ((rdL c1 9 1).bind fun c57 =>
 (fromCells false c57).bind fun v58 =>
 (rdL c2 9 1).bind fun c59 =>
 (fromCells false c59).bind fun v60 =>
 (aBin .eql .bool v58 v60).bind fun v61 =>
 some (0, [v61], g55.2.2))
 (some (0, [skipV], g55.2.2))).bind fun g62 =>
 (aPick v56 (g62.2.1.getD 0 .undef) (.bool false)).bind fun v63 =>
 (guardV v63 true
 ((rdL c1 10 1).bind fun c64 =>
 (fromCells false c64).bind fun v65 =>
 (rdL c2 10 1).bind fun c66 =>
 (fromCells false c66).bind fun v67 =>
 (aBin .eql .plain v65 v67).bind fun v68 =>
 some (0, [v68], g62.2.2))
 (some (0, [skipV], g62.2.2))).bind fun g69 =>
 (aPick v63 (g69.2.1.getD 0 .undef) (.bool false)).bind fun v70 =>
 (guardV v70 true
 ((rdL c1 11 1).bind fun c71 =>
 (fromCells false c71).bind fun v72 =>
 (rdL c2 11 1).bind fun c73 =>
 (fromCells false c73).bind fun v74 =>
 (call 31 [v72, v74] g69.2.2).bind fun r75 =>
 some (0, [r75.1], r75.2))
 (some (0, [skipV], g69.2.2))).bind fun g76 =>
 (aPick v70 (g76.2.1.getD 0 .undef) (.bool false)).bind fun v77 =>
 (guardV v77 true
 ((rdL c1 12 1).bind fun c78 =>
 (fromCells false c78).bind fun v79 =>
 (rdL c2 12 1).bind fun c80 =>
 (fromCells false c80).bind fun v81 =>
 (call 32 [v79, v81] g76.2.2).bind fun r82 =>
 some (0, [r82.1], r82.2))
 (some (0, [skipV], g76.2.2))).bind fun g83 =>
 (aPick v77 (g83.2.1.getD 0 .undef) (.bool false)).bind fun v84 =>
 some (0, [v84], g83.2.2)
theorem run15 (call : Go.Fw.Call) (a0 a1 : AVal) (h : Heap) : runFn call (.code A15) [a0, a1] h = (S15 call a0 a1 h).bind ansOf := by kernel_rfl
noncomputable def A16 : AFunc := ⟨2, (.seq (.region [.op 0 (.mov 4 (.const (.int .i64 0)))] [])
 (.seq (.seq (.region [.op 0 (.mov 5 (.tmp 0)),
 .op 1 (.nilchk 6 (.tmp 5)),
 .op 2 (.faddr 7 1 (.tmp 6)),
 .op 3 (.load 8 false 1 (.tmp 7)),
 .op 4 (.mov 9 (.tmp 0)),
 .op 5 (.nilchk 10 (.tmp 9)),
 .op 6 (.faddr 11 0 (.tmp 10)),
 .op 7 (.load 12 false 1 (.tmp 11)),
 .op 8 (.len 13 false (.tmp 12)),
 .op 9 (.bin 14 .geq .plain (.tmp 8) (.tmp 13)),
 .op 10 (.mov 15 (.tmp 14)),
 .guard 15 false [.op 11 (.mov 16 (.tmp 1)),
 .op 12 (.bin 17 .lss .plain (.tmp 16) (.const (.int .i64 1)))] [] [17],
 .op 13 (.pick 18 (.tmp 15) (.const (.bool true)) (.tmp 17))] [])
 (.cond (.tmp 18)
 (.seq (.region [.op 0 (.mov 4 (.const (.int .i64 0)))] [])
 .ret)
 .skip))
 (.seq (.region [.op 0 (.mov 19 (.tmp 0)),
 .op 1 (.nilchk 20 (.tmp 19)),
 .op 2 (.faddr 21 1 (.tmp 20)),
 .op 3 (.load 22 false 1 (.tmp 21)),
 .op 4 (.bin 23 .add .plain (.tmp 22) (.const (.int .i64 1))),
 .op 5 (.nilchk 24 (.tmp 19)),
 .op 6 (.faddr 25 1 (.tmp 24)),
 .op 7 (.store false 1 (.tmp 25) (.tmp 23))] [])
 (.seq (.region [.op 0 (.mov 26 (.tmp 0)),
 .op 1 (.nilchk 27 (.tmp 26)),
 .op 2 (.faddr 28 0 (.tmp 27)),
 .op 3 (.load 29 false 1 (.tmp 28)),
 .op 4 (.mov 30 (.tmp 0)),
 .op 5 (.nilchk 31 (.tmp 30)),
 .op 6 (.faddr 32 1 (.tmp 31)),
 .op 7 (.load 33 false 1 (.tmp 32)),
 .op 8 (.bin 34 .sub .plain (.tmp 33) (.const (.int .i64 1))),
 .op 9 (.iaddr 35 none 1 (.tmp 29) (.tmp 34)),
 .op 10 (.load 36 false 1 (.tmp 35)),
 .op 11 (.call 37 13 [.tmp 36, .const (.int .i64 0), .const (.int .i64 1073741824)]),
 .op 12 (.mov 38 (.tmp 1)),
 .op 13 (.bin 39 .rem .plain (.tmp 37) (.tmp 38)),
 .op 14 (.mov 4 (.tmp 39))] [])
 .ret)))),
 [.tmp 4]⟩
theorem ok16 : funcOk Tryz.prog (drawOk Tryz.prog) Tryz.f16 A16 = true := by kernel_rfl
noncomputable def S16 (call : Go.Fw.Call) (a0 a1 : AVal) (h : Heap) : Option J :=
 (aNilchk a0).bind fun v1 =>
 (aFaddr 1 v1).bind fun v2 =>
 (aLoad h 1 v2).bind fun c3 =>
 (fromCells false c3).bind fun v4 =>
 (aNilchk a0).bind fun v5 =>
 (aFaddr 0 v5).bind fun v6 =>
 (aLoad h 1 v6).bind fun c7 =>
 (fromCells false c7).bind fun v8 =>
 (aLen false v8).bind fun v9 =>
 (aBin .geq .plain v4 v9).bind fun v10 =>
 (guardV v10 false
 ((aBin .lss .plain a1 (.int .i64 1)).bind fun v11 =>
 some (0, [v11], h))
 (some (0, [skipV], h))).bind fun g12 =>
 (aPick v10 (.bool true) (g12.2.1.getD 0 .undef)).bind fun v13 =>
 condV v13
 (some (0, [(.int .i64 0)], g12.2.2))
 ((aNilchk a0).bind fun v14 =>
 (aFaddr 1 v14).bind fun v15 =>
 (aLoad g12.2.2 1 v15).bind fun c16 =>
 (fromCells false c16).bind fun v17 =>
 (aBin .add .plain v17 (.int .i64 1)).bind fun v18 =>
 (aNilchk a0).bind fun v19 =>
 (aFaddr 1 v19).bind fun v20 =>
 (aCells 1 v18).bind fun c21 =>
 (aStore g12.2.2 v20 c21).bind fun h22 =>
 (aNilchk a0).bind fun v23 =>
 (aFaddr 0 v23).bind fun v24 =>
 (aLoad h22 1 v24).bind fun c25 =>
 (fromCells false c25).bind fun v26 =>
 (aNilchk a0).bind fun v27 =>
 (aFaddr 1 v27).bind fun v28 =>
 (aLoad h22 1 v28).bind fun c29 =>
 (fromCells false c29).bind fun v30 =>
 (aBin .sub .plain v30 (.int .i64 1)).bind fun v31 =>
 (aIaddr 1 v26 v31).bind fun v32 =>
 (aLoad h22 1 v32).bind fun c33 =>
 (fromCells false c33).bind fun v34 =>
 (call 13 [v34, (.int .i64 0), (.int .i64 1073741824)] h22).bind fun r35 =>
 (aBin .rem .plain r35.1 a1).bind fun v36 =>
 some (0, [v36], r35.2))
theorem run16 (call : Go.Fw.Call) (a0 a1 : AVal) (h : Heap) : runFn call (.code A16) [a0, a1] h = (S16 call a0 a1 h).bind ansOf := by kernel_rfl
noncomputable def A17 : AFunc := ⟨1, (.seq (.region [.op 0 (.alloc 2 true [.str [], .str []])] [])
 (.seq (.regionF 2 [.op 0 (.fl 3 0 (some (1, 4)) [.str []] [(0, .const (.str [97, 112, 112])), (1, .const (.str [98])), (2, .const (.str [97, 112, 112, 49])), (3, .const (.str [122, 57]))]),
 .op 1 (.mov 4 (.tmp 0)),
 .op 2 (.call 5 16 [.tmp 4, .const (.int .i64 4)]),
 .op 3 (.iaddr 6 none 1 (.tmp 3) (.tmp 5)),
 .op 4 (.load 7 false 1 (.tmp 6)),
 .op 5 (.fl 8 1 (some (1, 5)) [.str []] [(0, .const (.str [105, 100])), (1, .const (.str [97])), (2, .const (.str [105, 100, 50])), (3, .const (.str [120, 48])), (4, .const (.str [109]))]),
 .op 6 (.mov 9 (.tmp 0)),
 .op 7 (.call 10 16 [.tmp 9, .const (.int .i64 5)]),
 .op 8 (.iaddr 11 none 1 (.tmp 8) (.tmp 10)),
 .op 9 (.load 12 false 1 (.tmp 11)),
 .op 10 (.build 13 [.str [], .str []] [(0, 1, .tmp 7), (1, 1, .tmp 12)]),
 .op 11 (.store true 2 (.tmp 2) (.tmp 13))] [(4, 7)])
 .ret)),
 [.cell 2 true 2]⟩
theorem ok17 : funcOk Tryz.prog (drawOk Tryz.prog) Tryz.f17 A17 = true := by kernel_rfl
noncomputable def S17 (call : Go.Fw.Call) (a0 : AVal) (h : Heap) : Option J :=
 (aFill (reps [.str []] 4) [(0, 1, (.str [97, 112, 112])), (1, 1, (.str [98])), (2, 1, (.str [97, 112, 112, 49])), (3, 1, (.str [122, 57]))]).bind fun c1 =>
 (call 16 [a0, (.int .i64 4)] ((h.res 2).setBlk (h.next + 0) (some ⟨c1, true⟩))).bind fun r2 =>
 (aIaddr 1 (.slice (h.next + 0) 0 4 4 1 true) r2.1).bind fun v3 =>
 (aLoad r2.2 1 v3).bind fun c4 =>
 (fromCells false c4).bind fun v5 =>
 (aFill (reps [.str []] 5) [(0, 1, (.str [105, 100])), (1, 1, (.str [97])), (2, 1, (.str [105, 100, 50])), (3, 1, (.str [120, 48])), (4, 1, (.str [109]))]).bind fun c6 =>
 (call 16 [a0, (.int .i64 5)] (r2.2.setBlk (h.next + 1) (some ⟨c6, true⟩))).bind fun r7 =>
 (aIaddr 1 (.slice (h.next + 1) 0 5 5 1 true) r7.1).bind fun v8 =>
 (aLoad r7.2 1 v8).bind fun c9 =>
 (fromCells false c9).bind fun v10 =>
 (aFill [.str [], .str []] [(0, 1, v5), (1, 1, v10)]).bind fun c11 =>
 (aCells 2 (.agg c11)).bind fun c12 =>
 bif Nat.ble ((0) + 2) (List.length (α := AVal) [.str [], .str []]) then bif checkPairs [(7, some (.ef [(2, [.str [], .str []])] (r2.2.setBlk (h.next + 1) (some ⟨c6, true⟩)) [(2, [.str [], .str []])] r7.2)), (4, logRd v3 1)] [(4, 7)] then (((rdL (splice [.str [], .str []] (0) c12) (0) 2).bind fun cs => fromCells true cs).bind fun v => (some []).bind fun vs => some (v :: vs)).bind fun vs => some (0, [oneOr vs], r7.2) else none else none
theorem run17 (call : Go.Fw.Call) (a0 : AVal) (h : Heap) : runFn call (.code A17) [a0] h = (S17 call a0 h).bind ansOf := by kernel_rfl
noncomputable def A18 : AFunc := ⟨2, (.seq (.region [.op 0 (.mov 4 (.const (.nilSlice)))] [])
 (.seq (.region [.op 0 (.mov 5 (.const (.nilSlice)))] [])
 (.seq (.seq (.region [.op 0 (.mov 7 (.tmp 0)),
 .op 1 (.mov 8 (.tmp 1)),
 .op 2 (.bin 9 .add .plain (.tmp 8) (.const (.int .i64 1))),
 .op 3 (.call 10 16 [.tmp 7, .tmp 9]),
 .op 4 (.mov 6 (.tmp 10))] [])
 (.block 0 (.loop ⟨[0, 5, 6], []⟩ [((.exit 0), ⟨[5], []⟩)]
 (.seq (.seq (.region [.op 0 (.mov 11 (.tmp 6)),
 .op 1 (.bin 12 .gtr .plain (.tmp 11) (.const (.int .i64 0)))] [])
 (.cond (.tmp 12)
 .skip
 (.exit 0)))
 (.seq (.block 1 (.region [.op 0 (.mov 15 (.tmp 5)),
 .op 1 (.mov 16 (.tmp 0)),
 .op 2 (.call 17 33 [.tmp 16]),
 .op 3 (.buildSl 18 cz 9 1 [(0, .tmp 17)]),
 .op 4 (.append 19 9 88 cz false (.tmp 15) (.tmp 18)),
 .op 5 (.mov 5 (.tmp 19))] []))
 (.region [.op 0 (.mov 13 (.tmp 6)),
 .op 1 (.bin 14 .sub .plain (.tmp 13) (.const (.int .i64 1))),
 .op 2 (.mov 6 (.tmp 14))] []))))))
 (.seq (.region [.op 0 (.mov 20 (.tmp 5)),
 .op 1 (.mov 4 (.tmp 20))] [])
 .ret)))),
 [.tmp 4]⟩
theorem ok18 : funcOk Tryz.prog (drawOk Tryz.prog) Tryz.f18 A18 = true := by kernel_rfl
noncomputable def L18_0 (call : Go.Fw.Call) (xs : List AVal) (h : Heap) : Option J :=
 (aBin .gtr .plain (xs.getD 2 .undef) (.int .i64 0)).bind fun v3 =>
 condV v3
 ((call 33 [(xs.getD 0 .undef)] h).bind fun r4 =>
 (aFill (reps [.str [], .str [], .int .i64 0, .int .i64 0, .int .i64 0, .int .i64 0, .int .i64 0, .int .i64 0, .bool false] 1) [(0, 9, r4.1)]).bind fun c5 =>
 (aAppend 9 88 [.str [], .str [], .int .i64 0, .int .i64 0, .int .i64 0, .int .i64 0, .int .i64 0, .int .i64 0, .bool false] false (xs.getD 1 .undef) (.slice r4.2.next 0 1 1 9 true) (r4.2.alloc c5)).bind fun r6 =>
 (aBin .sub .plain (xs.getD 2 .undef) (.int .i64 1)).bind fun v7 =>
 some (0, [(xs.getD 0 .undef), r6.1, v7], r6.2))
 (some (1, [(xs.getD 1 .undef)], h))
noncomputable def S18 (call : Go.Fw.Call) (a0 a1 : AVal) (h : Heap) : Option J :=
 (aBin .add .plain a1 (.int .i64 1)).bind fun v1 =>
 (call 16 [a0, v1] h).bind fun r2 =>
 (loop (L18_0 call) [a0, (.nilSlice), r2.1] r2.2).bind fun x8 =>
 bif Nat.beq x8.1 1 then some (0, [(x8.2.1.getD 0 .undef)], x8.2.2) else
 none
theorem run18 (call : Go.Fw.Call) (a0 a1 : AVal) (h : Heap) : runFn call (.code A18) [a0, a1] h = (S18 call a0 a1 h).bind ansOf := by kernel_rfl
noncomputable def A19 : AFunc := ⟨1, (.seq (.region [.op 0 (.box 1 true (.tmp 0)),
 .op 1 (.mov 2 (.const (.str []))),
 .op 2 (.mov 3 (.const (.int .i64 0)))] [])
 (.seq (.seq (.region [.op 0 (.faddr 9 0 (.tmp 1)),
 .op 1 (.load 10 false 1 (.tmp 9)),
 .op 2 (.bin 11 .lss .plain (.tmp 10) (.const (.int .i64 1))),
 .op 3 (.mov 12 (.tmp 11)),
 .guard 12 false [.op 4 (.faddr 13 0 (.tmp 1)),
 .op 5 (.load 14 false 1 (.tmp 13)),
 .op 6 (.bin 15 .gtr .plain (.tmp 14) (.const (.int .i64 5)))] [] [15],
 .op 7 (.pick 16 (.tmp 12) (.const (.bool true)) (.tmp 15))] [])
 (.cond (.tmp 16)
 (.seq (.region [.op 0 (.mov 2 (.const (.str [107, 105, 110, 100]))),
 .op 1 (.mov 3 (.const (.int .i64 12)))] [])
 .ret)
 .skip))
 (.seq (.seq (.region [.op 0 (.load 17 true 13 (.tmp 1)),
 .op 1 (.call 18 34 [.tmp 17]),
 .op 2 (.un 19 .not (.tmp 18))] [])
 (.cond (.tmp 19)
 (.seq (.region [.op 0 (.mov 2 (.const (.str [122, 101, 114, 111]))),
 .op 1 (.mov 3 (.const (.int .i64 12)))] [])
 .ret)
 .skip))
 (.seq (.seq (.region [.op 0 (.faddr 20 0 (.tmp 1)),
 .op 1 (.load 21 false 1 (.tmp 20)),
 .op 2 (.bin 22 .eql .plain (.tmp 21) (.const (.int .i64 1))),
 .op 3 (.mov 23 (.tmp 22)),
 .guard 23 false [.op 4 (.faddr 24 0 (.tmp 1)),
 .op 5 (.load 25 false 1 (.tmp 24)),
 .op 6 (.bin 26 .eql .plain (.tmp 25) (.const (.int .i64 2)))] [] [26],
 .op 7 (.pick 27 (.tmp 23) (.const (.bool true)) (.tmp 26))] [])
 (.join [(.ret, ⟨[2, 3], []⟩), (.normal, ⟨[], [1]⟩)] (.cond (.tmp 27)
 (.seq (.region [.op 0 (.faddr 28 7 (.tmp 1)),
 .op 1 (.faddr 29 0 (.tmp 28)),
 .op 2 (.load 30 false 1 (.tmp 29)),
 .op 3 (.bin 31 .eql .plain (.tmp 30) (.const (.str []))),
 .op 4 (.mov 32 (.tmp 31)),
 .guard 32 true [.op 5 (.faddr 33 7 (.tmp 1)),
 .op 6 (.faddr 34 1 (.tmp 33)),
 .op 7 (.load 35 false 1 (.tmp 34)),
 .op 8 (.bin 36 .eql .plain (.tmp 35) (.const (.str [])))] [] [36],
 .op 9 (.pick 37 (.tmp 32) (.tmp 36) (.const (.bool false))),
 .op 10 (.mov 4 (.tmp 37))] [])
 (.seq (.region [.op 0 (.faddr 38 1 (.tmp 1)),
 .op 1 (.load 39 false 1 (.tmp 38)),
 .op 2 (.bin 40 .lss .plain (.tmp 39) (.const (.int .i64 1))),
 .op 3 (.mov 41 (.tmp 40)),
 .guard 41 false [.op 4 (.faddr 42 1 (.tmp 1)),
 .op 5 (.load 43 false 1 (.tmp 42)),
 .op 6 (.bin 44 .gtr .plain (.tmp 43) (.const (.int .i64 5)))] [] [44],
 .op 7 (.pick 45 (.tmp 41) (.const (.bool true)) (.tmp 44)),
 .op 8 (.mov 46 (.tmp 45)),
 .guard 46 false [.op 9 (.faddr 47 1 (.tmp 1)),
 .op 10 (.load 48 false 1 (.tmp 47)),
 .op 11 (.bin 49 .eql .plain (.tmp 48) (.const (.int .i64 5))),
 .op 12 (.mov 50 (.tmp 49)),
 .guard 50 true [.op 13 (.mov 51 (.tmp 4)),
 .op 14 (.un 52 .not (.tmp 51))] [] [52],
 .op 15 (.pick 53 (.tmp 50) (.tmp 52) (.const (.bool false)))] [] [53],
 .op 16 (.pick 54 (.tmp 46) (.const (.bool true)) (.tmp 53)),
 .op 17 (.mov 55 (.tmp 54)),
 .guard 55 false [.op 18 (.faddr 56 1 (.tmp 1)),
 .op 19 (.load 57 false 1 (.tmp 56)),
 .op 20 (.bin 58 .neq .plain (.tmp 57) (.const (.int .i64 5))),
 .op 21 (.mov 59 (.tmp 58)),
 .guard 59 true [.op 22 (.faddr 60 7 (.tmp 1)),
 .op 23 (.load 61 true 2 (.tmp 60)),
 .op 24 (.call 62 35 [.tmp 61]),
 .op 25 (.un 63 .not (.tmp 62))] [] [63],
 .op 26 (.pick 64 (.tmp 59) (.tmp 63) (.const (.bool false)))] [] [64],
 .op 27 (.pick 65 (.tmp 55) (.const (.bool true)) (.tmp 64))] [])
 (.cond (.tmp 65)
 (.seq (.region [.op 0 (.mov 2 (.const (.str [111, 112]))),
 .op 1 (.mov 3 (.const (.int .i64 12)))] [])
 .ret)
 .skip)))
 .skip)))
 (.seq (.seq (.region [.op 0 (.faddr 66 3 (.tmp 1)),
 .op 1 (.load 67 false 1 (.tmp 66)),
 .op 2 (.bin 68 .lss .plain (.tmp 67) (.const (.int .i64 0))),
 .op 3 (.mov 69 (.tmp 68)),
 .guard 69 false [.op 4 (.faddr 70 3 (.tmp 1)),
 .op 5 (.load 71 false 1 (.tmp 70)),
 .op 6 (.bin 72 .gtr .plain (.tmp 71) (.const (.int .i64 255)))] [] [72],
 .op 7 (.pick 73 (.tmp 69) (.const (.bool true)) (.tmp 72)),
 .op 8 (.mov 74 (.tmp 73)),
 .guard 74 false [.op 9 (.faddr 75 2 (.tmp 1)),
 .op 10 (.load 76 false 1 (.tmp 75)),
 .op 11 (.bin 77 .lss .plain (.tmp 76) (.const (.int .i64 0)))] [] [77],
 .op 12 (.pick 78 (.tmp 74) (.const (.bool true)) (.tmp 77)),
 .op 13 (.mov 79 (.tmp 78)),
 .guard 79 false [.op 14 (.faddr 80 2 (.tmp 1)),
 .op 15 (.load 81 false 1 (.tmp 80)),
 .op 16 (.bin 82 .gtr .plain (.tmp 81) (.const (.int .i64 255)))] [] [82],
 .op 17 (.pick 83 (.tmp 79) (.const (.bool true)) (.tmp 82)),
 .op 18 (.mov 84 (.tmp 83)),
 .guard 84 false [.op 19 (.faddr 85 6 (.tmp 1)),
 .op 20 (.load 86 false 1 (.tmp 85)),
 .op 21 (.bin 87 .lss .plain (.tmp 86) (.const (.int .i64 (-1))))] [] [87],
 .op 22 (.pick 88 (.tmp 84) (.const (.bool true)) (.tmp 87))] [])
 (.cond (.tmp 88)
 (.seq (.region [.op 0 (.mov 2 (.const (.str [110, 117, 109, 98, 101, 114]))),
 .op 1 (.mov 3 (.const (.int .i64 1)))] [])
 .ret)
 .skip))
 (.seq (.seq (.region [.op 0 (.faddr 89 11 (.tmp 1)),
 .op 1 (.load 90 false 1 (.tmp 89)),
 .op 2 (.len 91 false (.tmp 90)),
 .op 3 (.bin 92 .gtr .plain (.tmp 91) (.const (.int .i64 64))),
 .op 4 (.mov 93 (.tmp 92)),
 .guard 93 false [.op 5 (.faddr 94 12 (.tmp 1)),
 .op 6 (.load 95 false 1 (.tmp 94)),
 .op 7 (.len 96 false (.tmp 95)),
 .op 8 (.bin 97 .gtr .plain (.tmp 96) (.const (.int .i64 64)))] [] [97],
 .op 9 (.pick 98 (.tmp 93) (.const (.bool true)) (.tmp 97))] [])
 (.cond (.tmp 98)
 (.seq (.region [.op 0 (.mov 2 (.const (.str [99, 97, 114, 100, 115]))),
 .op 1 (.mov 3 (.const (.int .i64 3)))] [])
 .ret)
 .skip))
 (.seq (.seq (.region [.op 0 (.faddr 99 11 (.tmp 1)),
 .op 1 (.load 100 false 1 (.tmp 99)),
 .op 2 (.len 101 false (.tmp 100)),
 .op 3 (.mov 102 (.const (.int .i64 0)))] [])
 (.block 0 (.loop ⟨[100, 101, 102], [1]⟩ [((.exit 0), ⟨[], [1]⟩), (.ret, ⟨[2, 3], []⟩)]
 (.seq (.region [.op 0 (.bin 103 .lss .plain (.tmp 102) (.tmp 101))] [])
 (.seq (.cond (.tmp 103)
 .skip
 (.exit 0))
 (.seq (.block 1 (.seq (.region [.op 0 (.iaddr 104 none 9 (.tmp 100) (.tmp 102)),
 .op 1 (.load 105 true 9 (.tmp 104)),
 .op 2 (.alloc 6 true cz),
 .op 3 (.store true 9 (.tmp 6) (.tmp 105))] [])
 (.seq (.region [.op 0 (.load 106 true 9 (.tmp 6)),
 .op 1 (.call 107 36 [.tmp 106]),
 .op 2 (.un 108 .not (.tmp 107))] [])
 (.cond (.tmp 108)
 (.seq (.region [.op 0 (.mov 2 (.const (.str [99, 97, 114, 100]))),
 .op 1 (.mov 3 (.const (.int .i64 1)))] [])
 .ret)
 .skip))))
 (.region [.op 0 (.bin 109 .add .plain (.tmp 102) (.const (.int .i64 1))),
 .op 1 (.mov 102 (.tmp 109))] [])))))))
 (.seq (.seq (.region [.op 0 (.faddr 110 12 (.tmp 1)),
 .op 1 (.load 111 false 1 (.tmp 110)),
 .op 2 (.len 112 false (.tmp 111)),
 .op 3 (.mov 113 (.const (.int .i64 0)))] [])
 (.block 2 (.loop ⟨[111, 112, 113], []⟩ [((.exit 2), ⟨[], []⟩), (.ret, ⟨[2, 3], []⟩)]
 (.seq (.region [.op 0 (.bin 114 .lss .plain (.tmp 113) (.tmp 112))] [])
 (.seq (.cond (.tmp 114)
 .skip
 (.exit 2))
 (.seq (.block 3 (.seq (.region [.op 0 (.iaddr 115 none 2 (.tmp 111) (.tmp 113)),
 .op 1 (.load 116 true 2 (.tmp 115)),
 .op 2 (.alloc 8 true [.str [], .str []]),
 .op 3 (.store true 2 (.tmp 8) (.tmp 116))] [])
 (.seq (.region [.op 0 (.load 117 true 2 (.tmp 8)),
 .op 1 (.call 118 35 [.tmp 117]),
 .op 2 (.un 119 .not (.tmp 118))] [])
 (.cond (.tmp 119)
 (.seq (.region [.op 0 (.mov 2 (.const (.str [99, 97, 114, 100]))),
 .op 1 (.mov 3 (.const (.int .i64 1)))] [])
 .ret)
 .skip))))
 (.region [.op 0 (.bin 120 .add .plain (.tmp 113) (.const (.int .i64 1))),
 .op 1 (.mov 113 (.tmp 120))] [])))))))
 (.seq (.region [.op 0 (.mov 2 (.const (.str []))),
 .op 1 (.mov 3 (.const (.int .i64 0)))] [])
 .ret))))))))),
 [.tmp 2, .tmp 3]⟩
theorem ok19 : funcOk Tryz.prog (drawOk Tryz.prog) Tryz.f19 A19 = true := by kernel_rfl
noncomputable def L19_0 (call : Go.Fw.Call) (xs : List AVal) (h : Heap) : Option J :=
 (aBin .lss .plain (xs.getD 2 .undef) (xs.getD 1 .undef)).bind fun v94 =>
 condV v94
 ((aIaddr 9 (xs.getD 0 .undef) (xs.getD 2 .undef)).bind fun v95 =>
 (aLoad h 9 v95).bind fun c96 =>
 (fromCells true c96).bind fun v97 =>
 (aCells 9 v97).bind fun c98 =>
 bif Nat.ble ((0) + 9) (List.length (α := AVal) [.str [], .str [], .int .i64 0, .int .i64 0, .int .i64 0, .int .i64 0, .int .i64 0, .int .i64 0, .bool false]) then (rdL (splice [.str [], .str [], .int .i64 0, .int .i64 0, .int .i64 0, .int .i64 0, .int .i64 0, .int .i64 0, .bool false] (0) c98) 0 9).bind fun c99 =>
 (fromCells true c99).bind fun v100 =>
 (call 36 [v100] h).bind fun r101 =>
 (aUn .not r101.1).bind fun v102 =>
 condV v102
 (some (2, [(.str [99, 97, 114, 100]), (.int .i64 1)], r101.2))
 ((aBin .add .plain (xs.getD 2 .undef) (.int .i64 1)).bind fun v103 =>
 some (0, [(xs.getD 0 .undef), (xs.getD 1 .undef), v103, (.agg (AVal.aggCells (xs.getD 3 .undef)))], r101.2)) else none)
 (some (1, [(.agg (AVal.aggCells (xs.getD 3 .undef)))], h))
noncomputable def L19_1 (call : Go.Fw.Call) (xs : List AVal) (h : Heap) : Option J :=
 (aBin .lss .plain (xs.getD 2 .undef) (xs.getD 1 .undef)).bind fun v108 =>
 condV v108
 ((aIaddr 2 (xs.getD 0 .undef) (xs.getD 2 .undef)).bind fun v109 =>
 (aLoad h 2 v109).bind fun c110 =>
 (fromCells true c110).bind fun v111 =>
 (aCells 2 v111).bind fun c112 =>
 bif Nat.ble ((0) + 2) (List.length (α := AVal) [.str [], .str []]) then (rdL (splice [.str [], .str []] (0) c112) 0 2).bind fun c113 =>
 (fromCells true c113).bind fun v114 =>
 (call 35 [v114] h).bind fun r115 =>
 (aUn .not r115.1).bind fun v116 =>
 condV v116
 (some (2, [(.str [99, 97, 114, 100]), (.int .i64 1)], r115.2))
 ((aBin .add .plain (xs.getD 2 .undef) (.int .i64 1)).bind fun v117 =>
 some (0, [(xs.getD 0 .undef), (xs.getD 1 .undef), v117], r115.2)) else none)
 (some (1, [], h))
noncomputable def S19 (call : Go.Fw.Call) (a0 : AVal) (h : Heap) : Option J :=
 (AVal.cells? a0).bind fun c1 =>
 (rdL c1 0 1).bind fun c2 =>
 (fromCells false c2).bind fun v3 =>
 (aBin .lss .plain v3 (.int .i64 1)).bind fun v4 =>
 (guardV v4 false
 ((rdL c1 0 1).bind fun c5 =>
 (fromCells false c5).bind fun v6 =>
 (aBin .gtr .plain v6 (.int .i64 5)).bind fun v7 =>
 some (0, [v7], h))
 (some (0, [skipV], h))).bind fun g8 =>
 (aPick v4 (.bool true) (g8.2.1.getD 0 .undef)).bind fun v9 =>
 condV v9
 (some (0, [.tuple [(.str [107, 105, 110, 100]), (.int .i64 12)]], g8.2.2))
 ((rdL c1 0 13).bind fun c10 =>
 (fromCells true c10).bind fun v11 =>
 (call 34 [v11] g8.2.2).bind fun r12 =>
 (aUn .not r12.1).bind fun v13 =>
 condV v13
 (some (0, [.tuple [(.str [122, 101, 114, 111]), (.int .i64 12)]], r12.2))
 ((rdL c1 0 1).bind fun c14 =>
 (fromCells false c14).bind fun v15 =>
 (aBin .eql .plain v15 (.int .i64 1)).bind fun v16 =>
 (guardV v16 false
 ((rdL c1 0 1).bind fun c17 =>
 (fromCells false c17).bind fun v18 =>
 (aBin .eql .plain v18 (.int .i64 2)).bind fun v19 =>
 some (0, [v19], r12.2))
 (some (0, [skipV], r12.2))).bind fun g20 =>
 (aPick v16 (.bool true) (g20.2.1.getD 0 .undef)).bind fun v21 =>
 (condV v21
 ((rdL c1 7 1).bind fun c22 =>
 (fromCells false c22).bind fun v23 =>
 (aBin .eql .plain v23 (.str [])).bind fun v24 =>
 (guardV v24 true
 ((rdL c1 8 1).bind fun c25 =>
 (fromCells false c25).bind fun v26 =>
 (aBin .eql .plain v26 (.str [])).bind fun v27 =>
 some (0, [v27], g20.2.2))
 (some (0, [skipV], g20.2.2))).bind fun g28 =>
 (aPick v24 (g28.2.1.getD 0 .undef) (.bool false)).bind fun v29 =>
 (rdL c1 1 1).bind fun c30 =>
 (fromCells false c30).bind fun v31 =>
 (aBin .lss .plain v31 (.int .i64 1)).bind fun v32 =>
 (guardV v32 false
 ((rdL c1 1 1).bind fun c33 =>
 (fromCells false c33).bind fun v34 =>
 (aBin .gtr .plain v34 (.int .i64 5)).bind fun v35 =>
 some (0, [v35], g28.2.2))
 (some (0, [skipV], g28.2.2))).bind fun g36 =>
 (aPick v32 (.bool true) (g36.2.1.getD 0 .undef)).bind fun v37 =>
 (guardV v37 false
 ((rdL c1 1 1).bind fun c38 =>
 (fromCells false c38).bind fun v39 =>
 (aBin .eql .plain v39 (.int .i64 5)).bind fun v40 =>
 (guardV v40 true
 ((aUn .not v29).bind fun v41 =>
 some (0, [v41], g36.2.2))
 (some (0, [skipV], g36.2.2))).bind fun g42 =>
 (aPick v40 (g42.2.1.getD 0 .undef) (.bool false)).bind fun v43 =>
 some (0, [v43], g42.2.2))
 (some (0, [skipV], g36.2.2))).bind fun g44 =>
 (aPick v37 (.bool true) (g44.2.1.getD 0 .undef)).bind fun v45 =>
 (guardV v45 false
 ((rdL c1 1 1).bind fun c46 =>
 (fromCells false c46).bind fun v47 =>
 (aBin .neq .plain v47 (.int .i64 5)).bind fun v48 =>
 (guardV v48 true
 ((rdL c1 7 2).bind fun c49 =>
 (fromCells true c49).bind fun v50 =>
 (call 35 [v50] g44.2.2).bind fun r51 =>
 (aUn .not r51.1).bind fun v52 =>
 some (0, [v52], r51.2))
 (some (0, [skipV], g44.2.2))).bind fun g53 =>
 (aPick v48 (g53.2.1.getD 0 .undef) (.bool false)).bind fun v54 =>
 some (0, [v54], g53.2.2))
 (some (0, [skipV], g44.2.2))).bind fun g55 =>
 (aPick v45 (.bool true) (g55.2.1.getD 0 .undef)).bind fun v56 =>
 condV v56
 (some (0, [(.str [111, 112]), (.int .i64 12)], g55.2.2))
 (some (1, [(.agg c1)], g55.2.2)))
 (some (1, [(.agg c1)], g20.2.2))).bind fun x57 =>
 bif Nat.beq x57.1 0 then some (0, [.tuple [(x57.2.1.getD 0 .undef), (x57.2.1.getD 1 .undef)]], x57.2.2) else
 bif Nat.beq x57.1 1 then (rdL (AVal.aggCells (x57.2.1.getD 0 .undef)) 3 1).bind fun c58 =>
 (fromCells false c58).bind fun v59 =>
 (aBin .lss .plain v59 (.int .i64 0)).bind fun v60 =>
 (guardV v60 false
 ((rdL (AVal.aggCells (x57.2.1.getD 0 .undef)) 3 1).bind fun c61 =>
 (fromCells false c61).bind fun v62 =>
 (aBin .gtr .plain v62 (.int .i64 255)).bind fun v63 =>
 some (0, [v63], x57.2.2))
 (some (0, [skipV], x57.2.2))).bind fun g64 =>
 (aPick v60 (.bool true) (g64.2.1.getD 0 .undef)).bind fun v65 =>
 (guardV v65 false
 ((rdL (AVal.aggCells (x57.2.1.getD 0 .undef)) 2 1).bind fun c66 =>
 (fromCells false c66).bind fun v67 =>
 (aBin .lss .plain v67 (.int .i64 0)).bind fun v68 =>
 some (0, [v68], g64.2.2))
 (some (0, [skipV], g64.2.2))).bind fun g69 =>
 (aPick v65 (.bool true) (g69.2.1.getD 0 .undef)).bind fun v70 =>
 (guardV v70 false
 ((rdL (AVal.aggCells (x57.2.1.getD 0 .undef)) 2 1).bind fun c71 =>
 (fromCells false c71).bind fun v72 =>
 (aBin .gtr .plain v72 (.int .i64 255)).bind fun v73 =>
 some (0, [v73], g69.2.2))
 (some (0, [skipV], g69.2.2))).bind fun g74 =>
 (aPick v70 (.bool true) (g74.2.1.getD 0 .undef)).bind fun v75 =>
 (guardV v75 false
 ((rdL (AVal.aggCells (x57.2.1.getD 0 .undef)) 6 1).bind fun c76 =>
 (fromCells false c76).bind fun v77 =>
 (aBin .lss .plain v77 (.int .i64 (-1))).bind fun v78 =>
 some (0, [v78], g74.2.2))
 (some (0, [skipV], g74.2.2))).bind fun g79 =>
 (aPick v75 (.bool true) (g79.2.1.getD 0 .undef)).bind fun v80 =>
 condV v80
 (some (0, [.tuple [(.str [110, 117, 109, 98, 101, 114]), (.int .i64 1)]], g79.2.2))
 ((rdL (AVal.aggCells (x57.2.1.getD 0 .undef)) 11 1).bind fun c81 =>
 (fromCells false c81).bind fun v82 =>
 (aLen false v82).bind fun v83 =>
 (aBin .gtr .plain v83 (.int .i64 64)).bind fun v84 =>
 (guardV v84 false
 ((rdL (AVal.aggCells (x57.2.1.getD 0 .undef)) 12 1).bind fun c85 =>
 (fromCells false c85).bind fun v86 =>
 (aLen false v86).bind fun v87 =>
 (aBin .gtr .plain v87 (.int .i64 64)).bind fun v88 =>
 some (0, [v88], g79.2.2))
 (some (0, [skipV], g79.2.2))).bind fun g89 =>
 (aPick v84 (.bool true) (g89.2.1.getD 0 .undef)).bind fun v90 =>
 condV v90
 (some (0, [.tuple [(.str [99, 97, 114, 100, 115]), (.int .i64 3)]], g89.2.2))
 ((rdL (AVal.aggCells (x57.2.1.getD 0 .undef)) 11 1).bind fun c91 =>
 (fromCells false c91).bind fun v92 =>
 (aLen false v92).bind fun v93 =>
 (loop (L19_0 call) [v92, v93, (.int .i64 0), (.agg (AVal.aggCells (x57.2.1.getD 0 .undef)))] g89.2.2).bind fun x104 =>
 bif Nat.beq x104.1 1 then (rdL (AVal.aggCells (x104.2.1.getD 0 .undef)) 12 1).bind fun c105 =>
 (fromCells false c105).bind fun v106 =>
 (aLen false v106).bind fun v107 =>
 (loop (L19_1 call) [v106, v107, (.int .i64 0)] x104.2.2).bind fun x118 =>
 bif Nat.beq x118.1 1 then some (0, [.tuple [(.str []), (.int .i64 0)]], x118.2.2) else
 bif Nat.beq x118.1 2 then some (0, [.tuple [(x118.2.1.getD 0 .undef), (x118.2.1.getD 1 .undef)]], x118.2.2) else
 none else
 bif Nat.beq x104.1 2 then some (0, [.tuple [(x104.2.1.getD 0 .undef), (x104.2.1.getD 1 .undef)]], x104.2.2) else
 none)) else
 none))
theorem run19 (call : Go.Fw.Call) (a0 : AVal) (h : Heap) : runFn call (.code A19) [a0] h = (S19 call a0 h).bind ansOf := by kernel_rfl
noncomputable def A20 : AFunc := ⟨1, (.seq (.region [.op 0 (.box 1 true (.tmp 0)),
 .op 1 (.mov 2 (.const (.nilSlice))),
 .op 2 (.mov 3 (.const (.nilIface)))] [])
 (.seq (.seq (.region [.op 0 (.load 6 true 13 (.tmp 1)),
 .op 1 (.call 7 22 [.tmp 6]),
 .op 2 (.mov 4 (.tmp 7))] [])
 (.seq (.region [.op 0 (.mov 8 (.tmp 4)),
 .op 1 (.bin 9 .neq (.iface true []) (.tmp 8) (.const (.nilIface)))] [])
 (.cond (.tmp 9)
 (.seq (.region [.op 0 (.mov 10 (.tmp 4)),
 .op 1 (.call 11 37 [.const (.str [119, 114, 105, 116, 101]), .tmp 10]),
 .op 2 (.mov 2 (.const (.nilSlice))),
 .op 3 (.mov 3 (.tmp 11))] [])
 .ret)
 .skip)))
 (.seq (.region [.op 0 (.faddr 12 0 (.tmp 1)),
 .op 1 (.load 13 false 1 (.tmp 12)),
 .op 2 (.call 14 38 [.const (.nilSlice), .tmp 13]),
 .op 3 (.mov 5 (.tmp 14))] [])
 (.seq (.seq (.region [.op 0 (.faddr 15 0 (.tmp 1)),
 .op 1 (.load 16 false 1 (.tmp 15))] [])
 (.block 0 (.seq (.region [.op 0 (.bin 18 .eql .plain (.tmp 16) (.const (.int .i64 1))),
 .op 1 (.mov 17 (.tmp 18))] [])
 (.join [(.normal, ⟨[5], []⟩)] (.cond (.tmp 17)
 (.seq (.region [.op 0 (.mov 19 (.tmp 5)),
 .op 1 (.faddr 20 4 (.tmp 1)),
 .op 2 (.load 21 false 1 (.tmp 20)),
 .op 3 (.call 22 40 [.tmp 19, .tmp 21]),
 .op 4 (.faddr 23 1 (.tmp 1)),
 .op 5 (.load 24 false 1 (.tmp 23)),
 .op 6 (.call 25 38 [.tmp 22, .tmp 24]),
 .op 7 (.faddr 26 7 (.tmp 1)),
 .op 8 (.load 27 true 2 (.tmp 26)),
 .op 9 (.call 28 39 [.tmp 25, .tmp 27]),
 .op 10 (.mov 5 (.tmp 28))] [(5, 3), (8, 3), (8, 6)])
 (.region [.op 0 (.mov 29 (.tmp 5)),
 .op 1 (.faddr 30 5 (.tmp 1)),
 .op 2 (.load 31 false 1 (.tmp 30)),
 .op 3 (.call 32 40 [.tmp 29, .tmp 31]),
 .op 4 (.faddr 33 2 (.tmp 1)),
 .op 5 (.load 34 false 1 (.tmp 33)),
 .op 6 (.call 35 38 [.tmp 32, .tmp 34]),
 .op 7 (.faddr 36 6 (.tmp 1)),
 .op 8 (.load 37 false 1 (.tmp 36)),
 .op 9 (.call 38 40 [.tmp 35, .tmp 37]),
 .op 10 (.mov 5 (.tmp 38))] [(5, 3), (8, 3), (8, 6)]))
 (.seq (.region [.op 0 (.bin 40 .eql .plain (.tmp 16) (.const (.int .i64 2))),
 .op 1 (.mov 39 (.tmp 40))] [])
 (.join [(.normal, ⟨[5], []⟩)] (.cond (.tmp 39)
 (.seq (.region [.op 0 (.mov 41 (.tmp 5)),
 .op 1 (.faddr 42 4 (.tmp 1)),
 .op 2 (.load 43 false 1 (.tmp 42)),
 .op 3 (.call 44 40 [.tmp 41, .tmp 43]),
 .op 4 (.faddr 45 1 (.tmp 1)),
 .op 5 (.load 46 false 1 (.tmp 45)),
 .op 6 (.call 47 38 [.tmp 44, .tmp 46]),
 .op 7 (.faddr 48 7 (.tmp 1)),
 .op 8 (.load 49 true 2 (.tmp 48)),
 .op 9 (.call 50 39 [.tmp 47, .tmp 49]),
 .op 10 (.mov 5 (.tmp 50))] [(5, 3), (8, 3), (8, 6)])
 (.seq (.region [.op 0 (.mov 51 (.tmp 5)),
 .op 1 (.faddr 52 3 (.tmp 1)),
 .op 2 (.load 53 false 1 (.tmp 52)),
 .op 3 (.call 54 38 [.tmp 51, .tmp 53]),
 .op 4 (.faddr 55 9 (.tmp 1)),
 .op 5 (.load 56 false 1 (.tmp 55)),
 .op 6 (.call 57 41 [.tmp 56]),
 .op 7 (.call 58 38 [.tmp 54, .tmp 57]),
 .op 8 (.mov 5 (.tmp 58))] [(5, 3)])
 (.region [.op 0 (.mov 59 (.tmp 5)),
 .op 1 (.faddr 60 6 (.tmp 1)),
 .op 2 (.load 61 false 1 (.tmp 60)),
 .op 3 (.call 62 40 [.tmp 59, .tmp 61]),
 .op 4 (.faddr 63 10 (.tmp 1)),
 .op 5 (.load 64 false 1 (.tmp 63)),
 .op 6 (.conv 65 (.toInt .i64) (.tmp 64)),
 .op 7 (.call 66 40 [.tmp 62, .tmp 65]),
 .op 8 (.faddr 67 11 (.tmp 1)),
 .op 9 (.load 68 false 1 (.tmp 67)),
 .op 10 (.call 69 42 [.tmp 66, .tmp 68]),
 .op 11 (.mov 5 (.tmp 69))] [(5, 3), (9, 3), (9, 7)])))
 (.seq (.seq (.region [.op 0 (.bin 71 .eql .plain (.tmp 16) (.const (.int .i64 3))),
 .op 1 (.mov 70 (.tmp 71))] [])
 (.join [(.normal, ⟨[5, 16, 70], [1]⟩)] (.cond (.tmp 70)
 .skip
 (.region [.op 0 (.bin 72 .eql .plain (.tmp 16) (.const (.int .i64 4))),
 .op 1 (.mov 70 (.tmp 72))] []))))
 (.join [(.normal, ⟨[5], []⟩)] (.cond (.tmp 70)
 (.region [.op 0 (.mov 73 (.tmp 5)),
 .op 1 (.faddr 74 11 (.tmp 1)),
 .op 2 (.load 75 false 1 (.tmp 74)),
 .op 3 (.call 76 42 [.tmp 73, .tmp 75]),
 .op 4 (.mov 5 (.tmp 76))] [])
 (.seq (.region [.op 0 (.bin 78 .eql .plain (.tmp 16) (.const (.int .i64 5))),
 .op 1 (.mov 77 (.tmp 78))] [])
 (.join [(.normal, ⟨[5], []⟩)] (.cond (.tmp 77)
 (.region [.op 0 (.mov 79 (.tmp 5)),
 .op 1 (.faddr 80 12 (.tmp 1)),
 .op 2 (.load 81 false 1 (.tmp 80)),
 .op 3 (.call 82 43 [.tmp 79, .tmp 81]),
 .op 4 (.mov 5 (.tmp 82))] [])
 .skip))))))))))))))
 (.seq (.region [.op 0 (.mov 83 (.tmp 5)),
 .op 1 (.call 84 44 [.tmp 83]),
 .op 2 (.mov 2 (.tmp 84)),
 .op 3 (.mov 3 (.const (.nilIface)))] [])
 .ret))))),
 [.tmp 2, .tmp 3]⟩
theorem ok20 : funcOk Tryz.prog (drawOk Tryz.prog) Tryz.f20 A20 = true := by kernel_rfl
noncomputable def S20 (call : Go.Fw.Call) (a0 : AVal) (h : Heap) : Option J :=
 (AVal.cells? a0).bind fun c1 =>
 (rdL c1 0 13).bind fun c2 =>
 (fromCells true c2).bind fun v3 =>
 (call 22 [v3] h).bind fun r4 =>
 (aBin .neq (.iface true []) r4.1 (.nilIface)).bind fun v5 =>
 condV v5
 ((call 37 [(.str [119, 114, 105, 116, 101]), r4.1] r4.2).bind fun r6 =>
 some (0, [.tuple [(.nilSlice), r6.1]], r6.2))
 ((rdL c1 0 1).bind fun c7 =>
 (fromCells false c7).bind fun v8 =>
 (call 38 [(.nilSlice), v8] r4.2).bind fun r9 =>
 (rdL c1 0 1).bind fun c10 =>
 (fromCells false c10).bind fun v11 =>
 (aBin .eql .plain v11 (.int .i64 1)).bind fun v12 =>
 (condV v12
 ((rdL c1 4 1).bind fun c13 =>
 (fromCells false c13).bind fun v14 =>
 (call 40 [r9.1, v14] r9.2).bind fun r15 =>
 (rdL c1 1 1).bind fun c16 =>
 (fromCells false c16).bind fun v17 =>
 (call 38 [r15.1, v17] r15.2).bind fun r18 =>
 (rdL c1 7 2).bind fun c19 =>
 (fromCells true c19).bind fun v20 =>
 (call 39 [r18.1, v20] r18.2).bind fun r21 =>
 bif checkPairs [(8, some (.lrd 1 (7) 2)), (6, some (.ef [(1, c1)] r15.2 [(1, c1)] r18.2)), (5, some (.lrd 1 (1) 1)), (3, some (.ef [(1, c1)] r9.2 [(1, c1)] r15.2))] [(5, 3), (8, 3), (8, 6)] then (rdL c1 5 1).bind fun c22 =>
 (fromCells false c22).bind fun v23 =>
 (call 40 [r21.1, v23] r21.2).bind fun r24 =>
 (rdL c1 2 1).bind fun c25 =>
 (fromCells false c25).bind fun v26 =>
 (call 38 [r24.1, v26] r24.2).bind fun r27 =>
 (rdL c1 6 1).bind fun c28 =>
 (fromCells false c28).bind fun v29 =>
 (call 40 [r27.1, v29] r27.2).bind fun r30 =>
 bif checkPairs [(8, some (.lrd 1 (6) 1)), (6, some (.ef [(1, c1)] r24.2 [(1, c1)] r27.2)), (5, some (.lrd 1 (2) 1)), (3, some (.ef [(1, c1)] r21.2 [(1, c1)] r24.2))] [(5, 3), (8, 3), (8, 6)] then some (0, [r30.1], r30.2) else none else none)
 ((aBin .eql .plain v11 (.int .i64 2)).bind fun v31 =>
 (condV v31
 ((rdL c1 4 1).bind fun c32 =>
 (fromCells false c32).bind fun v33 =>
 (call 40 [r9.1, v33] r9.2).bind fun r34 =>
 (rdL c1 1 1).bind fun c35 =>
 (fromCells false c35).bind fun v36 =>
 (call 38 [r34.1, v36] r34.2).bind fun r37 =>
 (rdL c1 7 2).bind fun c38 =>
 (fromCells true c38).bind fun v39 =>
 (call 39 [r37.1, v39] r37.2).bind fun r40 =>
 bif checkPairs [(8, some (.lrd 1 (7) 2)), (6, some (.ef [(1, c1)] r34.2 [(1, c1)] r37.2)), (5, some (.lrd 1 (1) 1)), (3, some (.ef [(1, c1)] r9.2 [(1, c1)] r34.2))] [(5, 3), (8, 3), (8, 6)] then (rdL c1 3 1).bind fun c41 =>
 (fromCells false c41).bind fun v42 =>
 (call 38 [r40.1, v42] r40.2).bind fun r43 =>
 (rdL c1 9 1).bind fun c44 =>
 (fromCells false c44).bind fun v45 =>
 (call 41 [v45] r43.2).bind fun r46 =>
 (call 38 [r43.1, r46.1] r46.2).bind fun r47 =>
 bif checkPairs [(5, some (.lrd 1 (9) 1)), (3, some (.ef [(1, c1)] r40.2 [(1, c1)] r43.2))] [(5, 3)] then (rdL c1 6 1).bind fun c48 =>
 (fromCells false c48).bind fun v49 =>
 (call 40 [r47.1, v49] r47.2).bind fun r50 =>
 (rdL c1 10 1).bind fun c51 =>
 (fromCells false c51).bind fun v52 =>
 (aConv (.toInt .i64) v52 r50.2).bind fun r53 =>
 (call 40 [r50.1, r53.1] r53.2).bind fun r54 =>
 (rdL c1 11 1).bind fun c55 =>
 (fromCells false c55).bind fun v56 =>
 (call 42 [r54.1, v56] r54.2).bind fun r57 =>
 bif checkPairs [(9, some (.lrd 1 (11) 1)), (7, some (.ef [(1, c1)] r53.2 [(1, c1)] r54.2)), (5, some (.lrd 1 (10) 1)), (3, some (.ef [(1, c1)] r47.2 [(1, c1)] r50.2))] [(5, 3), (9, 3), (9, 7)] then some (0, [r57.1], r57.2) else none else none else none)
 ((aBin .eql .plain v11 (.int .i64 3)).bind fun v58 =>
 (condV v58
 (some (0, [r9.1, v11, v58, (.agg c1)], r9.2))
 ((aBin .eql .plain v11 (.int .i64 4)).bind fun v59 =>
 some (0, [r9.1, v11, v59, (.agg c1)], r9.2))).bind fun x60 =>
 bif Nat.beq x60.1 0 then (condV (x60.2.1.getD 2 .undef)
 ((rdL (AVal.aggCells (x60.2.1.getD 3 .undef)) 11 1).bind fun c61 =>
 (fromCells false c61).bind fun v62 =>
 (call 42 [(x60.2.1.getD 0 .undef), v62] x60.2.2).bind fun r63 =>
 some (0, [r63.1], r63.2))
 ((aBin .eql .plain (x60.2.1.getD 1 .undef) (.int .i64 5)).bind fun v64 =>
 (condV v64
 ((rdL (AVal.aggCells (x60.2.1.getD 3 .undef)) 12 1).bind fun c65 =>
 (fromCells false c65).bind fun v66 =>
 (call 43 [(x60.2.1.getD 0 .undef), v66] x60.2.2).bind fun r67 =>
 some (0, [r67.1], r67.2))
 (some (0, [(x60.2.1.getD 0 .undef)], x60.2.2))).bind fun x68 =>
 bif Nat.beq x68.1 0 then some (0, [(x68.2.1.getD 0 .undef)], x68.2.2) else
 none)).bind fun x69 =>
 bif Nat.beq x69.1 0 then some (0, [(x69.2.1.getD 0 .undef)], x69.2.2) else
 none else
 none)).bind fun x70 =>
 bif Nat.beq x70.1 0 then some (0, [(x70.2.1.getD 0 .undef)], x70.2.2) else
 none)).bind fun x71 =>
 bif Nat.beq x71.1 0 then (call 44 [(x71.2.1.getD 0 .undef)] x71.2.2).bind fun r72 =>
 some (0, [.tuple [r72.1, (.nilIface)]], r72.2) else
 none)
theorem run20 (call : Go.Fw.Call) (a0 : AVal) (h : Heap) : runFn call (.code A20) [a0] h = (S20 call a0 h).bind ansOf := by kernel_rfl
noncomputable def A21 : AFunc := ⟨4, (.seq (.region [.op 0 (.mov 8 (.const (.bool false)))] [])
 (.seq (.seq (.region [.op 0 (.mov 10 (.tmp 3)),
 .op 1 (.bin 11 .eql .plain (.tmp 10) (.const (.int .i64 0)))] [])
 (.cond (.tmp 11)
 (.seq (.region [.op 0 (.mov 12 (.tmp 0)),
 .op 1 (.bin 13 .eql (.iface true []) (.tmp 12) (.const (.nilIface))),
 .op 2 (.mov 8 (.tmp 13))] [])
 .ret)
 .skip))
 (.seq (.region [.op 0 (.mov 14 (.tmp 2)),
 .op 1 (.buildSl 15 [.str []] 1 1 [(0, .tmp 14)]),
 .op 2 (.mov 9 (.tmp 15))] [])
 (.seq (.seq (.region [.op 0 (.mov 16 (.tmp 1)),
 .op 1 (.bin 17 .neq .plain (.tmp 16) (.const (.str [])))] [])
 (.join [(.normal, ⟨[0, 3, 9], []⟩)] (.cond (.tmp 17)
 (.region [.op 0 (.mov 18 (.tmp 1)),
 .op 1 (.mov 19 (.tmp 2)),
 .op 2 (.buildSl 20 [.str []] 1 2 [(0, .tmp 18), (1, .tmp 19)]),
 .op 3 (.mov 9 (.tmp 20))] [])
 .skip)))
 (.seq (.region [.op 0 (.mov 21 (.tmp 0)),
 .op 1 (.bin 22 .neq (.iface true []) (.tmp 21) (.const (.nilIface))),
 .op 2 (.mov 23 (.tmp 22)),
 .guard 23 true [.op 3 (.mov 24 (.tmp 0)),
 .op 4 (.call 25 45 [.tmp 24]),
 .op 5 (.mov 26 (.tmp 3)),
 .op 6 (.bin 27 .eql .plain (.tmp 25) (.tmp 26))] [] [27],
 .op 7 (.pick 28 (.tmp 23) (.tmp 27) (.const (.bool false))),
 .op 8 (.mov 29 (.tmp 28)),
 .guard 29 true [.op 9 (.mov 30 (.tmp 0)),
 .op 10 (.call 31 47 [.tmp 30]),
 .op 11 (.mov 32 (.tmp 9)),
 .op 12 (.call 33 46 [.tmp 31, .tmp 32])] [] [33],
 .op 13 (.pick 34 (.tmp 29) (.tmp 33) (.const (.bool false))),
 .op 14 (.mov 8 (.tmp 34))] [])
 .ret))))),
 [.tmp 8]⟩
theorem ok21 : funcOk Tryz.prog (drawOk Tryz.prog) Tryz.f21 A21 = true := by kernel_rfl
noncomputable def S21 (call : Go.Fw.Call) (a0 a1 a2 a3 : AVal) (h : Heap) : Option J :=
 (aBin .eql .plain a3 (.int .i64 0)).bind fun v1 =>
 condV v1
 ((aBin .eql (.iface true []) a0 (.nilIface)).bind fun v2 =>
 some (0, [v2], h))
 ((aFill (reps [.str []] 1) [(0, 1, a2)]).bind fun c3 =>
 (aBin .neq .plain a1 (.str [])).bind fun v4 =>
 (condV v4
 ((aFill (reps [.str []] 2) [(0, 1, a1), (1, 1, a2)]).bind fun c5 =>
 some (0, [a0, a3, (.slice (h.alloc c3).next 0 2 2 1 true)], ((h.alloc c3).alloc c5)))
 (some (0, [a0, a3, (.slice h.next 0 1 1 1 true)], (h.alloc c3)))).bind fun x6 =>
 bif Nat.beq x6.1 0 then (aBin .neq (.iface true []) (x6.2.1.getD 0 .undef) (.nilIface)).bind fun v7 =>
 (guardV v7 true
 ((call 45 [(x6.2.1.getD 0 .undef)] x6.2.2).bind fun r8 =>
 (aBin .eql .plain r8.1 (x6.2.1.getD 1 .undef)).bind fun v9 =>
 some (0, [v9], r8.2))
 (some (0, [skipV], x6.2.2))).bind fun g10 =>
 (aPick v7 (g10.2.1.getD 0 .undef) (.bool false)).bind fun v11 =>
 (guardV v11 true
 ((call 47 [(x6.2.1.getD 0 .undef)] g10.2.2).bind fun r12 =>
 (call 46 [r12.1, (x6.2.1.getD 2 .undef)] r12.2).bind fun r13 =>
 some (0, [r13.1], r13.2))
 (some (0, [skipV], g10.2.2))).bind fun g14 =>
 (aPick v11 (g14.2.1.getD 0 .undef) (.bool false)).bind fun v15 =>
 some (0, [v15], g14.2.2) else
 none)
theorem run21 (call : Go.Fw.Call) (a0 a1 a2 a3 : AVal) (h : Heap) : runFn call (.code A21) [a0, a1, a2, a3] h = (S21 call a0 a1 a2 a3 h).bind ansOf := by kernel_rfl
noncomputable def A22 : AFunc := ⟨1, (.seq (.region [.op 0 (.box 1 true (.tmp 0)),
 .op 1 (.mov 2 (.const (.nilIface)))] [])
 (.seq (.block 0 (.seq (.region [.op 0 (.faddr 5 0 (.tmp 1)),
 .op 1 (.load 6 false 1 (.tmp 5)),
 .op 2 (.bin 7 .lss .plain (.tmp 6) (.const (.int .i64 1))),
 .op 3 (.mov 8 (.tmp 7)),
 .guard 8 false [.op 4 (.faddr 9 0 (.tmp 1)),
 .op 5 (.load 10 false 1 (.tmp 9)),
 .op 6 (.bin 11 .gtr .plain (.tmp 10) (.const (.int .i64 5)))] [] [11],
 .op 7 (.pick 12 (.tmp 8) (.const (.bool true)) (.tmp 11)),
 .op 8 (.mov 4 (.tmp 12))] [])
 (.cond (.tmp 4)
 (.seq (.region [.op 0 (.call 13 48 [.const (.str [107, 105, 110, 100]), .const (.int .i64 12)]),
 .op 1 (.mov 2 (.tmp 13))] [])
 .ret)
 (.seq (.region [.op 0 (.load 15 true 13 (.tmp 1)),
 .op 1 (.call 16 49 [.tmp 15]),
 .op 2 (.un 17 .not (.tmp 16)),
 .op 3 (.mov 14 (.tmp 17))] [])
 (.cond (.tmp 14)
 (.seq (.region [.op 0 (.call 18 48 [.const (.str [122, 101, 114, 111]), .const (.int .i64 12)]),
 .op 1 (.mov 2 (.tmp 18))] [])
 .ret)
 (.seq (.region [.op 0 (.load 20 true 13 (.tmp 1)),
 .op 1 (.call 21 50 [.tmp 20]),
 .op 2 (.un 22 .not (.tmp 21)),
 .op 3 (.mov 19 (.tmp 22))] [])
 (.cond (.tmp 19)
 (.seq (.region [.op 0 (.call 23 48 [.const (.str [111, 112]), .const (.int .i64 12)]),
 .op 1 (.mov 2 (.tmp 23))] [])
 .ret)
 (.seq (.region [.op 0 (.faddr 25 3 (.tmp 1)),
 .op 1 (.load 26 false 1 (.tmp 25)),
 .op 2 (.call 27 51 [.tmp 26]),
 .op 3 (.un 28 .not (.tmp 27)),
 .op 4 (.mov 29 (.tmp 28)),
 .guard 29 false [.op 5 (.faddr 30 2 (.tmp 1)),
 .op 6 (.load 31 false 1 (.tmp 30)),
 .op 7 (.call 32 51 [.tmp 31]),
 .op 8 (.un 33 .not (.tmp 32))] [] [33],
 .op 9 (.pick 34 (.tmp 29) (.const (.bool true)) (.tmp 33)),
 .op 10 (.mov 35 (.tmp 34)),
 .guard 35 false [.op 11 (.faddr 36 6 (.tmp 1)),
 .op 12 (.load 37 false 1 (.tmp 36)),
 .op 13 (.bin 38 .lss .plain (.tmp 37) (.const (.int .i64 (-1))))] [] [38],
 .op 14 (.pick 39 (.tmp 35) (.const (.bool true)) (.tmp 38)),
 .op 15 (.mov 24 (.tmp 39))] [])
 (.cond (.tmp 24)
 (.seq (.region [.op 0 (.call 40 48 [.const (.str [110, 117, 109, 98, 101, 114]), .const (.int .i64 1)]),
 .op 1 (.mov 2 (.tmp 40))] [])
 .ret)
 (.seq (.region [.op 0 (.faddr 42 11 (.tmp 1)),
 .op 1 (.load 43 false 1 (.tmp 42)),
 .op 2 (.len 44 false (.tmp 43)),
 .op 3 (.bin 45 .gtr .plain (.tmp 44) (.const (.int .i64 64))),
 .op 4 (.mov 46 (.tmp 45)),
 .guard 46 false [.op 5 (.faddr 47 12 (.tmp 1)),
 .op 6 (.load 48 false 1 (.tmp 47)),
 .op 7 (.len 49 false (.tmp 48)),
 .op 8 (.bin 50 .gtr .plain (.tmp 49) (.const (.int .i64 64)))] [] [50],
 .op 9 (.pick 51 (.tmp 46) (.const (.bool true)) (.tmp 50)),
 .op 10 (.mov 41 (.tmp 51))] [])
 (.cond (.tmp 41)
 (.seq (.region [.op 0 (.call 52 48 [.const (.str [99, 97, 114, 100, 115]), .const (.int .i64 3)]),
 .op 1 (.mov 2 (.tmp 52))] [])
 .ret)
 .skip)))))))))))
 (.seq (.region [.op 0 (.faddr 53 11 (.tmp 1)),
 .op 1 (.load 54 false 1 (.tmp 53)),
 .op 2 (.call 55 52 [.tmp 54, .const (.func 53 [])]),
 .op 3 (.mov 3 (.tmp 55))] [])
 (.seq (.seq (.region [.op 0 (.mov 56 (.tmp 3)),
 .op 1 (.mov 57 (.tmp 56)),
 .guard 57 false [.op 2 (.faddr 58 12 (.tmp 1)),
 .op 3 (.load 59 false 1 (.tmp 58)),
 .op 4 (.call 60 55 [.tmp 59, .const (.func 56 [])])] [] [60],
 .op 5 (.pick 61 (.tmp 57) (.const (.bool true)) (.tmp 60))] [])
 (.cond (.tmp 61)
 (.seq (.region [.op 0 (.call 62 48 [.const (.str [99, 97, 114, 100]), .const (.int .i64 1)]),
 .op 1 (.mov 2 (.tmp 62))] [])
 .ret)
 .skip))
 (.seq (.region [.op 0 (.mov 2 (.const (.nilIface)))] [])
 .ret))))),
 [.tmp 2]⟩
theorem ok22 : funcOk Tryz.prog (drawOk Tryz.prog) Tryz.f22 A22 = true := by kernel_rfl
noncomputable def S22 (call : Go.Fw.Call) (a0 : AVal) (h : Heap) : Option J :=
 (AVal.cells? a0).bind fun c1 =>
 (rdL c1 0 1).bind fun c2 =>
 (fromCells false c2).bind fun v3 =>
 (aBin .lss .plain v3 (.int .i64 1)).bind fun v4 =>
 (guardV v4 false
 ((rdL c1 0 1).bind fun c5 =>
 (fromCells false c5).bind fun v6 =>
 (aBin .gtr .plain v6 (.int .i64 5)).bind fun v7 =>
 some (0, [v7], h))
 (some (0, [skipV], h))).bind fun g8 =>
 (aPick v4 (.bool true) (g8.2.1.getD 0 .undef)).bind fun v9 =>
 condV v9
 ((call 48 [(.str [107, 105, 110, 100]), (.int .i64 12)] g8.2.2).bind fun r10 =>
 some (0, [r10.1], r10.2))
 ((rdL c1 0 13).bind fun c11 =>
 (fromCells true c11).bind fun v12 =>
 (call 49 [v12] g8.2.2).bind fun r13 =>
 (aUn .not r13.1).bind fun v14 =>
 condV v14
 ((call 48 [(.str [122, 101, 114, 111]), (.int .i64 12)] r13.2).bind fun r15 =>
 some (0, [r15.1], r15.2))
 ((rdL c1 0 13).bind fun c16 =>
 (fromCells true c16).bind fun v17 =>
 (call 50 [v17] r13.2).bind fun r18 =>
 (aUn .not r18.1).bind fun v19 =>
 condV v19
 ((call 48 [(.str [111, 112]), (.int .i64 12)] r18.2).bind fun r20 =>
 some (0, [r20.1], r20.2))
 ((rdL c1 3 1).bind fun c21 =>
 (fromCells false c21).bind fun v22 =>
 (call 51 [v22] r18.2).bind fun r23 =>
 (aUn .not r23.1).bind fun v24 =>
 (guardV v24 false
 ((rdL c1 2 1).bind fun c25 =>
 (fromCells false c25).bind fun v26 =>
 (call 51 [v26] r23.2).bind fun r27 =>
 (aUn .not r27.1).bind fun v28 =>
 some (0, [v28], r27.2))
 (some (0, [skipV], r23.2))).bind fun g29 =>
 (aPick v24 (.bool true) (g29.2.1.getD 0 .undef)).bind fun v30 =>
 (guardV v30 false
 ((rdL c1 6 1).bind fun c31 =>
 (fromCells false c31).bind fun v32 =>
 (aBin .lss .plain v32 (.int .i64 (-1))).bind fun v33 =>
 some (0, [v33], g29.2.2))
 (some (0, [skipV], g29.2.2))).bind fun g34 =>
 (aPick v30 (.bool true) (g34.2.1.getD 0 .undef)).bind fun v35 =>
 condV v35
 ((call 48 [(.str [110, 117, 109, 98, 101, 114]), (.int .i64 1)] g34.2.2).bind fun r36 =>
 some (0, [r36.1], r36.2))
 ((rdL c1 11 1).bind fun c37 =>
 (fromCells false c37).bind fun v38 =>
 (aLen false v38).bind fun v39 =>
 (aBin .gtr .plain v39 (.int .i64 64)).bind fun v40 =>
 (guardV v40 false
 ((rdL c1 12 1).bind fun c41 =>
 (fromCells false c41).bind fun v42 =>
 (aLen false v42).bind fun v43 =>
 (aBin .gtr .plain v43 (.int .i64 64)).bind fun v44 =>
 some (0, [v44], g34.2.2))
 (some (0, [skipV], g34.2.2))).bind fun g45 =>
 (aPick v40 (.bool true) (g45.2.1.getD 0 .undef)).bind fun v46 =>
 condV v46
 ((call 48 [(.str [99, 97, 114, 100, 115]), (.int .i64 3)] g45.2.2).bind fun r47 =>
 some (0, [r47.1], r47.2))
 ((rdL c1 11 1).bind fun c48 =>
 (fromCells false c48).bind fun v49 =>
 (call 52 [v49, (.func 53 [])] g45.2.2).bind fun r50 =>
 (guardV r50.1 false
 ((rdL c1 12 1).bind fun c51 =>
 (fromCells false c51).bind fun v52 =>
 (call 55 [v52, (.func 56 [])] r50.2).bind fun r53 =>
 some (0, [r53.1], r53.2))
 (some (0, [skipV], r50.2))).bind fun g54 =>
 (aPick r50.1 (.bool true) (g54.2.1.getD 0 .undef)).bind fun v55 =>
 condV v55
 ((call 48 [(.str [99, 97, 114, 100]), (.int .i64 1)] g54.2.2).bind fun r56 =>
 some (0, [r56.1], r56.2))
 (some (0, [(.nilIface)], g54.2.2)))))))
theorem run22 (call : Go.Fw.Call) (a0 : AVal) (h : Heap) : runFn call (.code A22) [a0] h = (S22 call a0 h).bind ansOf := by kernel_rfl
noncomputable def A23 : AFunc := ⟨2, (.seq (.region [.op 0 (.mov 4 (.const (.nilSlice)))] [])
 (.seq (.region [.op 0 (.buildSl 5 [.int .u8 0] 1 0 []),
 .op 1 (.mov 6 (.tmp 0)),
 .op 2 (.append 7 1 1 [.int .u8 0] false (.tmp 5) (.tmp 6)),
 .op 3 (.mov 8 (.tmp 1)),
 .op 4 (.conv 9 (.toInt .u8) (.tmp 8)),
 .op 5 (.buildSl 10 [.int .u8 0] 1 1 [(0, .tmp 9)]),
 .op 6 (.append 11 1 1 [.int .u8 0] false (.tmp 7) (.tmp 10)),
 .op 7 (.mov 4 (.tmp 11))] [])
 .ret)),
 [.tmp 4]⟩
theorem ok23 : funcOk Tryz.prog (drawOk Tryz.prog) Tryz.f23 A23 = true := by kernel_rfl
noncomputable def S23 (call : Go.Fw.Call) (a0 a1 : AVal) (h : Heap) : Option J :=
 (aFill (reps [.int .u8 0] 0) []).bind fun c1 =>
 (aAppend 1 1 [.int .u8 0] false (.slice h.next 0 0 0 1 true) a0 (h.alloc c1)).bind fun r2 =>
 (aConv (.toInt .u8) a1 r2.2).bind fun r3 =>
 (aFill (reps [.int .u8 0] 1) [(0, 1, r3.1)]).bind fun c4 =>
 (aAppend 1 1 [.int .u8 0] false r2.1 (.slice r3.2.next 0 1 1 1 true) (r3.2.alloc c4)).bind fun r5 =>
 some (0, [r5.1], r5.2)
theorem run23 (call : Go.Fw.Call) (a0 a1 : AVal) (h : Heap) : runFn call (.code A23) [a0, a1] h = (S23 call a0 a1 h).bind ansOf := by kernel_rfl
noncomputable def A24 : AFunc := ⟨2, (.seq (.region [.op 0 (.box 3 true (.tmp 1)),
 .op 1 (.mov 4 (.const (.nilSlice)))] [])
 (.seq (.region [.op 0 (.mov 5 (.tmp 0)),
 .op 1 (.faddr 6 0 (.tmp 3)),
 .op 2 (.load 7 false 1 (.tmp 6)),
 .op 3 (.call 8 58 [.tmp 5, .tmp 7]),
 .op 4 (.faddr 9 1 (.tmp 3)),
 .op 5 (.load 10 false 1 (.tmp 9)),
 .op 6 (.call 11 58 [.tmp 8, .tmp 10]),
 .op 7 (.mov 4 (.tmp 11))] [(5, 3)])
 .ret)),
 [.tmp 4]⟩
theorem ok24 : funcOk Tryz.prog (drawOk Tryz.prog) Tryz.f24 A24 = true := by kernel_rfl
noncomputable def S24 (call : Go.Fw.Call) (a0 a1 : AVal) (h : Heap) : Option J :=
 (AVal.cells? a1).bind fun c1 =>
 (rdL c1 0 1).bind fun c2 =>
 (fromCells false c2).bind fun v3 =>
 (call 58 [a0, v3] h).bind fun r4 =>
 (rdL c1 1 1).bind fun c5 =>
 (fromCells false c5).bind fun v6 =>
 (call 58 [r4.1, v6] r4.2).bind fun r7 =>
 bif checkPairs [(5, some (.lrd 3 (1) 1)), (3, some (.ef [(3, c1)] h [(3, c1)] r4.2))] [(5, 3)] then some (0, [r7.1], r7.2) else none
theorem run24 (call : Go.Fw.Call) (a0 a1 : AVal) (h : Heap) : runFn call (.code A24) [a0, a1] h = (S24 call a0 a1 h).bind ansOf := by kernel_rfl
noncomputable def A25 : AFunc := ⟨1, (.seq (.region [.op 0 (.mov 2 (.const (.int .i64 0)))] [])
 (.seq (.seq (.region [.op 0 (.mov 3 (.tmp 0))] [])
 (.cond (.tmp 3)
 (.seq (.region [.op 0 (.mov 2 (.const (.int .i64 1)))] [])
 .ret)
 .skip))
 (.seq (.region [.op 0 (.mov 2 (.const (.int .i64 0)))] [])
 .ret))),
 [.tmp 2]⟩
theorem ok25 : funcOk Tryz.prog (drawOk Tryz.prog) Tryz.f25 A25 = true := by kernel_rfl
noncomputable def S25 (call : Go.Fw.Call) (a0 : AVal) (h : Heap) : Option J :=
 condV a0
 (some (0, [(.int .i64 1)], h))
 (some (0, [(.int .i64 0)], h))
theorem run25 (call : Go.Fw.Call) (a0 : AVal) (h : Heap) : runFn call (.code A25) [a0] h = (S25 call a0 h).bind ansOf := by kernel_rfl
noncomputable def A26 : AFunc := ⟨2, (.seq (.region [.op 0 (.mov 4 (.const (.nilSlice)))] [])
 (.seq (.region [.op 0 (.mov 7 (.tmp 0)),
 .op 1 (.mov 8 (.tmp 1)),
 .op 2 (.len 9 false (.tmp 8)),
 .op 3 (.call 10 23 [.tmp 7, .tmp 9]),
 .op 4 (.mov 0 (.tmp 10))] [])
 (.seq (.seq (.region [.op 0 (.mov 11 (.tmp 1)),
 .op 1 (.len 12 false (.tmp 11)),
 .op 2 (.mov 13 (.const (.int .i64 0)))] [])
 (.block 0 (.loop ⟨[0, 11, 12, 13], []⟩ [((.exit 0), ⟨[0], []⟩)]
 (.seq (.region [.op 0 (.bin 14 .lss .plain (.tmp 13) (.tmp 12))] [])
 (.seq (.cond (.tmp 14)
 .skip
 (.exit 0))
 (.seq (.block 1 (.seq (.region [.op 0 (.iaddr 15 none 9 (.tmp 11) (.tmp 13)),
 .op 1 (.load 16 true 9 (.tmp 15)),
 .op 2 (.alloc 6 true cz),
 .op 3 (.store true 9 (.tmp 6) (.tmp 16))] [])
 (.seq (.region [.op 0 (.mov 17 (.tmp 0)),
 .op 1 (.faddr 18 0 (.tmp 6)),
 .op 2 (.load 19 true 2 (.tmp 18)),
 .op 3 (.call 20 24 [.tmp 17, .tmp 19]),
 .op 4 (.mov 0 (.tmp 20))] [])
 (.seq (.region [.op 0 (.mov 21 (.tmp 0)),
 .op 1 (.faddr 22 2 (.tmp 6)),
 .op 2 (.load 23 false 1 (.tmp 22)),
 .op 3 (.call 24 23 [.tmp 21, .tmp 23]),
 .op 4 (.faddr 25 3 (.tmp 6)),
 .op 5 (.load 26 false 1 (.tmp 25)),
 .op 6 (.call 27 23 [.tmp 24, .tmp 26]),
 .op 7 (.mov 0 (.tmp 27))] [(5, 3)])
 (.seq (.region [.op 0 (.mov 28 (.tmp 0)),
 .op 1 (.faddr 29 4 (.tmp 6)),
 .op 2 (.load 30 false 1 (.tmp 29)),
 .op 3 (.call 31 11 [.tmp 28, .tmp 30]),
 .op 4 (.faddr 32 5 (.tmp 6)),
 .op 5 (.faddr 33 0 (.tmp 32)),
 .op 6 (.load 34 false 1 (.tmp 33)),
 .op 7 (.call 35 11 [.tmp 31, .tmp 34]),
 .op 8 (.mov 0 (.tmp 35))] [(6, 3)])
 (.seq (.region [.op 0 (.mov 36 (.tmp 0)),
 .op 1 (.faddr 37 5 (.tmp 6)),
 .op 2 (.faddr 38 1 (.tmp 37)),
 .op 3 (.load 39 false 1 (.tmp 38)),
 .op 4 (.call 40 23 [.tmp 36, .tmp 39]),
 .op 5 (.faddr 41 5 (.tmp 6)),
 .op 6 (.faddr 42 2 (.tmp 41)),
 .op 7 (.load 43 false 1 (.tmp 42)),
 .op 8 (.call 44 11 [.tmp 40, .tmp 43]),
 .op 9 (.mov 0 (.tmp 44))] [(7, 4)])
 (.region [.op 0 (.mov 45 (.tmp 0)),
 .op 1 (.faddr 46 8 (.tmp 6)),
 .op 2 (.load 47 false 1 (.tmp 46)),
 .op 3 (.call 48 25 [.tmp 47]),
 .op 4 (.call 49 23 [.tmp 45, .tmp 48]),
 .op 5 (.mov 0 (.tmp 49))] [])))))))
 (.region [.op 0 (.bin 50 .add .plain (.tmp 13) (.const (.int .i64 1))),
 .op 1 (.mov 13 (.tmp 50))] [])))))))
 (.seq (.region [.op 0 (.mov 51 (.tmp 0)),
 .op 1 (.mov 4 (.tmp 51))] [])
 .ret)))),
 [.tmp 4]⟩
theorem ok26 : funcOk Tryz.prog (drawOk Tryz.prog) Tryz.f26 A26 = true := by kernel_rfl
noncomputable def L26_0 (call : Go.Fw.Call) (xs : List AVal) (h : Heap) : Option J :=
 (aBin .lss .plain (xs.getD 3 .undef) (xs.getD 2 .undef)).bind fun v4 =>
 condV v4
 ((aIaddr 9 (xs.getD 1 .undef) (xs.getD 3 .undef)).bind fun v5 =>
 (aLoad h 9 v5).bind fun c6 =>
 (fromCells true c6).bind fun v7 =>
 (aCells 9 v7).bind fun c8 =>
 bif Nat.ble ((0) + 9) (List.length (α := AVal) [.str [], .str [], .int .i64 0, .int .i64 0, .int .i64 0, .int .i64 0, .int .i64 0, .int .i64 0, .bool false]) then (rdL (splice [.str [], .str [], .int .i64 0, .int .i64 0, .int .i64 0, .int .i64 0, .int .i64 0, .int .i64 0, .bool false] (0) c8) 0 2).bind fun c9 =>
 (fromCells true c9).bind fun v10 =>
 (call 24 [(xs.getD 0 .undef), v10] h).bind fun r11 =>
 (rdL (splice [.str [], .str [], .int .i64 0, .int .i64 0, .int .i64 0, .int .i64 0, .int .i64 0, .int .i64 0, .bool false] (0) c8) 2 1).bind fun c12 =>
 (fromCells false c12).bind fun v13 =>
 (call 23 [r11.1, v13] r11.2).bind fun r14 =>
 (rdL (splice [.str [], .str [], .int .i64 0, .int .i64 0, .int .i64 0, .int .i64 0, .int .i64 0, .int .i64 0, .bool false] (0) c8) 3 1).bind fun c15 =>
 (fromCells false c15).bind fun v16 =>
 (call 23 [r14.1, v16] r14.2).bind fun r17 =>
 bif checkPairs [(5, some (.lrd 6 (3) 1)), (3, some (.ef [(6, (splice [.str [], .str [], .int .i64 0, .int .i64 0, .int .i64 0, .int .i64 0, .int .i64 0, .int .i64 0, .bool false] (0) c8))] r11.2 [(6, (splice [.str [], .str [], .int .i64 0, .int .i64 0, .int .i64 0, .int .i64 0, .int .i64 0, .int .i64 0, .bool false] (0) c8))] r14.2))] [(5, 3)] then (rdL (splice [.str [], .str [], .int .i64 0, .int .i64 0, .int .i64 0, .int .i64 0, .int .i64 0, .int .i64 0, .bool false] (0) c8) 4 1).bind fun c18 =>
 (fromCells false c18).bind fun v19 =>
 (call 11 [r17.1, v19] r17.2).bind fun r20 =>
 (rdL (splice [.str [], .str [], .int .i64 0, .int .i64 0, .int .i64 0, .int .i64 0, .int .i64 0, .int .i64 0, .bool false] (0) c8) 5 1).bind fun c21 =>
 (fromCells false c21).bind fun v22 =>
 (call 11 [r20.1, v22] r20.2).bind fun r23 =>
 bif checkPairs [(6, some (.lrd 6 (5) 1)), (3, some (.ef [(6, (splice [.str [], .str [], .int .i64 0, .int .i64 0, .int .i64 0, .int .i64 0, .int .i64 0, .int .i64 0, .bool false] (0) c8))] r17.2 [(6, (splice [.str [], .str [], .int .i64 0, .int .i64 0, .int .i64 0, .int .i64 0, .int .i64 0, .int .i64 0, .bool false] (0) c8))] r20.2))] [(6, 3)] then (rdL (splice [.str [], .str [], .int .i64 0, .int .i64 0, .int .i64 0, .int .i64 0, .int .i64 0, .int .i64 0, .bool false] (0) c8) 6 1).bind fun c24 =>
 (fromCells false c24).bind fun v25 =>
 (call 23 [r23.1, v25] r23.2).bind fun r26 =>
 (rdL (splice [.str [], .str [], .int .i64 0, .int .i64 0, .int .i64 0, .int .i64 0, .int .i64 0, .int .i64 0, .bool false] (0) c8) 7 1).bind fun c27 =>
 (fromCells false c27).bind fun v28 =>
 (call 11 [r26.1, v28] r26.2).bind fun r29 =>
 bif checkPairs [(7, some (.lrd 6 (7) 1)), (4, some (.ef [(6, (splice [.str [], .str [], .int .i64 0, .int .i64 0, .int .i64 0, .int .i64 0, .int .i64 0, .int .i64 0, .bool false] (0) c8))] r23.2 [(6, (splice [.str [], .str [], .int .i64 0, .int .i64 0, .int .i64 0, .int .i64 0, .int .i64 0, .int .i64 0, .bool false] (0) c8))] r26.2))] [(7, 4)] then (rdL (splice [.str [], .str [], .int .i64 0, .int .i64 0, .int .i64 0, .int .i64 0, .int .i64 0, .int .i64 0, .bool false] (0) c8) 8 1).bind fun c30 =>
 (fromCells false c30).bind fun v31 =>
 (call 25 [v31] r29.2).bind fun r32 =>
 (call 23 [r29.1, r32.1] r32.2).bind fun r33 =>
 (aBin .add .plain (xs.getD 3 .undef) (.int .i64 1)).bind fun v34 =>
 some (0, [r33.1, (xs.getD 1 .undef), (xs.getD 2 .undef), v34], r33.2) else none else none else none else none)
 (some (1, [(xs.getD 0 .undef)], h))
noncomputable def S26 (call : Go.Fw.Call) (a0 a1 : AVal) (h : Heap) : Option J :=
 (aLen false a1).bind fun v1 =>
 (call 23 [a0, v1] h).bind fun r2 =>
 (aLen false a1).bind fun v3 =>
 (loop (L26_0 call) [r2.1, a1, v3, (.int .i64 0)] r2.2).bind fun x35 =>
 bif Nat.beq x35.1 1 then some (0, [(x35.2.1.getD 0 .undef)], x35.2.2) else
 none
theorem run26 (call : Go.Fw.Call) (a0 a1 : AVal) (h : Heap) : runFn call (.code A26) [a0, a1] h = (S26 call a0 a1 h).bind ansOf := by kernel_rfl
noncomputable def A27 : AFunc := ⟨1, (.seq (.region [.op 0 (.alloc 2 true mz),
 .op 1 (.mov 3 (.const (.nilIface)))] [])
 (.seq (.region [.op 0 (.mov 7 (.tmp 0)),
 .op 1 (.call 8 59 [.tmp 7]),
 .op 2 (.build 9 [.nilPtr, .bool false] [(0, 1, .tmp 8)]),
 .op 3 (.box 10 false (.tmp 9)),
 .op 4 (.mov 4 (.tmp 10))] [])
 (.seq (.region [.op 0 (.mov 11 (.tmp 4)),
 .op 1 (.call 12 60 [.tmp 11]),
 .op 2 (.alloc 5 true mz),
 .op 3 (.store true 13 (.tmp 5) (.tmp 12))] [])
 (.seq (.seq (.region [.op 0 (.mov 13 (.tmp 4)),
 .op 1 (.nilchk 14 (.tmp 13)),
 .op 2 (.faddr 15 0 (.tmp 14)),
 .op 3 (.load 16 false 1 (.tmp 15)),
 .op 4 (.call 17 61 [.tmp 16]),
 .op 5 (.un 18 .not (.tmp 17)),
 .op 6 (.mov 19 (.tmp 18)),
 .guard 19 false [.op 7 (.mov 20 (.tmp 4)),
 .op 8 (.nilchk 21 (.tmp 20)),
 .op 9 (.faddr 22 1 (.tmp 21)),
 .op 10 (.load 23 false 1 (.tmp 22))] [] [23],
 .op 11 (.pick 24 (.tmp 19) (.const (.bool true)) (.tmp 23))] [])
 (.cond (.tmp 24)
 (.seq (.region [.op 0 (.build 25 mz []),
 .op 1 (.call 26 48 [.const (.str [98, 121, 116, 101, 115]), .const (.int .i64 12)]),
 .op 2 (.call 27 37 [.const (.str [114, 101, 97, 100]), .tmp 26]),
 .op 3 (.store true 13 (.tmp 2) (.tmp 25)),
 .op 4 (.mov 3 (.tmp 27))] [])
 .ret)
 .skip))
 (.seq (.seq (.region [.op 0 (.load 28 true 13 (.tmp 5)),
 .op 1 (.call 29 22 [.tmp 28]),
 .op 2 (.mov 6 (.tmp 29))] [])
 (.seq (.region [.op 0 (.mov 30 (.tmp 6)),
 .op 1 (.bin 31 .neq (.iface true []) (.tmp 30) (.const (.nilIface)))] [])
 (.cond (.tmp 31)
 (.seq (.region [.op 0 (.build 32 mz []),
 .op 1 (.mov 33 (.tmp 6)),
 .op 2 (.call 34 37 [.const (.str [114, 101, 97, 100]), .tmp 33]),
 .op 3 (.store true 13 (.tmp 2) (.tmp 32)),
 .op 4 (.mov 3 (.tmp 34))] [])
 .ret)
 .skip)))
 (.seq (.region [.op 0 (.load 35 true 13 (.tmp 5)),
 .op 1 (.store true 13 (.tmp 2) (.tmp 35)),
 .op 2 (.mov 3 (.const (.nilIface)))] [])
 .ret)))))),
 [.cell 2 true 13, .tmp 3]⟩
theorem ok27 : funcOk Tryz.prog (drawOk Tryz.prog) Tryz.f27 A27 = true := by kernel_rfl
noncomputable def S27 (call : Go.Fw.Call) (a0 : AVal) (h : Heap) : Option J :=
 (call 59 [a0] h).bind fun r1 =>
 (aFill [.nilPtr, .bool false] [(0, 1, r1.1)]).bind fun c2 =>
 (AVal.cells? (.agg c2)).bind fun c3 =>
 (call 60 [(.ptr r1.2.next 0)] (r1.2.alloc c3)).bind fun r5 =>
 (aCells 13 r5.1).bind fun c6 =>
 bif Nat.ble ((0) + 13) (List.length (α := AVal) [.int .i64 0, .int .i64 0, .int .i64 0, .int .i64 0, .int .i64 0, .int .i64 0, .int .i64 0, .str [], .str [], .bool false, .int .u32 0, .nilSlice, .nilSlice]) then (aNilchk (.ptr r1.2.next 0)).bind fun v7 =>
 (aFaddr 0 v7).bind fun v8 =>
 (aLoad r5.2 1 v8).bind fun c9 =>
 (fromCells false c9).bind fun v10 =>
 (call 61 [v10] r5.2).bind fun r11 =>
 (aUn .not r11.1).bind fun v12 =>
 (guardV v12 false
 ((aNilchk (.ptr r1.2.next 0)).bind fun v13 =>
 (aFaddr 1 v13).bind fun v14 =>
 (aLoad r11.2 1 v14).bind fun c15 =>
 (fromCells false c15).bind fun v16 =>
 some (0, [v16], r11.2))
 (some (0, [skipV], r11.2))).bind fun g17 =>
 (aPick v12 (.bool true) (g17.2.1.getD 0 .undef)).bind fun v18 =>
 condV v18
 ((aFill [.int .i64 0, .int .i64 0, .int .i64 0, .int .i64 0, .int .i64 0, .int .i64 0, .int .i64 0, .str [], .str [], .bool false, .int .u32 0, .nilSlice, .nilSlice] []).bind fun c19 =>
 (call 48 [(.str [98, 121, 116, 101, 115]), (.int .i64 12)] g17.2.2).bind fun r20 =>
 (call 37 [(.str [114, 101, 97, 100]), r20.1] r20.2).bind fun r21 =>
 (aCells 13 (.agg c19)).bind fun c22 =>
 bif Nat.ble ((0) + 13) (List.length (α := AVal) [.int .i64 0, .int .i64 0, .int .i64 0, .int .i64 0, .int .i64 0, .int .i64 0, .int .i64 0, .str [], .str [], .bool false, .int .u32 0, .nilSlice, .nilSlice]) then (((rdL (splice [.int .i64 0, .int .i64 0, .int .i64 0, .int .i64 0, .int .i64 0, .int .i64 0, .int .i64 0, .str [], .str [], .bool false, .int .u32 0, .nilSlice, .nilSlice] (0) c22) (0) 13).bind fun cs => fromCells true cs).bind fun v => ((some r21.1).bind fun v => (some []).bind fun vs => some (v :: vs)).bind fun vs => some (v :: vs)).bind fun vs => some (0, [oneOr vs], r21.2) else none)
 ((rdL (splice [.int .i64 0, .int .i64 0, .int .i64 0, .int .i64 0, .int .i64 0, .int .i64 0, .int .i64 0, .str [], .str [], .bool false, .int .u32 0, .nilSlice, .nilSlice] (0) c6) 0 13).bind fun c23 =>
 (fromCells true c23).bind fun v24 =>
 (call 22 [v24] g17.2.2).bind fun r25 =>
 (aBin .neq (.iface true []) r25.1 (.nilIface)).bind fun v26 =>
 condV v26
 ((aFill [.int .i64 0, .int .i64 0, .int .i64 0, .int .i64 0, .int .i64 0, .int .i64 0, .int .i64 0, .str [], .str [], .bool false, .int .u32 0, .nilSlice, .nilSlice] []).bind fun c27 =>
 (call 37 [(.str [114, 101, 97, 100]), r25.1] r25.2).bind fun r28 =>
 (aCells 13 (.agg c27)).bind fun c29 =>
 bif Nat.ble ((0) + 13) (List.length (α := AVal) [.int .i64 0, .int .i64 0, .int .i64 0, .int .i64 0, .int .i64 0, .int .i64 0, .int .i64 0, .str [], .str [], .bool false, .int .u32 0, .nilSlice, .nilSlice]) then (((rdL (splice [.int .i64 0, .int .i64 0, .int .i64 0, .int .i64 0, .int .i64 0, .int .i64 0, .int .i64 0, .str [], .str [], .bool false, .int .u32 0, .nilSlice, .nilSlice] (0) c29) (0) 13).bind fun cs => fromCells true cs).bind fun v => ((some r28.1).bind fun v => (some []).bind fun vs => some (v :: vs)).bind fun vs => some (v :: vs)).bind fun vs => some (0, [oneOr vs], r28.2) else none)
 ((rdL (splice [.int .i64 0, .int .i64 0, .int .i64 0, .int .i64 0, .int .i64 0, .int .i64 0, .int .i64 0, .str [], .str [], .bool false, .int .u32 0, .nilSlice, .nilSlice] (0) c6) 0 13).bind fun c30 =>
 (fromCells true c30).bind fun v31 =>
 (aCells 13 v31).bind fun c32 =>
 bif Nat.ble ((0) + 13) (List.length (α := AVal) [.int .i64 0, .int .i64 0, .int .i64 0, .int .i64 0, .int .i64 0, .int .i64 0, .int .i64 0, .str [], .str [], .bool false, .int .u32 0, .nilSlice, .nilSlice]) then (((rdL (splice [.int .i64 0, .int .i64 0, .int .i64 0, .int .i64 0, .int .i64 0, .int .i64 0, .int .i64 0, .str [], .str [], .bool false, .int .u32 0, .nilSlice, .nilSlice] (0) c32) (0) 13).bind fun cs => fromCells true cs).bind fun v => ((some (.nilIface)).bind fun v => (some []).bind fun vs => some (v :: vs)).bind fun vs => some (v :: vs)).bind fun vs => some (0, [oneOr vs], r25.2) else none)) else none
theorem run27 (call : Go.Fw.Call) (a0 : AVal) (h : Heap) : runFn call (.code A27) [a0] h = (S27 call a0 h).bind ansOf := by kernel_rfl
noncomputable def A28 : AFunc := ⟨1, (.seq (.region [.op 0 (.alloc 2 true mz),
 .op 1 (.mov 3 (.const (.str []))),
 .op 2 (.mov 4 (.const (.int .i64 0)))] [])
 (.seq (.region [.op 0 (.mov 10 (.tmp 0)),
 .op 1 (.call 11 62 [.tmp 10]),
 .op 2 (.mov 9 (.tmp 11)),
 .op 3 (.extract 12 (.tmp 9) 0),
 .op 4 (.extract 13 (.tmp 9) 1),
 .op 5 (.alloc 5 true mz),
 .op 6 (.store true 13 (.tmp 5) (.tmp 12)),
 .op 7 (.mov 6 (.tmp 13))] [])
 (.seq (.seq (.region [.op 0 (.mov 14 (.tmp 6)),
 .op 1 (.un 15 .not (.tmp 14))] [])
 (.cond (.tmp 15)
 (.seq (.region [.op 0 (.build 16 mz []),
 .op 1 (.store true 13 (.tmp 2) (.tmp 16)),
 .op 2 (.mov 3 (.const (.str [98, 121, 116, 101, 115]))),
 .op 3 (.mov 4 (.const (.int .i64 12)))] [])
 .ret)
 .skip))
 (.seq (.seq (.region [.op 0 (.load 18 true 13 (.tmp 5)),
 .op 1 (.call 19 19 [.tmp 18]),
 .op 2 (.mov 17 (.tmp 19)),
 .op 3 (.extract 20 (.tmp 17) 0),
 .op 4 (.extract 21 (.tmp 17) 1),
 .op 5 (.mov 7 (.tmp 20)),
 .op 6 (.mov 8 (.tmp 21))] [])
 (.seq (.region [.op 0 (.mov 22 (.tmp 8)),
 .op 1 (.bin 23 .neq .plain (.tmp 22) (.const (.int .i64 0)))] [])
 (.cond (.tmp 23)
 (.seq (.region [.op 0 (.build 24 mz []),
 .op 1 (.mov 25 (.tmp 7)),
 .op 2 (.mov 26 (.tmp 8)),
 .op 3 (.store true 13 (.tmp 2) (.tmp 24)),
 .op 4 (.mov 3 (.tmp 25)),
 .op 5 (.mov 4 (.tmp 26))] [])
 .ret)
 .skip)))
 (.seq (.region [.op 0 (.load 27 true 13 (.tmp 5)),
 .op 1 (.store true 13 (.tmp 2) (.tmp 27)),
 .op 2 (.mov 3 (.const (.str []))),
 .op 3 (.mov 4 (.const (.int .i64 0)))] [])
 .ret))))),
 [.cell 2 true 13, .tmp 3, .tmp 4]⟩
theorem ok28 : funcOk Tryz.prog (drawOk Tryz.prog) Tryz.f28 A28 = true := by kernel_rfl
noncomputable def S28 (call : Go.Fw.Call) (a0 : AVal) (h : Heap) : Option J :=
 (call 62 [a0] h).bind fun r1 =>
 (aExtract 0 r1.1).bind fun v2 =>
 (aExtract 1 r1.1).bind fun v3 =>
 (aCells 13 v2).bind fun c4 =>
 bif Nat.ble ((0) + 13) (List.length (α := AVal) [.int .i64 0, .int .i64 0, .int .i64 0, .int .i64 0, .int .i64 0, .int .i64 0, .int .i64 0, .str [], .str [], .bool false, .int .u32 0, .nilSlice, .nilSlice]) then (aUn .not v3).bind fun v5 =>
 condV v5
 ((aFill [.int .i64 0, .int .i64 0, .int .i64 0, .int .i64 0, .int .i64 0, .int .i64 0, .int .i64 0, .str [], .str [], .bool false, .int .u32 0, .nilSlice, .nilSlice] []).bind fun c6 =>
 (aCells 13 (.agg c6)).bind fun c7 =>
 bif Nat.ble ((0) + 13) (List.length (α := AVal) [.int .i64 0, .int .i64 0, .int .i64 0, .int .i64 0, .int .i64 0, .int .i64 0, .int .i64 0, .str [], .str [], .bool false, .int .u32 0, .nilSlice, .nilSlice]) then (((rdL (splice [.int .i64 0, .int .i64 0, .int .i64 0, .int .i64 0, .int .i64 0, .int .i64 0, .int .i64 0, .str [], .str [], .bool false, .int .u32 0, .nilSlice, .nilSlice] (0) c7) (0) 13).bind fun cs => fromCells true cs).bind fun v => ((some (.str [98, 121, 116, 101, 115])).bind fun v => ((some (.int .i64 12)).bind fun v => (some []).bind fun vs => some (v :: vs)).bind fun vs => some (v :: vs)).bind fun vs => some (v :: vs)).bind fun vs => some (0, [oneOr vs], r1.2) else none)
 ((rdL (splice [.int .i64 0, .int .i64 0, .int .i64 0, .int .i64 0, .int .i64 0, .int .i64 0, .int .i64 0, .str [], .str [], .bool false, .int .u32 0, .nilSlice, .nilSlice] (0) c4) 0 13).bind fun c8 =>
 (fromCells true c8).bind fun v9 =>
 (call 19 [v9] r1.2).bind fun r10 =>
 (aExtract 0 r10.1).bind fun v11 =>
 (aExtract 1 r10.1).bind fun v12 =>
 (aBin .neq .plain v12 (.int .i64 0)).bind fun v13 =>
 condV v13
 ((aFill [.int .i64 0, .int .i64 0, .int .i64 0, .int .i64 0, .int .i64 0, .int .i64 0, .int .i64 0, .str [], .str [], .bool false, .int .u32 0, .nilSlice, .nilSlice] []).bind fun c14 =>
 (aCells 13 (.agg c14)).bind fun c15 =>
 bif Nat.ble ((0) + 13) (List.length (α := AVal) [.int .i64 0, .int .i64 0, .int .i64 0, .int .i64 0, .int .i64 0, .int .i64 0, .int .i64 0, .str [], .str [], .bool false, .int .u32 0, .nilSlice, .nilSlice]) then (((rdL (splice [.int .i64 0, .int .i64 0, .int .i64 0, .int .i64 0, .int .i64 0, .int .i64 0, .int .i64 0, .str [], .str [], .bool false, .int .u32 0, .nilSlice, .nilSlice] (0) c15) (0) 13).bind fun cs => fromCells true cs).bind fun v => ((some v11).bind fun v => ((some v12).bind fun v => (some []).bind fun vs => some (v :: vs)).bind fun vs => some (v :: vs)).bind fun vs => some (v :: vs)).bind fun vs => some (0, [oneOr vs], r10.2) else none)
 ((rdL (splice [.int .i64 0, .int .i64 0, .int .i64 0, .int .i64 0, .int .i64 0, .int .i64 0, .int .i64 0, .str [], .str [], .bool false, .int .u32 0, .nilSlice, .nilSlice] (0) c4) 0 13).bind fun c16 =>
 (fromCells true c16).bind fun v17 =>
 (aCells 13 v17).bind fun c18 =>
 bif Nat.ble ((0) + 13) (List.length (α := AVal) [.int .i64 0, .int .i64 0, .int .i64 0, .int .i64 0, .int .i64 0, .int .i64 0, .int .i64 0, .str [], .str [], .bool false, .int .u32 0, .nilSlice, .nilSlice]) then (((rdL (splice [.int .i64 0, .int .i64 0, .int .i64 0, .int .i64 0, .int .i64 0, .int .i64 0, .int .i64 0, .str [], .str [], .bool false, .int .u32 0, .nilSlice, .nilSlice] (0) c18) (0) 13).bind fun cs => fromCells true cs).bind fun v => ((some (.str [])).bind fun v => ((some (.int .i64 0)).bind fun v => (some []).bind fun vs => some (v :: vs)).bind fun vs => some (v :: vs)).bind fun vs => some (v :: vs)).bind fun vs => some (0, [oneOr vs], r10.2) else none)) else none
theorem run28 (call : Go.Fw.Call) (a0 : AVal) (h : Heap) : runFn call (.code A28) [a0] h = (S28 call a0 h).bind ansOf := by kernel_rfl
noncomputable def A29 : AFunc := ⟨2, (.seq (.region [.op 0 (.mov 4 (.const (.bool false)))] [])
 (.seq (.seq (.region [.op 0 (.mov 6 (.tmp 0)),
 .op 1 (.len 7 false (.tmp 6)),
 .op 2 (.mov 8 (.tmp 1)),
 .op 3 (.len 9 false (.tmp 8)),
 .op 4 (.bin 10 .neq .plain (.tmp 7) (.tmp 9))] [])
 (.cond (.tmp 10)
 (.seq (.region [.op 0 (.mov 4 (.const (.bool false)))] [])
 .ret)
 .skip))
 (.seq (.seq (.region [.op 0 (.mov 11 (.tmp 0)),
 .op 1 (.len 12 false (.tmp 11)),
 .op 2 (.mov 13 (.const (.int .i64 0)))] [])
 (.block 0 (.loop ⟨[0, 1, 12, 13], []⟩ [((.exit 0), ⟨[], []⟩), (.ret, ⟨[4], []⟩)]
 (.seq (.region [.op 0 (.bin 14 .lss .plain (.tmp 13) (.tmp 12))] [])
 (.seq (.cond (.tmp 14)
 .skip
 (.exit 0))
 (.seq (.block 1 (.seq (.region [.op 0 (.mov 15 (.tmp 13)),
 .op 1 (.mov 5 (.tmp 15))] [])
 (.seq (.region [.op 0 (.mov 16 (.tmp 0)),
 .op 1 (.mov 17 (.tmp 5)),
 .op 2 (.iaddr 18 none 9 (.tmp 16) (.tmp 17)),
 .op 3 (.load 19 true 9 (.tmp 18)),
 .op 4 (.mov 20 (.tmp 1)),
 .op 5 (.mov 21 (.tmp 5)),
 .op 6 (.iaddr 22 none 9 (.tmp 20) (.tmp 21)),
 .op 7 (.load 23 true 9 (.tmp 22)),
 .op 8 (.bin 24 .neq (.cells [2, 2, 1, 1, 1, 1, 1, 1, 0]) (.tmp 19) (.tmp 23))] [])
 (.cond (.tmp 24)
 (.seq (.region [.op 0 (.mov 4 (.const (.bool false)))] [])
 .ret)
 .skip))))
 (.region [.op 0 (.bin 25 .add .plain (.tmp 13) (.const (.int .i64 1))),
 .op 1 (.mov 13 (.tmp 25))] [])))))))
 (.seq (.region [.op 0 (.mov 4 (.const (.bool true)))] [])
 .ret)))),
 [.tmp 4]⟩
theorem ok29 : funcOk Tryz.prog (drawOk Tryz.prog) Tryz.f29 A29 = true := by kernel_rfl
noncomputable def L29_0 (call : Go.Fw.Call) (xs : List AVal) (h : Heap) : Option J :=
 (aBin .lss .plain (xs.getD 3 .undef) (xs.getD 2 .undef)).bind fun v5 =>
 condV v5
 ((aIaddr 9 (xs.getD 0 .undef) (xs.getD 3 .undef)).bind fun v6 =>
 (aLoad h 9 v6).bind fun c7 =>
 (fromCells true c7).bind fun v8 =>
 (aIaddr 9 (xs.getD 1 .undef) (xs.getD 3 .undef)).bind fun v9 =>
 (aLoad h 9 v9).bind fun c10 =>
 (fromCells true c10).bind fun v11 =>
 (aBin .neq (.cells [2, 2, 1, 1, 1, 1, 1, 1, 0]) v8 v11).bind fun v12 =>
 condV v12
 (some (2, [(.bool false)], h))
 ((aBin .add .plain (xs.getD 3 .undef) (.int .i64 1)).bind fun v13 =>
 some (0, [(xs.getD 0 .undef), (xs.getD 1 .undef), (xs.getD 2 .undef), v13], h)))
 (some (1, [], h))
noncomputable def S29 (call : Go.Fw.Call) (a0 a1 : AVal) (h : Heap) : Option J :=
 (aLen false a0).bind fun v1 =>
 (aLen false a1).bind fun v2 =>
 (aBin .neq .plain v1 v2).bind fun v3 =>
 condV v3
 (some (0, [(.bool false)], h))
 ((aLen false a0).bind fun v4 =>
 (loop (L29_0 call) [a0, a1, v4, (.int .i64 0)] h).bind fun x14 =>
 bif Nat.beq x14.1 1 then some (0, [(.bool true)], x14.2.2) else
 bif Nat.beq x14.1 2 then some (0, [(x14.2.1.getD 0 .undef)], x14.2.2) else
 none)
theorem run29 (call : Go.Fw.Call) (a0 a1 : AVal) (h : Heap) : runFn call (.code A29) [a0, a1] h = (S29 call a0 a1 h).bind ansOf := by kernel_rfl
noncomputable def A30 : AFunc := ⟨2, (.seq (.region [.op 0 (.mov 4 (.const (.bool false)))] [])
 (.seq (.seq (.region [.op 0 (.mov 6 (.tmp 0)),
 .op 1 (.len 7 false (.tmp 6)),
 .op 2 (.mov 8 (.tmp 1)),
 .op 3 (.len 9 false (.tmp 8)),
 .op 4 (.bin 10 .neq .plain (.tmp 7) (.tmp 9))] [])
 (.cond (.tmp 10)
 (.seq (.region [.op 0 (.mov 4 (.const (.bool false)))] [])
 .ret)
 .skip))
 (.seq (.seq (.region [.op 0 (.mov 11 (.tmp 0)),
 .op 1 (.len 12 false (.tmp 11)),
 .op 2 (.mov 13 (.const (.int .i64 0)))] [])
 (.block 0 (.loop ⟨[0, 1, 12, 13], []⟩ [((.exit 0), ⟨[], []⟩), (.ret, ⟨[4], []⟩)]
 (.seq (.region [.op 0 (.bin 14 .lss .plain (.tmp 13) (.tmp 12))] [])
 (.seq (.cond (.tmp 14)
 .skip
 (.exit 0))
 (.seq (.block 1 (.seq (.region [.op 0 (.mov 15 (.tmp 13)),
 .op 1 (.mov 5 (.tmp 15))] [])
 (.seq (.region [.op 0 (.mov 16 (.tmp 0)),
 .op 1 (.mov 17 (.tmp 5)),
 .op 2 (.iaddr 18 none 2 (.tmp 16) (.tmp 17)),
 .op 3 (.load 19 true 2 (.tmp 18)),
 .op 4 (.mov 20 (.tmp 1)),
 .op 5 (.mov 21 (.tmp 5)),
 .op 6 (.iaddr 22 none 2 (.tmp 20) (.tmp 21)),
 .op 7 (.load 23 true 2 (.tmp 22)),
 .op 8 (.bin 24 .neq (.cells [2, 2]) (.tmp 19) (.tmp 23))] [])
 (.cond (.tmp 24)
 (.seq (.region [.op 0 (.mov 4 (.const (.bool false)))] [])
 .ret)
 .skip))))
 (.region [.op 0 (.bin 25 .add .plain (.tmp 13) (.const (.int .i64 1))),
 .op 1 (.mov 13 (.tmp 25))] [])))))))
 (.seq (.region [.op 0 (.mov 4 (.const (.bool true)))] [])
 .ret)))),
 [.tmp 4]⟩
theorem ok30 : funcOk Tryz.prog (drawOk Tryz.prog) Tryz.f30 A30 = true := by kernel_rfl
noncomputable def L30_0 (call : Go.Fw.Call) (xs : List AVal) (h : Heap) : Option J :=
 (aBin .lss .plain (xs.getD 3 .undef) (xs.getD 2 .undef)).bind fun v5 =>
 condV v5
 ((aIaddr 2 (xs.getD 0 .undef) (xs.getD 3 .undef)).bind fun v6 =>
 (aLoad h 2 v6).bind fun c7 =>
 (fromCells true c7).bind fun v8 =>
 (aIaddr 2 (xs.getD 1 .undef) (xs.getD 3 .undef)).bind fun v9 =>
 (aLoad h 2 v9).bind fun c10 =>
 (fromCells true c10).bind fun v11 =>
 (aBin .neq (.cells [2, 2]) v8 v11).bind fun v12 =>
 condV v12
 (some (2, [(.bool false)], h))
 ((aBin .add .plain (xs.getD 3 .undef) (.int .i64 1)).bind fun v13 =>
 some (0, [(xs.getD 0 .undef), (xs.getD 1 .undef), (xs.getD 2 .undef), v13], h)))
 (some (1, [], h))
noncomputable def S30 (call : Go.Fw.Call) (a0 a1 : AVal) (h : Heap) : Option J :=
 (aLen false a0).bind fun v1 =>
 (aLen false a1).bind fun v2 =>
 (aBin .neq .plain v1 v2).bind fun v3 =>
 condV v3
 (some (0, [(.bool false)], h))
 ((aLen false a0).bind fun v4 =>
 (loop (L30_0 call) [a0, a1, v4, (.int .i64 0)] h).bind fun x14 =>
 bif Nat.beq x14.1 1 then some (0, [(.bool true)], x14.2.2) else
 bif Nat.beq x14.1 2 then some (0, [(x14.2.1.getD 0 .undef)], x14.2.2) else
 none)
theorem run30 (call : Go.Fw.Call) (a0 a1 : AVal) (h : Heap) : runFn call (.code A30) [a0, a1] h = (S30 call a0 a1 h).bind ansOf := by kernel_rfl
noncomputable def A31 : AFunc := ⟨2, (.seq (.region [.op 0 (.mov 4 (.const (.bool false)))] [])
 (.seq (.seq (.region [.op 0 (.mov 6 (.tmp 0)),
 .op 1 (.len 7 false (.tmp 6)),
 .op 2 (.mov 8 (.tmp 1)),
 .op 3 (.len 9 false (.tmp 8)),
 .op 4 (.bin 10 .neq .plain (.tmp 7) (.tmp 9))] [])
 (.cond (.tmp 10)
 (.seq (.region [.op 0 (.mov 4 (.const (.bool false)))] [])
 .ret)
 .skip))
 (.seq (.seq (.region [.op 0 (.mov 11 (.tmp 0)),
 .op 1 (.len 12 false (.tmp 11)),
 .op 2 (.mov 13 (.const (.int .i64 0)))] [])
 (.block 0 (.loop ⟨[0, 1, 12, 13], []⟩ [((.exit 0), ⟨[], []⟩), (.ret, ⟨[4], []⟩)]
 (.seq (.region [.op 0 (.bin 14 .lss .plain (.tmp 13) (.tmp 12))] [])
 (.seq (.cond (.tmp 14)
 .skip
 (.exit 0))
 (.seq (.block 1 (.seq (.region [.op 0 (.mov 15 (.tmp 13)),
 .op 1 (.mov 5 (.tmp 15))] [])
 (.seq (.region [.op 0 (.mov 16 (.tmp 0)),
 .op 1 (.mov 17 (.tmp 5)),
 .op 2 (.iaddr 18 none 9 (.tmp 16) (.tmp 17)),
 .op 3 (.load 19 true 9 (.tmp 18)),
 .op 4 (.mov 20 (.tmp 1)),
 .op 5 (.mov 21 (.tmp 5)),
 .op 6 (.iaddr 22 none 9 (.tmp 20) (.tmp 21)),
 .op 7 (.load 23 true 9 (.tmp 22)),
 .op 8 (.bin 24 .neq (.cells [2, 2, 1, 1, 1, 1, 1, 1, 0]) (.tmp 19) (.tmp 23))] [])
 (.cond (.tmp 24)
 (.seq (.region [.op 0 (.mov 4 (.const (.bool false)))] [])
 .ret)
 .skip))))
 (.region [.op 0 (.bin 25 .add .plain (.tmp 13) (.const (.int .i64 1))),
 .op 1 (.mov 13 (.tmp 25))] [])))))))
 (.seq (.region [.op 0 (.mov 4 (.const (.bool true)))] [])
 .ret)))),
 [.tmp 4]⟩
theorem ok31 : funcOk Tryz.prog (drawOk Tryz.prog) Tryz.f31 A31 = true := by kernel_rfl
noncomputable def L31_0 (call : Go.Fw.Call) (xs : List AVal) (h : Heap) : Option J :=
 (aBin .lss .plain (xs.getD 3 .undef) (xs.getD 2 .undef)).bind fun v5 =>
 condV v5
 ((aIaddr 9 (xs.getD 0 .undef) (xs.getD 3 .undef)).bind fun v6 =>
 (aLoad h 9 v6).bind fun c7 =>
 (fromCells true c7).bind fun v8 =>
 (aIaddr 9 (xs.getD 1 .undef) (xs.getD 3 .undef)).bind fun v9 =>
 (aLoad h 9 v9).bind fun c10 =>
 (fromCells true c10).bind fun v11 =>
 (aBin .neq (.cells [2, 2, 1, 1, 1, 1, 1, 1, 0]) v8 v11).bind fun v12 =>
 condV v12
 (some (2, [(.bool false)], h))
 ((aBin .add .plain (xs.getD 3 .undef) (.int .i64 1)).bind fun v13 =>
 some (0, [(xs.getD 0 .undef), (xs.getD 1 .undef), (xs.getD 2 .undef), v13], h)))
 (some (1, [], h))
noncomputable def S31 (call : Go.Fw.Call) (a0 a1 : AVal) (h : Heap) : Option J :=
 (aLen false a0).bind fun v1 =>
 (aLen false a1).bind fun v2 =>
 (aBin .neq .plain v1 v2).bind fun v3 =>
 condV v3
 (some (0, [(.bool false)], h))
 ((aLen false a0).bind fun v4 =>
 (loop (L31_0 call) [a0, a1, v4, (.int .i64 0)] h).bind fun x14 =>
 bif Nat.beq x14.1 1 then some (0, [(.bool true)], x14.2.2) else
 bif Nat.beq x14.1 2 then some (0, [(x14.2.1.getD 0 .undef)], x14.2.2) else
 none)
theorem run31 (call : Go.Fw.Call) (a0 a1 : AVal) (h : Heap) : runFn call (.code A31) [a0, a1] h = (S31 call a0 a1 h).bind ansOf := by kernel_rfl
noncomputable def A32 : AFunc := ⟨2, (.seq (.region [.op 0 (.mov 4 (.const (.bool false)))] [])
 (.seq (.seq (.region [.op 0 (.mov 6 (.tmp 0)),
 .op 1 (.len 7 false (.tmp 6)),
 .op 2 (.mov 8 (.tmp 1)),
 .op 3 (.len 9 false (.tmp 8)),
 .op 4 (.bin 10 .neq .plain (.tmp 7) (.tmp 9))] [])
 (.cond (.tmp 10)
 (.seq (.region [.op 0 (.mov 4 (.const (.bool false)))] [])
 .ret)
 .skip))
 (.seq (.seq (.region [.op 0 (.mov 11 (.tmp 0)),
 .op 1 (.len 12 false (.tmp 11)),
 .op 2 (.mov 13 (.const (.int .i64 0)))] [])
 (.block 0 (.loop ⟨[0, 1, 12, 13], []⟩ [((.exit 0), ⟨[], []⟩), (.ret, ⟨[4], []⟩)]
 (.seq (.region [.op 0 (.bin 14 .lss .plain (.tmp 13) (.tmp 12))] [])
 (.seq (.cond (.tmp 14)
 .skip
 (.exit 0))
 (.seq (.block 1 (.seq (.region [.op 0 (.mov 15 (.tmp 13)),
 .op 1 (.mov 5 (.tmp 15))] [])
 (.seq (.region [.op 0 (.mov 16 (.tmp 0)),
 .op 1 (.mov 17 (.tmp 5)),
 .op 2 (.iaddr 18 none 2 (.tmp 16) (.tmp 17)),
 .op 3 (.load 19 true 2 (.tmp 18)),
 .op 4 (.mov 20 (.tmp 1)),
 .op 5 (.mov 21 (.tmp 5)),
 .op 6 (.iaddr 22 none 2 (.tmp 20) (.tmp 21)),
 .op 7 (.load 23 true 2 (.tmp 22)),
 .op 8 (.bin 24 .neq (.cells [2, 2]) (.tmp 19) (.tmp 23))] [])
 (.cond (.tmp 24)
 (.seq (.region [.op 0 (.mov 4 (.const (.bool false)))] [])
 .ret)
 .skip))))
 (.region [.op 0 (.bin 25 .add .plain (.tmp 13) (.const (.int .i64 1))),
 .op 1 (.mov 13 (.tmp 25))] [])))))))
 (.seq (.region [.op 0 (.mov 4 (.const (.bool true)))] [])
 .ret)))),
 [.tmp 4]⟩
theorem ok32 : funcOk Tryz.prog (drawOk Tryz.prog) Tryz.f32 A32 = true := by kernel_rfl
noncomputable def L32_0 (call : Go.Fw.Call) (xs : List AVal) (h : Heap) : Option J :=
 (aBin .lss .plain (xs.getD 3 .undef) (xs.getD 2 .undef)).bind fun v5 =>
 condV v5
 ((aIaddr 2 (xs.getD 0 .undef) (xs.getD 3 .undef)).bind fun v6 =>
 (aLoad h 2 v6).bind fun c7 =>
 (fromCells true c7).bind fun v8 =>
 (aIaddr 2 (xs.getD 1 .undef) (xs.getD 3 .undef)).bind fun v9 =>
 (aLoad h 2 v9).bind fun c10 =>
 (fromCells true c10).bind fun v11 =>
 (aBin .neq (.cells [2, 2]) v8 v11).bind fun v12 =>
 condV v12
 (some (2, [(.bool false)], h))
 ((aBin .add .plain (xs.getD 3 .undef) (.int .i64 1)).bind fun v13 =>
 some (0, [(xs.getD 0 .undef), (xs.getD 1 .undef), (xs.getD 2 .undef), v13], h)))
 (some (1, [], h))
noncomputable def S32 (call : Go.Fw.Call) (a0 a1 : AVal) (h : Heap) : Option J :=
 (aLen false a0).bind fun v1 =>
 (aLen false a1).bind fun v2 =>
 (aBin .neq .plain v1 v2).bind fun v3 =>
 condV v3
 (some (0, [(.bool false)], h))
 ((aLen false a0).bind fun v4 =>
 (loop (L32_0 call) [a0, a1, v4, (.int .i64 0)] h).bind fun x14 =>
 bif Nat.beq x14.1 1 then some (0, [(.bool true)], x14.2.2) else
 bif Nat.beq x14.1 2 then some (0, [(x14.2.1.getD 0 .undef)], x14.2.2) else
 none)
theorem run32 (call : Go.Fw.Call) (a0 a1 : AVal) (h : Heap) : runFn call (.code A32) [a0, a1] h = (S32 call a0 a1 h).bind ansOf := by kernel_rfl
noncomputable def A33 : AFunc := ⟨1, (.seq (.region [.op 0 (.alloc 2 true cz)] [])
 (.seq (.region [.op 0 (.mov 3 (.tmp 0)),
 .op 1 (.call 4 17 [.tmp 3]),
 .op 2 (.mov 5 (.tmp 0)),
 .op 3 (.call 6 16 [.tmp 5, .const (.int .i64 2)]),
 .op 4 (.bin 7 .add .plain (.const (.int .i64 1)) (.tmp 6)),
 .op 5 (.mov 8 (.tmp 0)),
 .op 6 (.call 9 16 [.tmp 8, .const (.int .i64 7)]),
 .op 7 (.bin 10 .quo .plain (.tmp 9) (.const (.int .i64 2))),
 .op 8 (.mov 11 (.tmp 0)),
 .op 9 (.call 12 16 [.tmp 11, .const (.int .i64 60)]),
 .op 10 (.bin 13 .add .plain (.const (.int .i64 1)) (.tmp 12)),
 .op 11 (.mov 14 (.tmp 0)),
 .op 12 (.call 15 63 [.tmp 14]),
 .op 13 (.mov 16 (.tmp 0)),
 .op 14 (.call 17 16 [.tmp 16, .const (.int .i64 4)]),
 .op 15 (.bin 18 .eql .plain (.tmp 17) (.const (.int .i64 0))),
 .op 16 (.build 19 cz [(0, 2, .tmp 4), (2, 1, .tmp 7), (3, 1, .tmp 10), (4, 1, .tmp 13), (5, 3, .tmp 15), (8, 1, .tmp 18)]),
 .op 17 (.store true 9 (.tmp 2) (.tmp 19))] [])
 .ret)),
 [.cell 2 true 9]⟩
theorem ok33 : funcOk Tryz.prog (drawOk Tryz.prog) Tryz.f33 A33 = true := by kernel_rfl
noncomputable def S33 (call : Go.Fw.Call) (a0 : AVal) (h : Heap) : Option J :=
 (call 17 [a0] h).bind fun r1 =>
 (call 16 [a0, (.int .i64 2)] r1.2).bind fun r2 =>
 (aBin .add .plain (.int .i64 1) r2.1).bind fun v3 =>
 (call 16 [a0, (.int .i64 7)] r2.2).bind fun r4 =>
 (aBin .quo .plain r4.1 (.int .i64 2)).bind fun v5 =>
 (call 16 [a0, (.int .i64 60)] r4.2).bind fun r6 =>
 (aBin .add .plain (.int .i64 1) r6.1).bind fun v7 =>
 (call 63 [a0] r6.2).bind fun r8 =>
 (call 16 [a0, (.int .i64 4)] r8.2).bind fun r9 =>
 (aBin .eql .plain r9.1 (.int .i64 0)).bind fun v10 =>
 (aFill [.str [], .str [], .int .i64 0, .int .i64 0, .int .i64 0, .int .i64 0, .int .i64 0, .int .i64 0, .bool false] [(0, 2, r1.1), (2, 1, v3), (3, 1, v5), (4, 1, v7), (5, 3, r8.1), (8, 1, v10)]).bind fun c11 =>
 (aCells 9 (.agg c11)).bind fun c12 =>
 bif Nat.ble ((0) + 9) (List.length (α := AVal) [.str [], .str [], .int .i64 0, .int .i64 0, .int .i64 0, .int .i64 0, .int .i64 0, .int .i64 0, .bool false]) then (((rdL (splice [.str [], .str [], .int .i64 0, .int .i64 0, .int .i64 0, .int .i64 0, .int .i64 0, .int .i64 0, .bool false] (0) c12) (0) 9).bind fun cs => fromCells true cs).bind fun v => (some []).bind fun vs => some (v :: vs)).bind fun vs => some (0, [oneOr vs], r9.2) else none
theorem run33 (call : Go.Fw.Call) (a0 : AVal) (h : Heap) : runFn call (.code A33) [a0] h = (S33 call a0 h).bind ansOf := by kernel_rfl
noncomputable def A34 : AFunc := ⟨1, (.seq (.region [.op 0 (.box 1 true (.tmp 0)),
 .op 1 (.mov 2 (.const (.bool false)))] [])
 (.seq (.region [.op 0 (.faddr 5 0 (.tmp 1)),
 .op 1 (.load 6 false 1 (.tmp 5)),
 .op 2 (.bin 7 .eql .plain (.tmp 6) (.const (.int .i64 1))),
 .op 3 (.faddr 8 0 (.tmp 1)),
 .op 4 (.load 9 false 1 (.tmp 8)),
 .op 5 (.bin 10 .eql .plain (.tmp 9) (.const (.int .i64 2))),
 .op 6 (.mov 3 (.tmp 7)),
 .op 7 (.mov 4 (.tmp 10))] [])
 (.seq (.seq (.region [.op 0 (.mov 11 (.tmp 3)),
 .op 1 (.un 12 .not (.tmp 11)),
 .op 2 (.mov 13 (.tmp 12)),
 .guard 13 true [.op 3 (.mov 14 (.tmp 4)),
 .op 4 (.un 15 .not (.tmp 14))] [] [15],
 .op 5 (.pick 16 (.tmp 13) (.tmp 15) (.const (.bool false))),
 .op 6 (.mov 17 (.tmp 16)),
 .guard 17 true [.op 7 (.faddr 18 1 (.tmp 1)),
 .op 8 (.load 19 false 1 (.tmp 18)),
 .op 9 (.bin 20 .neq .plain (.tmp 19) (.const (.int .i64 0))),
 .op 10 (.mov 21 (.tmp 20)),
 .guard 21 false [.op 11 (.faddr 22 4 (.tmp 1)),
 .op 12 (.load 23 false 1 (.tmp 22)),
 .op 13 (.bin 24 .neq .plain (.tmp 23) (.const (.int .i64 0)))] [] [24],
 .op 14 (.pick 25 (.tmp 21) (.const (.bool true)) (.tmp 24)),
 .op 15 (.mov 26 (.tmp 25)),
 .guard 26 false [.op 16 (.faddr 27 6 (.tmp 1)),
 .op 17 (.load 28 false 1 (.tmp 27)),
 .op 18 (.bin 29 .neq .plain (.tmp 28) (.const (.int .i64 0)))] [] [29],
 .op 19 (.pick 30 (.tmp 26) (.const (.bool true)) (.tmp 29)),
 .op 20 (.mov 31 (.tmp 30)),
 .guard 31 false [.op 21 (.faddr 32 7 (.tmp 1)),
 .op 22 (.faddr 33 0 (.tmp 32)),
 .op 23 (.load 34 false 1 (.tmp 33)),
 .op 24 (.bin 35 .neq .plain (.tmp 34) (.const (.str [])))] [] [35],
 .op 25 (.pick 36 (.tmp 31) (.const (.bool true)) (.tmp 35)),
 .op 26 (.mov 37 (.tmp 36)),
 .guard 37 false [.op 27 (.faddr 38 7 (.tmp 1)),
 .op 28 (.faddr 39 1 (.tmp 38)),
 .op 29 (.load 40 false 1 (.tmp 39)),
 .op 30 (.bin 41 .neq .plain (.tmp 40) (.const (.str [])))] [] [41],
 .op 31 (.pick 42 (.tmp 37) (.const (.bool true)) (.tmp 41))] [] [42],
 .op 32 (.pick 43 (.tmp 17) (.tmp 42) (.const (.bool false)))] [])
 (.cond (.tmp 43)
 (.seq (.region [.op 0 (.mov 2 (.const (.bool false)))] [])
 .ret)
 .skip))
 (.seq (.seq (.region [.op 0 (.mov 44 (.tmp 3)),
 .op 1 (.un 45 .not (.tmp 44)),
 .op 2 (.mov 46 (.tmp 45)),
 .guard 46 true [.op 3 (.faddr 47 5 (.tmp 1)),
 .op 4 (.load 48 false 1 (.tmp 47)),
 .op 5 (.bin 49 .neq .plain (.tmp 48) (.const (.int .i64 0))),
 .op 6 (.mov 50 (.tmp 49)),
 .guard 50 false [.op 7 (.faddr 51 2 (.tmp 1)),
 .op 8 (.load 52 false 1 (.tmp 51)),
 .op 9 (.bin 53 .neq .plain (.tmp 52) (.const (.int .i64 0)))] [] [53],
 .op 10 (.pick 54 (.tmp 50) (.const (.bool true)) (.tmp 53))] [] [54],
 .op 11 (.pick 55 (.tmp 46) (.tmp 54) (.const (.bool false))),
 .op 12 (.mov 56 (.tmp 55)),
 .guard 56 false [.op 13 (.mov 57 (.tmp 4)),
 .op 14 (.un 58 .not (.tmp 57)),
 .op 15 (.mov 59 (.tmp 58)),
 .guard 59 true [.op 16 (.faddr 60 3 (.tmp 1)),
 .op 17 (.load 61 false 1 (.tmp 60)),
 .op 18 (.bin 62 .neq .plain (.tmp 61) (.const (.int .i64 0))),
 .op 19 (.mov 63 (.tmp 62)),
 .guard 63 false [.op 20 (.faddr 64 9 (.tmp 1)),
 .op 21 (.load 65 false 1 (.tmp 64))] [] [65],
 .op 22 (.pick 66 (.tmp 63) (.const (.bool true)) (.tmp 65)),
 .op 23 (.mov 67 (.tmp 66)),
 .guard 67 false [.op 24 (.faddr 68 10 (.tmp 1)),
 .op 25 (.load 69 false 1 (.tmp 68)),
 .op 26 (.bin 70 .neq .plain (.tmp 69) (.const (.int .u32 0)))] [] [70],
 .op 27 (.pick 71 (.tmp 67) (.const (.bool true)) (.tmp 70))] [] [71],
 .op 28 (.pick 72 (.tmp 59) (.tmp 71) (.const (.bool false)))] [] [72],
 .op 29 (.pick 73 (.tmp 56) (.const (.bool true)) (.tmp 72))] [])
 (.cond (.tmp 73)
 (.seq (.region [.op 0 (.mov 2 (.const (.bool false)))] [])
 .ret)
 .skip))
 (.seq (.region [.op 0 (.faddr 74 0 (.tmp 1)),
 .op 1 (.load 75 false 1 (.tmp 74)),
 .op 2 (.bin 76 .eql .plain (.tmp 75) (.const (.int .i64 5))),
 .op 3 (.mov 77 (.tmp 76)),
 .guard 77 false [.op 4 (.faddr 78 12 (.tmp 1)),
 .op 5 (.load 79 false 1 (.tmp 78)),
 .op 6 (.len 80 false (.tmp 79)),
 .op 7 (.bin 81 .eql .plain (.tmp 80) (.const (.int .i64 0)))] [] [81],
 .op 8 (.pick 82 (.tmp 77) (.const (.bool true)) (.tmp 81)),
 .op 9 (.mov 83 (.tmp 82)),
 .guard 83 true [.op 10 (.faddr 84 0 (.tmp 1)),
 .op 11 (.load 85 false 1 (.tmp 84)),
 .op 12 (.bin 86 .neq .plain (.tmp 85) (.const (.int .i64 1))),
 .op 13 (.mov 87 (.tmp 86)),
 .guard 87 true [.op 14 (.faddr 88 0 (.tmp 1)),
 .op 15 (.load 89 false 1 (.tmp 88)),
 .op 16 (.bin 90 .neq .plain (.tmp 89) (.const (.int .i64 5)))] [] [90],
 .op 17 (.pick 91 (.tmp 87) (.tmp 90) (.const (.bool false))),
 .op 18 (.mov 92 (.tmp 91)),
 .guard 92 false [.op 19 (.faddr 93 11 (.tmp 1)),
 .op 20 (.load 94 false 1 (.tmp 93)),
 .op 21 (.len 95 false (.tmp 94)),
 .op 22 (.bin 96 .eql .plain (.tmp 95) (.const (.int .i64 0)))] [] [96],
 .op 23 (.pick 97 (.tmp 92) (.const (.bool true)) (.tmp 96))] [] [97],
 .op 24 (.pick 98 (.tmp 83) (.tmp 97) (.const (.bool false))),
 .op 25 (.mov 2 (.tmp 98))] [])
 .ret))))),
 [.tmp 2]⟩
theorem ok34 : funcOk Tryz.prog (drawOk Tryz.prog) Tryz.f34 A34 = true := by kernel_rfl
noncomputable def S34 (call : Go.Fw.Call) (a0 : AVal) (h : Heap) : Option J :=
 (AVal.cells? a0).bind fun c1 =>
 (rdL c1 0 1).bind fun c2 =>
 (fromCells false c2).bind fun v3 =>
 (aBin .eql .plain v3 (.int .i64 1)).bind fun v4 =>
 (rdL c1 0 1).bind fun c5 =>
 (fromCells false c5).bind fun v6 =>
 (aBin .eql .plain v6 (.int .i64 2)).bind fun v7 =>
 (aUn .not v4).bind fun v8 =>
 (guardV v8 true
 ((aUn .not v7).bind fun v9 =>
 some (0, [v9], h))
 (some (0, [skipV], h))).bind fun g10 =>
 (aPick v8 (g10.2.1.getD 0 .undef) (.bool false)).bind fun v11 =>
 (guardV v11 true
 ((rdL c1 1 1).bind fun c12 =>
 (fromCells false c12).bind fun v13 =>
 (aBin .neq .plain v13 (.int .i64 0)).bind fun v14 =>
 (guardV v14 false
 ((rdL c1 4 1).bind fun c15 =>
 (fromCells false c15).bind fun v16 =>
 (aBin .neq .plain v16 (.int .i64 0)).bind fun v17 =>
 some (0, [v17], g10.2.2))
 (some (0, [skipV], g10.2.2))).bind fun g18 =>
 (aPick v14 (.bool true) (g18.2.1.getD 0 .undef)).bind fun v19 =>
 (guardV v19 false
 ((rdL c1 6 1).bind fun c20 =>
 (fromCells false c20).bind fun v21 =>
 (aBin .neq .plain v21 (.int .i64 0)).bind fun v22 =>
 some (0, [v22], g18.2.2))
 (some (0, [skipV], g18.2.2))).bind fun g23 =>
 (aPick v19 (.bool true) (g23.2.1.getD 0 .undef)).bind fun v24 =>
 (guardV v24 false
 ((rdL c1 7 1).bind fun c25 =>
 (fromCells false c25).bind fun v26 =>
 (aBin .neq .plain v26 (.str [])).bind fun v27 =>
 some (0, [v27], g23.2.2))
 (some (0, [skipV], g23.2.2))).bind fun g28 =>
 (aPick v24 (.bool true) (g28.2.1.getD 0 .undef)).bind fun v29 =>
 (guardV v29 false
 ((rdL c1 8 1).bind fun c30 =>
 (fromCells false c30).bind fun v31 =>
 (aBin .neq .plain v31 (.str [])).bind fun v32 =>
 some (0, [v32], g28.2.2))
 (some (0, [skipV], g28.2.2))).bind fun g33 =>
 (aPick v29 (.bool true) (g33.2.1.getD 0 .undef)).bind fun v34 =>
 some (0, [v34], g33.2.2))
 (some (0, [skipV], g10.2.2))).bind fun g35 =>
 (aPick v11 (g35.2.1.getD 0 .undef) (.bool false)).bind fun v36 =>
 condV v36
 (some (0, [(.bool false)], g35.2.2))
 ((aUn .not v4).bind fun v37 =>
 (guardV v37 true
 ((rdL c1 5 1).bind fun c38 =>
 (fromCells false c38).bind fun v39 =>
 (aBin .neq .plain v39 (.int .i64 0)).bind fun v40 =>
 (guardV v40 false
 ((rdL c1 2 1).bind fun c41 =>
 (fromCells false c41).bind fun v42 =>
 (aBin .neq .plain v42 (.int .i64 0)).bind fun v43 =>
 some (0, [v43], g35.2.2))
 (some (0, [skipV], g35.2.2))).bind fun g44 =>
 (aPick v40 (.bool true) (g44.2.1.getD 0 .undef)).bind fun v45 =>
 some (0, [v45], g44.2.2))
 (some (0, [skipV], g35.2.2))).bind fun g46 =>
 (aPick v37 (g46.2.1.getD 0 .undef) (.bool false)).bind fun v47 =>
 (guardV v47 false
 ((aUn .not v7).bind fun v48 =>
 (guardV v48 true
 ((rdL c1 3 1).bind fun c49 =>
 (fromCells false c49).bind fun v50 =>
 (aBin .neq .plain v50 (.int .i64 0)).bind fun v51 =>
 (guardV v51 false
 ((rdL c1 9 1).bind fun c52 =>
 (fromCells false c52).bind fun v53 =>
 some (0, [v53], g46.2.2))
 (some (0, [skipV], g46.2.2))).bind fun g54 =>
 (aPick v51 (.bool true) (g54.2.1.getD 0 .undef)).bind fun v55 =>
 (guardV v55 false
 ((rdL c1 10 1).bind fun c56 =>
 (fromCells false c56).bind fun v57 =>
 (aBin .neq .plain v57 (.int .u32 0)).bind fun v58 =>
 some (0, [v58], g54.2.2))
 (some (0, [skipV], g54.2.2))).bind fun g59 =>
 (aPick v55 (.bool true) (g59.2.1.getD 0 .undef)).bind fun v60 =>
 some (0, [v60], g59.2.2))
 (some (0, [skipV], g46.2.2))).bind fun g61 =>
 (aPick v48 (g61.2.1.getD 0 .undef) (.bool false)).bind fun v62 =>
 some (0, [v62], g61.2.2))
 (some (0, [skipV], g46.2.2))).bind fun g63 =>
 (aPick v47 (.bool true) (g63.2.1.getD 0 .undef)).bind fun v64 =>
 condV v64
 (some (0, [(.bool false)], g63.2.2))
 ((rdL c1 0 1).bind fun c65 =>
 (fromCells false c65).bind fun v66 =>
 (aBin .eql .plain v66 (.int .i64 5)).bind fun v67 =>
 (guardV v67 false
 ((rdL c1 12 1).bind fun c68 =>
 (fromCells false c68).bind fun v69 =>
 (aLen false v69).bind fun v70 =>
 (aBin .eql .plain v70 (.int .i64 0)).bind fun v71 =>
 some (0, [v71], g63.2.2))
 (some (0, [skipV], g63.2.2))).bind fun g72 =>
 (aPick v67 (.bool true) (g72.2.1.getD 0 .undef)).bind fun v73 =>
 (guardV v73 true
 ((rdL c1 0 1).bind fun c74 =>
 (fromCells false c74).bind fun v75 =>
 (aBin .neq .plain v75 (.int .i64 1)).bind fun v76 =>
 (guardV v76 true
 ((rdL c1 0 1).bind fun c77 =>
 (fromCells false c77).bind fun v78 =>
 (aBin .neq .plain v78 (.int .i64 5)).bind fun v79 =>
 some (0, [v79], g72.2.2))
 (some (0, [skipV], g72.2.2))).bind fun g80 =>
 (aPick v76 (g80.2.1.getD 0 .undef) (.bool false)).bind fun v81 =>
 (guardV v81 false
 ((rdL c1 11 1).bind fun c82 =>
 (fromCells false c82).bind fun v83 =>
 (aLen false v83).bind fun v84 =>
 (aBin .eql .plain v84 (.int .i64 0)).bind fun v85 =>
 some (0, [v85], g80.2.2))
 (some (0, [skipV], g80.2.2))).bind fun g86 =>
 (aPick v81 (.bool true) (g86.2.1.getD 0 .undef)).bind fun v87 =>
 some (0, [v87], g86.2.2))
 (some (0, [skipV], g72.2.2))).bind fun g88 =>
 (aPick v73 (g88.2.1.getD 0 .undef) (.bool false)).bind fun v89 =>
 some (0, [v89], g88.2.2)))
theorem run34 (call : Go.Fw.Call) (a0 : AVal) (h : Heap) : runFn call (.code A34) [a0] h = (S34 call a0 h).bind ansOf := by kernel_rfl
end Go.Proofs.YtjibfbphiemljaaGreatDoor.Code
