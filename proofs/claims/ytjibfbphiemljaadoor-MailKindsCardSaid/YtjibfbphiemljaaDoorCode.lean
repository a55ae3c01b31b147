import Derived.Test.YtjibfbphiemljaaDoorProg
import Derived.Test.YtjibfbphiemljaaDoorFwZm
import Derived.KernelRfl
namespace Go.Proofs.YtjibfbphiemljaaDoor.Code
set_option linter.unusedSimpArgs false
set_option linter.unusedVariables false
open Go.Fw
section prims
theorem pin_lt : 1 < pinsN := by decide
theorem nglob : Tryd.prog.globals.size = 1 := by kernel_rfl
theorem toType_run (t : Nat) (w : World) : (Go.Extern.ReflectliteType.toType t).run Tryd.prog w = .ok (.iface 118 (.agg #[.pointer (some ⟨1, t, none⟩)])) w := by kernel_rfl
theorem kind43 (w : World) : (Go.Extern.Rtype.kind 43).run Tryd.prog w = .ok 2 w := by kernel_rfl
theorem kind75 (w : World) : (Go.Extern.Rtype.kind 75).run Tryd.prog w = .ok 22 w := by kernel_rfl
theorem kind86 (w : World) : (Go.Extern.Rtype.kind 86).run Tryd.prog w = .ok 22 w := by kernel_rfl
theorem kind109 (w : World) : (Go.Extern.Rtype.kind 109).run Tryd.prog w = .ok 22 w := by kernel_rfl
theorem kinds_ok : ∀ p ∈ ([(43, 2), (75, 22), (86, 22), (109, 22)] : List (Nat × Nat)), ∀ w, (Go.Extern.Rtype.kind p.1).run Tryd.prog w = .ok p.2 w := by
  intro p hp
  simp only [List.mem_cons, List.not_mem_nil, or_false] at hp
  rcases hp with rfl | rfl | rfl | rfl
  · exact kind43
  · exact kind75
  · exact kind86
  · exact kind109
theorem ptrs_ok : ∀ p ∈ ([(75, 43, 2), (109, 86, 22)] : List (Nat × Nat × Nat)), PtrOk Tryd.prog p := by
  intro p hp
  simp only [List.mem_cons, List.not_mem_nil, or_false] at hp
  rcases hp with rfl | rfl
  · exact ⟨by kernel_rfl, by kernel_rfl, fun w => by kernel_rfl, kind43⟩
  · exact ⟨by kernel_rfl, by kernel_rfl, fun w => by kernel_rfl, kind86⟩
theorem sets_ok : ∀ t ∈ ([43, 86] : List Nat), aggOk Tryd.prog t false 1 = true ∧ Tryd.prog.packed t = false := by
  intro p hp
  simp only [List.mem_cons, List.not_mem_nil, or_false] at hp
  rcases hp with rfl | rfl
  · exact ⟨by kernel_rfl, by kernel_rfl⟩
  · exact ⟨by kernel_rfl, by kernel_rfl⟩
/-- internal/reflectlite.ValueOf -/
theorem prim58 : PrimOk Tryd.prog 58 (pValueOf 1 [(43, 2), (75, 22), (86, 22), (109, 22)]) := prim_of (e := fun args => Go.Extern.ReflectliteValue.unpack (args.getD 0 (.tuple #[]))) (Entry.of Tryd.func58 (by kernel_rfl) (by kernel_rfl) (by kernel_rfl) (by kernel_rfl)) (valueOf_ok pin_lt nglob kinds_ok)
/-- (internal/reflectlite.Value).Type -/
theorem prim59 : PrimOk Tryd.prog 59 (pValueType 118 1) := prim_of (e := Go.Extern.ReflectliteValue.methodAny (Go.Extern.ReflectliteValue.valueError "reflectlite.Value.Type" 0) (fun t _ _ _ => Go.Extern.ReflectliteType.toType t)) (Entry.of Tryd.func59 (by kernel_rfl) (by kernel_rfl) (by kernel_rfl) (by kernel_rfl)) (valueType_ok pin_lt nglob toType_run)
/-- (internal/reflectlite.Value).IsNil -/
theorem prim60 : PrimOk Tryd.prog 60 (pIsNil 1 [(75, 43, 2), (109, 86, 22)]) := prim_of (e := Go.Extern.ReflectliteValue.method (Go.Extern.ReflectliteValue.valueError "reflectlite.Value.IsNil" 0) Go.Extern.ReflectliteValue.isNil) (Entry.of Tryd.func60 (by kernel_rfl) (by kernel_rfl) (by kernel_rfl) (by kernel_rfl)) (isNil_ok pin_lt nglob ptrs_ok)
/-- internal/reflectlite.TypeOf -/
theorem prim69 : PrimOk Tryd.prog 69 (pTypeOf 118 1) := prim_of (e := Go.Extern.ReflectliteType.typeOf) (Entry.of Tryd.func69 (by kernel_rfl) (by kernel_rfl) (by kernel_rfl) (by kernel_rfl)) (typeOf_ok pin_lt toType_run)
/-- (internal/reflectlite.Value).Elem -/
theorem prim70 : PrimOk Tryd.prog 70 (pValueElem 1 [(75, 43, 2), (109, 86, 22)]) := prim_of (e := Go.Extern.ReflectliteValue.method (Go.Extern.ReflectliteValue.valueError "reflectlite.Value.Elem" 0) Go.Extern.ReflectliteValue.elem) (Entry.of Tryd.func70 (by kernel_rfl) (by kernel_rfl) (by kernel_rfl) (by kernel_rfl)) (valueElem_ok pin_lt nglob ptrs_ok)
/-- (internal/reflectlite.Value).Set -/
theorem prim71 : PrimOk Tryd.prog 71 (pSet 1 [43, 86]) := prim_of (e := Go.Extern.ReflectliteValue.set) (Entry.of Tryd.func71 (by kernel_rfl) (by kernel_rfl) (by kernel_rfl) (by kernel_rfl)) (set_ok pin_lt nglob sets_ok)
/-- (*internal/abi.Type).Kind -/
def tab86 : List (List AVal × AVal) := [([.ptr 1 43], .int .u8 2), ([.ptr 1 75], .int .u8 22), ([.ptr 1 86], .int .u8 22), ([.ptr 1 109], .int .u8 22)]
theorem tab86_ok : ∀ p ∈ tab86, CFacts Tryd.prog 1 (Go.Extern.ReflectliteType.abiMethod fun t => do pure (.int .u8 (← Go.Extern.Rtype.kind t))) p := by
  intro p hp
  simp only [tab86, List.mem_cons, List.not_mem_nil, or_false] at hp
  rcases hp with rfl | rfl | rfl | rfl
  · exact ⟨[.pointer (some ⟨1, 43, none⟩)], .int .u8 2, rfl, rfl, fun w => by kernel_rfl⟩
  · exact ⟨[.pointer (some ⟨1, 75, none⟩)], .int .u8 22, rfl, rfl, fun w => by kernel_rfl⟩
  · exact ⟨[.pointer (some ⟨1, 86, none⟩)], .int .u8 22, rfl, rfl, fun w => by kernel_rfl⟩
  · exact ⟨[.pointer (some ⟨1, 109, none⟩)], .int .u8 22, rfl, rfl, fun w => by kernel_rfl⟩
/-- (*internal/abi.Type).Kind -/
theorem prim86 : PrimOk Tryd.prog 86 (pClosed tab86) := prim_of (e := Go.Extern.ReflectliteType.abiMethod fun t => do pure (.int .u8 (← Go.Extern.Rtype.kind t))) (Entry.of Tryd.func86 (by kernel_rfl) (by kernel_rfl) (by kernel_rfl) (by kernel_rfl)) (closed_ok pin_lt tab86_ok)
/-- (internal/reflectlite.rtype).AssignableTo -/
def tab97 : List (List AVal × AVal) := [([.agg [.ptr 1 43], .iface 118 (.agg [.ptr 1 43])], .bool true), ([.agg [.ptr 1 43], .iface 118 (.agg [.ptr 1 86])], .bool false), ([.agg [.ptr 1 75], .iface 118 (.agg [.ptr 1 43])], .bool false), ([.agg [.ptr 1 75], .iface 118 (.agg [.ptr 1 86])], .bool false), ([.agg [.ptr 1 86], .iface 118 (.agg [.ptr 1 43])], .bool false), ([.agg [.ptr 1 86], .iface 118 (.agg [.ptr 1 86])], .bool true)]
theorem tab97_ok : ∀ p ∈ tab97, CFacts Tryd.prog 1 (Go.Extern.ReflectliteType.relation "AssignableTo" Go.Extern.ReflectliteType.assignableTo) p := by
  intro p hp
  simp only [tab97, List.mem_cons, List.not_mem_nil, or_false] at hp
  rcases hp with rfl | rfl | rfl | rfl | rfl | rfl
  · exact ⟨[.agg #[.pointer (some ⟨1, 43, none⟩)], .iface 118 (.agg #[.pointer (some ⟨1, 43, none⟩)])], .bool true, rfl, rfl, fun w => by kernel_rfl⟩
  · exact ⟨[.agg #[.pointer (some ⟨1, 43, none⟩)], .iface 118 (.agg #[.pointer (some ⟨1, 86, none⟩)])], .bool false, rfl, rfl, fun w => by kernel_rfl⟩
  · exact ⟨[.agg #[.pointer (some ⟨1, 75, none⟩)], .iface 118 (.agg #[.pointer (some ⟨1, 43, none⟩)])], .bool false, rfl, rfl, fun w => by kernel_rfl⟩
  · exact ⟨[.agg #[.pointer (some ⟨1, 75, none⟩)], .iface 118 (.agg #[.pointer (some ⟨1, 86, none⟩)])], .bool false, rfl, rfl, fun w => by kernel_rfl⟩
  · exact ⟨[.agg #[.pointer (some ⟨1, 86, none⟩)], .iface 118 (.agg #[.pointer (some ⟨1, 43, none⟩)])], .bool false, rfl, rfl, fun w => by kernel_rfl⟩
  · exact ⟨[.agg #[.pointer (some ⟨1, 86, none⟩)], .iface 118 (.agg #[.pointer (some ⟨1, 86, none⟩)])], .bool true, rfl, rfl, fun w => by kernel_rfl⟩
/-- (internal/reflectlite.rtype).AssignableTo -/
theorem prim97 : PrimOk Tryd.prog 97 (pClosed tab97) := prim_of (e := Go.Extern.ReflectliteType.relation "AssignableTo" Go.Extern.ReflectliteType.assignableTo) (Entry.of Tryd.func97 (by kernel_rfl) (by kernel_rfl) (by kernel_rfl) (by kernel_rfl)) (closed_ok pin_lt tab97_ok)
/-- (internal/reflectlite.rtype).Comparable -/
def tab98 : List (List AVal × AVal) := [([.agg [.ptr 1 43]], .bool true), ([.agg [.ptr 1 75]], .bool true), ([.agg [.ptr 1 86]], .bool true)]
theorem tab98_ok : ∀ p ∈ tab98, CFacts Tryd.prog 1 (Go.Extern.ReflectliteType.method fun t => do Go.Extern.Rtype.noPackHeld "Comparable" t; pure (.bool (← typeInfo t).comparable)) p := by
  intro p hp
  simp only [tab98, List.mem_cons, List.not_mem_nil, or_false] at hp
  rcases hp with rfl | rfl | rfl
  · exact ⟨[.agg #[.pointer (some ⟨1, 43, none⟩)]], .bool true, rfl, rfl, fun w => by kernel_rfl⟩
  · exact ⟨[.agg #[.pointer (some ⟨1, 75, none⟩)]], .bool true, rfl, rfl, fun w => by kernel_rfl⟩
  · exact ⟨[.agg #[.pointer (some ⟨1, 86, none⟩)]], .bool true, rfl, rfl, fun w => by kernel_rfl⟩
/-- (internal/reflectlite.rtype).Comparable -/
theorem prim98 : PrimOk Tryd.prog 98 (pClosed tab98) := prim_of (e := Go.Extern.ReflectliteType.method fun t => do Go.Extern.Rtype.noPackHeld "Comparable" t; pure (.bool (← typeInfo t).comparable)) (Entry.of Tryd.func98 (by kernel_rfl) (by kernel_rfl) (by kernel_rfl) (by kernel_rfl)) (closed_ok pin_lt tab98_ok)
/-- (internal/reflectlite.rtype).Elem -/
def tab99 : List (List AVal × AVal) := [([.agg [.ptr 1 75]], .iface 118 (.agg [.ptr 1 43])), ([.agg [.ptr 1 109]], .iface 118 (.agg [.ptr 1 86]))]
theorem tab99_ok : ∀ p ∈ tab99, CFacts Tryd.prog 1 (Go.Extern.ReflectliteType.method Go.Extern.ReflectliteType.elem) p := by
  intro p hp
  simp only [tab99, List.mem_cons, List.not_mem_nil, or_false] at hp
  rcases hp with rfl | rfl
  · exact ⟨[.agg #[.pointer (some ⟨1, 75, none⟩)]], .iface 118 (.agg #[.pointer (some ⟨1, 43, none⟩)]), rfl, rfl, fun w => by kernel_rfl⟩
  · exact ⟨[.agg #[.pointer (some ⟨1, 109, none⟩)]], .iface 118 (.agg #[.pointer (some ⟨1, 86, none⟩)]), rfl, rfl, fun w => by kernel_rfl⟩
/-- (internal/reflectlite.rtype).Elem -/
theorem prim99 : PrimOk Tryd.prog 99 (pClosed tab99) := prim_of (e := Go.Extern.ReflectliteType.method Go.Extern.ReflectliteType.elem) (Entry.of Tryd.func99 (by kernel_rfl) (by kernel_rfl) (by kernel_rfl) (by kernel_rfl)) (closed_ok pin_lt tab99_ok)
/-- (internal/reflectlite.rtype).Implements -/
def tab100 : List (List AVal × AVal) := [([.agg [.ptr 1 43], .iface 118 (.agg [.ptr 1 36])], .bool true), ([.agg [.ptr 1 86], .iface 118 (.agg [.ptr 1 36])], .bool true)]
theorem tab100_ok : ∀ p ∈ tab100, CFacts Tryd.prog 1 (Go.Extern.ReflectliteType.relation "Implements" Go.Extern.ReflectliteType.implements_) p := by
  intro p hp
  simp only [tab100, List.mem_cons, List.not_mem_nil, or_false] at hp
  rcases hp with rfl | rfl
  · exact ⟨[.agg #[.pointer (some ⟨1, 43, none⟩)], .iface 118 (.agg #[.pointer (some ⟨1, 36, none⟩)])], .bool true, rfl, rfl, fun w => by kernel_rfl⟩
  · exact ⟨[.agg #[.pointer (some ⟨1, 86, none⟩)], .iface 118 (.agg #[.pointer (some ⟨1, 36, none⟩)])], .bool true, rfl, rfl, fun w => by kernel_rfl⟩
/-- (internal/reflectlite.rtype).Implements -/
theorem prim100 : PrimOk Tryd.prog 100 (pClosed tab100) := prim_of (e := Go.Extern.ReflectliteType.relation "Implements" Go.Extern.ReflectliteType.implements_) (Entry.of Tryd.func100 (by kernel_rfl) (by kernel_rfl) (by kernel_rfl) (by kernel_rfl)) (closed_ok pin_lt tab100_ok)
end prims

/-- frankpledge/frankpledgelaw6.MailBack -/
noncomputable def A3 : AFunc := ⟨2, (.seq (.region [.op 0 (.mov 4 (.const (.bool false)))] [])
 (.seq (.region [.op 0 (.mov 14 (.tmp 0)),
 .op 1 (.build 15 [.nilSlice, .int .i64 0] [(0, 1, .tmp 14)]),
 .op 2 (.box 16 false (.tmp 15)),
 .op 3 (.call 17 6 [.tmp 16]),
 .op 4 (.alloc 5 true [.int .i64 0, .int .i64 0, .int .i64 0, .int .i64 0, .int .i64 0, .int .i64 0, .int .i64 0, .str [], .str [], .bool false, .int .u32 0, .nilSlice, .nilSlice]),
 .op 5 (.store true 13 (.tmp 5) (.tmp 17))] [])
 (.seq (.region [.op 0 (.load 19 true 13 (.tmp 5)),
 .op 1 (.call 20 7 [.tmp 19]),
 .op 2 (.mov 18 (.tmp 20)),
 .op 3 (.extract 21 (.tmp 18) 0),
 .op 4 (.extract 22 (.tmp 18) 1),
 .op 5 (.mov 6 (.tmp 21)),
 .op 6 (.mov 7 (.tmp 22))] [])
 (.seq (.region [.op 0 (.mov 24 (.tmp 6)),
 .op 1 (.call 25 8 [.tmp 24]),
 .op 2 (.mov 23 (.tmp 25)),
 .op 3 (.extract 26 (.tmp 23) 0),
 .op 4 (.extract 27 (.tmp 23) 1),
 .op 5 (.alloc 8 true [.int .i64 0, .int .i64 0, .int .i64 0, .int .i64 0, .int .i64 0, .int .i64 0, .int .i64 0, .str [], .str [], .bool false, .int .u32 0, .nilSlice, .nilSlice]),
 .op 6 (.store true 13 (.tmp 8) (.tmp 26)),
 .op 7 (.mov 9 (.tmp 27))] [])
 (.seq (.seq (.region [.op 0 (.mov 28 (.tmp 7)),
 .op 1 (.bin 29 .neq (.iface true []) (.tmp 28) (.const (.nilIface))),
 .op 2 (.mov 30 (.tmp 29)),
 .guard 30 false [.op 3 (.mov 31 (.tmp 9)),
 .op 4 (.bin 32 .neq (.iface true []) (.tmp 31) (.const (.nilIface)))] [] [32],
 .op 5 (.pick 33 (.tmp 30) (.const (.bool true)) (.tmp 32)),
 .op 6 (.mov 34 (.tmp 33)),
 .guard 34 false [.op 7 (.mov 35 (.tmp 6)),
 .op 8 (.len 36 false (.tmp 35)),
 .op 9 (.bin 37 .eql .plain (.tmp 36) (.const (.int .i64 0)))] [] [37],
 .op 10 (.pick 38 (.tmp 34) (.const (.bool true)) (.tmp 37)),
 .op 11 (.mov 39 (.tmp 38)),
 .guard 39 false [.op 12 (.load 40 true 13 (.tmp 8)),
 .op 13 (.load 41 true 13 (.tmp 5)),
 .op 14 (.call 42 9 [.tmp 40, .tmp 41]),
 .op 15 (.un 43 .not (.tmp 42))] [] [43],
 .op 16 (.pick 44 (.tmp 39) (.const (.bool true)) (.tmp 43))] [])
 (.cond (.tmp 44)
 (.seq (.region [.op 0 (.mov 4 (.const (.bool false)))] [])
 .ret)
 .skip))
 (.seq (.region [.op 0 (.mov 46 (.tmp 6)),
 .op 1 (.mov 47 (.tmp 1)),
 .op 2 (.mov 48 (.tmp 6)),
 .op 3 (.len 49 false (.tmp 48)),
 .op 4 (.bin 50 .sub .plain (.tmp 49) (.const (.int .i64 1))),
 .op 5 (.call 51 10 [.tmp 47, .const (.int .i64 0), .tmp 50]),
 .op 6 (.slice 52 (.sl 1) (.tmp 46) none (some (.tmp 51)) none),
 .op 7 (.call 53 8 [.tmp 52]),
 .op 8 (.mov 45 (.tmp 53)),
 .op 9 (.extract 54 (.tmp 45) 0),
 .op 10 (.extract 55 (.tmp 45) 1),
 .op 11 (.alloc 10 true [.int .i64 0, .int .i64 0, .int .i64 0, .int .i64 0, .int .i64 0, .int .i64 0, .int .i64 0, .str [], .str [], .bool false, .int .u32 0, .nilSlice, .nilSlice]),
 .op 12 (.store true 13 (.tmp 10) (.tmp 54)),
 .op 13 (.mov 11 (.tmp 55))] [])
 (.seq (.region [.op 0 (.buildSl 57 [.int .u8 0] 1 0 []),
 .op 1 (.mov 58 (.tmp 6)),
 .op 2 (.append 59 1 1 [.int .u8 0] false (.tmp 57) (.tmp 58)),
 .op 3 (.mov 60 (.tmp 1)),
 .op 4 (.conv 61 (.toInt .u8) (.tmp 60)),
 .op 5 (.buildSl 62 [.int .u8 0] 1 1 [(0, .tmp 61)]),
 .op 6 (.append 63 1 1 [.int .u8 0] false (.tmp 59) (.tmp 62)),
 .op 7 (.call 64 8 [.tmp 63]),
 .op 8 (.mov 56 (.tmp 64)),
 .op 9 (.extract 65 (.tmp 56) 0),
 .op 10 (.extract 66 (.tmp 56) 1),
 .op 11 (.alloc 12 true [.int .i64 0, .int .i64 0, .int .i64 0, .int .i64 0, .int .i64 0, .int .i64 0, .int .i64 0, .str [], .str [], .bool false, .int .u32 0, .nilSlice, .nilSlice]),
 .op 12 (.store true 13 (.tmp 12) (.tmp 65)),
 .op 13 (.mov 13 (.tmp 66))] [])
 (.seq (.region [.op 0 (.mov 67 (.tmp 11)),
 .op 1 (.bin 68 .neq (.iface true []) (.tmp 67) (.const (.nilIface))),
 .op 2 (.mov 69 (.tmp 68)),
 .guard 69 true [.op 3 (.mov 70 (.tmp 13)),
 .op 4 (.bin 71 .neq (.iface true []) (.tmp 70) (.const (.nilIface)))] [] [71],
 .op 5 (.pick 72 (.tmp 69) (.tmp 71) (.const (.bool false))),
 .op 6 (.mov 73 (.tmp 72)),
 .guard 73 true [.op 7 (.mov 74 (.tmp 11)),
 .op 8 (.call 75 11 [.tmp 74]),
 .op 9 (.bin 76 .eql .plain (.tmp 75) (.const (.int .i64 12)))] [] [76],
 .op 10 (.pick 77 (.tmp 73) (.tmp 76) (.const (.bool false))),
 .op 11 (.mov 78 (.tmp 77)),
 .guard 78 true [.op 12 (.mov 79 (.tmp 13)),
 .op 13 (.call 80 11 [.tmp 79]),
 .op 14 (.bin 81 .eql .plain (.tmp 80) (.const (.int .i64 12)))] [] [81],
 .op 15 (.pick 82 (.tmp 78) (.tmp 81) (.const (.bool false))),
 .op 16 (.mov 83 (.tmp 82)),
 .guard 83 true [.op 17 (.call 84 12 [])] [] [84],
 .op 18 (.pick 85 (.tmp 83) (.tmp 84) (.const (.bool false))),
 .op 19 (.mov 4 (.tmp 85))] [])
 .ret)))))))),
 [.tmp 4]⟩
theorem ok3 : funcOk Tryd.prog (drawOk Tryd.prog) Tryd.f3 A3 = true := by kernel_rfl
noncomputable def S3 (call : Go.Fw.Call) (a0 a1 : AVal) (h : Heap) : Option J :=
 (aFill [.nilSlice, .int .i64 0] [(0, 1, a0)]).bind fun c1 =>
 (AVal.cells? (.agg c1)).bind fun c2 =>
 (call 6 [(.ptr h.next 0)] (h.alloc c2)).bind fun r4 =>
 (aCells 13 r4.1).bind fun c5 =>
 bif Nat.ble ((0) + 13) (List.length (α := AVal) [.int .i64 0, .int .i64 0, .int .i64 0, .int .i64 0, .int .i64 0, .int .i64 0, .int .i64 0, .str [], .str [], .bool false, .int .u32 0, .nilSlice, .nilSlice]) then (rdL (splice [.int .i64 0, .int .i64 0, .int .i64 0, .int .i64 0, .int .i64 0, .int .i64 0, .int .i64 0, .str [], .str [], .bool false, .int .u32 0, .nilSlice, .nilSlice] (0) c5) 0 13).bind fun c6 =>
 (fromCells true c6).bind fun v7 =>
 (call 7 [v7] r4.2).bind fun r8 =>
 (aExtract 0 r8.1).bind fun v9 =>
 (aExtract 1 r8.1).bind fun v10 =>
 (call 8 [v9] r8.2).bind fun r11 =>
 (aExtract 0 r11.1).bind fun v12 =>
 (aExtract 1 r11.1).bind fun v13 =>
 (aCells 13 v12).bind fun c14 =>
 bif Nat.ble ((0) + 13) (List.length (α := AVal) [.int .i64 0, .int .i64 0, .int .i64 0, .int .i64 0, .int .i64 0, .int .i64 0, .int .i64 0, .str [], .str [], .bool false, .int .u32 0, .nilSlice, .nilSlice]) then (aBin .neq (.iface true []) v10 (.nilIface)).bind fun v15 =>
 (guardV v15 false
 ((aBin .neq (.iface true []) v13 (.nilIface)).bind fun v16 =>
 some (0, [v16], r11.2))
 (some (0, [skipV], r11.2))).bind fun g17 =>
 (aPick v15 (.bool true) (g17.2.1.getD 0 .undef)).bind fun v18 =>
 (guardV v18 false
 ((aLen false v9).bind fun v19 =>
 (aBin .eql .plain v19 (.int .i64 0)).bind fun v20 =>
 some (0, [v20], g17.2.2))
 (some (0, [skipV], g17.2.2))).bind fun g21 =>
 (aPick v18 (.bool true) (g21.2.1.getD 0 .undef)).bind fun v22 =>
 (guardV v22 false
 ((rdL (splice [.int .i64 0, .int .i64 0, .int .i64 0, .int .i64 0, .int .i64 0, .int .i64 0, .int .i64 0, .str [], .str [], .bool false, .int .u32 0, .nilSlice, .nilSlice] (0) c14) 0 13).bind fun c23 =>
 (fromCells true c23).bind fun v24 =>
 (rdL (splice [.int .i64 0, .int .i64 0, .int .i64 0, .int .i64 0, .int .i64 0, .int .i64 0, .int .i64 0, .str [], .str [], .bool false, .int .u32 0, .nilSlice, .nilSlice] (0) c5) 0 13).bind fun c25 =>
 (fromCells true c25).bind fun v26 =>
 (call 9 [v24, v26] g21.2.2).bind fun r27 =>
 (aUn .not r27.1).bind fun v28 =>
 some (0, [v28], r27.2))
 (some (0, [skipV], g21.2.2))).bind fun g29 =>
 (aPick v22 (.bool true) (g29.2.1.getD 0 .undef)).bind fun v30 =>
 condV v30
 (some (0, [(.bool false)], g29.2.2))
 ((aLen false v9).bind fun v31 =>
 (aBin .sub .plain v31 (.int .i64 1)).bind fun v32 =>
 (call 10 [a1, (.int .i64 0), v32] g29.2.2).bind fun r33 =>
 (aSliceSl 1 v9 none (some r33.1) none).bind fun v34 =>
 (call 8 [v34] r33.2).bind fun r35 =>
 (aExtract 0 r35.1).bind fun v36 =>
 (aExtract 1 r35.1).bind fun v37 =>
 (aCells 13 v36).bind fun c38 =>
 bif Nat.ble ((0) + 13) (List.length (α := AVal) [.int .i64 0, .int .i64 0, .int .i64 0, .int .i64 0, .int .i64 0, .int .i64 0, .int .i64 0, .str [], .str [], .bool false, .int .u32 0, .nilSlice, .nilSlice]) then (aFill (reps [.int .u8 0] 0) []).bind fun c39 =>
 (aAppend 1 1 [.int .u8 0] false (.slice r35.2.next 0 0 0 1 true) v9 (r35.2.alloc c39)).bind fun r40 =>
 (aConv (.toInt .u8) a1 r40.2).bind fun r41 =>
 (aFill (reps [.int .u8 0] 1) [(0, 1, r41.1)]).bind fun c42 =>
 (aAppend 1 1 [.int .u8 0] false r40.1 (.slice r41.2.next 0 1 1 1 true) (r41.2.alloc c42)).bind fun r43 =>
 (call 8 [r43.1] r43.2).bind fun r44 =>
 (aExtract 0 r44.1).bind fun v45 =>
 (aExtract 1 r44.1).bind fun v46 =>
 (aCells 13 v45).bind fun c47 =>
 bif Nat.ble ((0) + 13) (List.length (α := AVal) [.int .i64 0, .int .i64 0, .int .i64 0, .int .i64 0, .int .i64 0, .int .i64 0, .int .i64 0, .str [], .str [], .bool false, .int .u32 0, .nilSlice, .nilSlice]) then (aBin .neq (.iface true []) v37 (.nilIface)).bind fun v48 =>
 (guardV v48 true
 ((aBin .neq (.iface true []) v46 (.nilIface)).bind fun v49 =>
 some (0, [v49], r44.2))
 (some (0, [skipV], r44.2))).bind fun g50 =>
 (aPick v48 (g50.2.1.getD 0 .undef) (.bool false)).bind fun v51 =>
 (guardV v51 true
 ((call 11 [v37] g50.2.2).bind fun r52 =>
 (aBin .eql .plain r52.1 (.int .i64 12)).bind fun v53 =>
 some (0, [v53], r52.2))
 (some (0, [skipV], g50.2.2))).bind fun g54 =>
 (aPick v51 (g54.2.1.getD 0 .undef) (.bool false)).bind fun v55 =>
 (guardV v55 true
 ((call 11 [v46] g54.2.2).bind fun r56 =>
 (aBin .eql .plain r56.1 (.int .i64 12)).bind fun v57 =>
 some (0, [v57], r56.2))
 (some (0, [skipV], g54.2.2))).bind fun g58 =>
 (aPick v55 (g58.2.1.getD 0 .undef) (.bool false)).bind fun v59 =>
 (guardV v59 true
 ((call 12 [] g58.2.2).bind fun r60 =>
 some (0, [r60.1], r60.2))
 (some (0, [skipV], g58.2.2))).bind fun g61 =>
 (aPick v59 (g61.2.1.getD 0 .undef) (.bool false)).bind fun v62 =>
 some (0, [v62], g61.2.2) else none else none) else none else none
theorem run3 (call : Go.Fw.Call) (a0 a1 : AVal) (h : Heap) : runFn call (.code A3) [a0, a1] h = (S3 call a0 a1 h).bind ansOf := by kernel_rfl

/-- frankpledge/frankpledgelaw6.MailKinds -/
noncomputable def A4 : AFunc := ⟨2, (.seq (.region [.op 0 (.mov 4 (.const (.bool false)))] [])
 (.seq (.region [.op 0 (.mov 16 (.tmp 0)),
 .op 1 (.build 17 [.nilSlice, .int .i64 0] [(0, 1, .tmp 16)]),
 .op 2 (.box 18 false (.tmp 17)),
 .op 3 (.mov 5 (.tmp 18))] [])
 (.seq (.region [.op 0 (.mov 19 (.tmp 5)),
 .op 1 (.call 20 13 [.tmp 19]),
 .op 2 (.alloc 6 true [.str [], .str [], .int .i64 0, .int .i64 0, .int .i64 0, .int .i64 0, .int .i64 0, .int .i64 0, .bool false]),
 .op 3 (.store true 9 (.tmp 6) (.tmp 20))] [])
 (.seq (.seq (.region [.op 0 (.mov 21 (.tmp 1)),
 .op 1 (.call 22 10 [.tmp 21, .const (.int .i64 0), .const (.int .i64 4)])] [])
 (.block 0 (.seq (.region [.op 0 (.bin 26 .eql .plain (.tmp 22) (.const (.int .i64 0))),
 .op 1 (.mov 25 (.tmp 26))] [])
 (.join [(.normal, ⟨[5], [6]⟩)] (.cond (.tmp 25)
 (.region [.op 0 (.faddr 27 0 (.tmp 6)),
 .op 1 (.faddr 28 0 (.tmp 27)),
 .op 2 (.store false 1 (.tmp 28) (.const (.str [])))] [])
 (.seq (.region [.op 0 (.bin 30 .eql .plain (.tmp 22) (.const (.int .i64 1))),
 .op 1 (.mov 29 (.tmp 30))] [])
 (.join [(.normal, ⟨[5], [6]⟩)] (.cond (.tmp 29)
 (.region [.op 0 (.faddr 31 0 (.tmp 6)),
 .op 1 (.faddr 32 1 (.tmp 31)),
 .op 2 (.store false 1 (.tmp 32) (.const (.str [85, 80])))] [])
 (.seq (.region [.op 0 (.bin 34 .eql .plain (.tmp 22) (.const (.int .i64 2))),
 .op 1 (.mov 33 (.tmp 34))] [])
 (.join [(.normal, ⟨[5], [6]⟩)] (.cond (.tmp 33)
 (.region [.op 0 (.faddr 35 4 (.tmp 6)),
 .op 1 (.store false 1 (.tmp 35) (.const (.int .i64 0)))] [])
 (.seq (.region [.op 0 (.bin 37 .eql .plain (.tmp 22) (.const (.int .i64 3))),
 .op 1 (.mov 36 (.tmp 37))] [])
 (.join [(.normal, ⟨[5], [6]⟩)] (.cond (.tmp 36)
 (.region [.op 0 (.faddr 38 2 (.tmp 6)),
 .op 1 (.store false 1 (.tmp 38) (.const (.int .i64 3)))] [])
 (.region [.op 0 (.faddr 23 5 (.tmp 6)),
 .op 1 (.faddr 24 1 (.tmp 23)),
 .op 2 (.store false 1 (.tmp 24) (.const (.int .i64 6)))] [])))))))))))))))
 (.seq (.regionF 1 [.op 0 (.mov 39 (.tmp 5)),
 .op 1 (.call 40 14 [.tmp 39, .const (.int .i64 3)]),
 .op 2 (.load 41 true 9 (.tmp 6)),
 .op 3 (.fl 42 0 (some (9, 1)) [.str [], .str [], .int .i64 0, .int .i64 0, .int .i64 0, .int .i64 0, .int .i64 0, .int .i64 0, .bool false] [(0, .tmp 41)]),
 .op 4 (.append 43 9 88 [.str [], .str [], .int .i64 0, .int .i64 0, .int .i64 0, .int .i64 0, .int .i64 0, .int .i64 0, .bool false] false (.tmp 40) (.tmp 42)),
 .op 5 (.mov 7 (.tmp 43))] [(2, 1)])
 (.seq (.seq (.region [.op 0 (.buildSl 44 [.int .i64 0] 1 2 [(0, .const (.int .i64 3)), (1, .const (.int .i64 4))]),
 .op 1 (.len 45 false (.tmp 44)),
 .op 2 (.mov 46 (.const (.int .i64 0)))] [])
 (.block 1 (.loop ⟨[7, 44, 45, 46], []⟩ [((.exit 1), ⟨[7], []⟩), (.ret, ⟨[4], []⟩)]
 (.seq (.region [.op 0 (.bin 47 .lss .plain (.tmp 46) (.tmp 45))] [])
 (.seq (.cond (.tmp 47)
 .skip
 (.exit 1))
 (.seq (.block 2 (.seq (.region [.op 0 (.iaddr 48 none 1 (.tmp 44) (.tmp 46)),
 .op 1 (.load 49 false 1 (.tmp 48)),
 .op 2 (.mov 9 (.tmp 49))] [])
 (.seq (.region [.op 0 (.mov 51 (.tmp 9)),
 .op 1 (.mov 52 (.tmp 7)),
 .op 2 (.build 53 [.int .i64 0, .int .i64 0, .int .i64 0, .int .i64 0, .int .i64 0, .int .i64 0, .int .i64 0, .str [], .str [], .bool false, .int .u32 0, .nilSlice, .nilSlice] [(0, 1, .tmp 51), (11, 1, .tmp 52)]),
 .op 3 (.call 54 7 [.tmp 53]),
 .op 4 (.mov 50 (.tmp 54)),
 .op 5 (.extract 55 (.tmp 50) 0),
 .op 6 (.extract 56 (.tmp 50) 1),
 .op 7 (.mov 10 (.tmp 55)),
 .op 8 (.mov 11 (.tmp 56))] [])
 (.seq (.region [.op 0 (.mov 57 (.tmp 10)),
 .op 1 (.len 58 false (.tmp 57)),
 .op 2 (.bin 59 .neq .plain (.tmp 58) (.const (.int .i64 0))),
 .op 3 (.mov 60 (.tmp 59)),
 .guard 60 false [.op 4 (.mov 61 (.tmp 11)),
 .op 5 (.call 62 15 [.tmp 61, .const (.str [119, 114, 105, 116, 101]), .const (.str [99, 97, 114, 100]), .const (.int .i64 1)]),
 .op 6 (.un 63 .not (.tmp 62))] [] [63],
 .op 7 (.pick 64 (.tmp 60) (.const (.bool true)) (.tmp 63))] [])
 (.cond (.tmp 64)
 (.seq (.region [.op 0 (.mov 4 (.const (.bool false)))] [])
 .ret)
 .skip)))))
 (.region [.op 0 (.bin 65 .add .plain (.tmp 46) (.const (.int .i64 1))),
 .op 1 (.mov 46 (.tmp 65))] [])))))))
 (.seq (.region [.op 0 (.build 67 [.str [], .str []] [(0, 1, .const (.str [97])), (1, 1, .const (.str [98]))]),
 .op 1 (.build 68 [.str [], .str []] [(0, 1, .const (.str [97]))]),
 .op 2 (.buildSl 69 [.str [], .str []] 2 2 [(0, .tmp 67), (1, .tmp 68)]),
 .op 3 (.build 70 [.int .i64 0, .int .i64 0, .int .i64 0, .int .i64 0, .int .i64 0, .int .i64 0, .int .i64 0, .str [], .str [], .bool false, .int .u32 0, .nilSlice, .nilSlice] [(0, 1, .const (.int .i64 5)), (12, 1, .tmp 69)]),
 .op 4 (.call 71 7 [.tmp 70]),
 .op 5 (.mov 66 (.tmp 71)),
 .op 6 (.extract 72 (.tmp 66) 0),
 .op 7 (.extract 73 (.tmp 66) 1),
 .op 8 (.mov 12 (.tmp 72)),
 .op 9 (.mov 13 (.tmp 73))] [])
 (.seq (.region [.op 0 (.mov 75 (.tmp 7)),
 .op 1 (.build 76 [.int .i64 0, .int .i64 0, .int .i64 0, .int .i64 0, .int .i64 0, .int .i64 0, .int .i64 0, .str [], .str [], .bool false, .int .u32 0, .nilSlice, .nilSlice] [(0, 1, .const (.int .i64 5)), (11, 1, .tmp 75)]),
 .op 2 (.call 77 7 [.tmp 76]),
 .op 3 (.mov 74 (.tmp 77)),
 .op 4 (.extract 78 (.tmp 74) 0),
 .op 5 (.extract 79 (.tmp 74) 1),
 .op 6 (.mov 14 (.tmp 78)),
 .op 7 (.mov 15 (.tmp 79))] [])
 (.seq (.region [.op 0 (.mov 80 (.tmp 13)),
 .op 1 (.call 81 15 [.tmp 80, .const (.str [119, 114, 105, 116, 101]), .const (.str [99, 97, 114, 100]), .const (.int .i64 1)]),
 .op 2 (.mov 82 (.tmp 81)),
 .guard 82 true [.op 3 (.mov 83 (.tmp 15)),
 .op 4 (.call 84 15 [.tmp 83, .const (.str [119, 114, 105, 116, 101]), .const (.str [122, 101, 114, 111]), .const (.int .i64 12)])] [] [84],
 .op 5 (.pick 85 (.tmp 82) (.tmp 84) (.const (.bool false))),
 .op 6 (.mov 86 (.tmp 85)),
 .guard 86 true [.op 7 (.call 87 12 [])] [] [87],
 .op 8 (.pick 88 (.tmp 86) (.tmp 87) (.const (.bool false))),
 .op 9 (.mov 4 (.tmp 88))] [])
 .ret))))))))),
 [.tmp 4]⟩
theorem ok4 : funcOk Tryd.prog (drawOk Tryd.prog) Tryd.f4 A4 = true := by kernel_rfl
/-- xs: t7, t44, t45, t46 -/
noncomputable def L4_0 (call : Go.Fw.Call) (xs : List AVal) (h : Heap) : Option J :=
 (aBin .lss .plain (xs.getD 3 .undef) (xs.getD 2 .undef)).bind fun v27 =>
 condV v27
 ((aIaddr 1 (xs.getD 1 .undef) (xs.getD 3 .undef)).bind fun v28 =>
 (aLoad h 1 v28).bind fun c29 =>
 (fromCells false c29).bind fun v30 =>
 (aFill [.int .i64 0, .int .i64 0, .int .i64 0, .int .i64 0, .int .i64 0, .int .i64 0, .int .i64 0, .str [], .str [], .bool false, .int .u32 0, .nilSlice, .nilSlice] [(0, 1, v30), (11, 1, (xs.getD 0 .undef))]).bind fun c31 =>
 (call 7 [(.agg c31)] h).bind fun r32 =>
 (aExtract 0 r32.1).bind fun v33 =>
 (aExtract 1 r32.1).bind fun v34 =>
 (aLen false v33).bind fun v35 =>
 (aBin .neq .plain v35 (.int .i64 0)).bind fun v36 =>
 (guardV v36 false
 ((call 15 [v34, (.str [119, 114, 105, 116, 101]), (.str [99, 97, 114, 100]), (.int .i64 1)] r32.2).bind fun r37 =>
 (aUn .not r37.1).bind fun v38 =>
 some (0, [v38], r37.2))
 (some (0, [skipV], r32.2))).bind fun g39 =>
 (aPick v36 (.bool true) (g39.2.1.getD 0 .undef)).bind fun v40 =>
 condV v40
 (some (2, [(.bool false)], g39.2.2))
 ((aBin .add .plain (xs.getD 3 .undef) (.int .i64 1)).bind fun v41 =>
 some (0, [(xs.getD 0 .undef), (xs.getD 1 .undef), (xs.getD 2 .undef), v41], g39.2.2)))
 (some (1, [(xs.getD 0 .undef)], h))
noncomputable def S4 (call : Go.Fw.Call) (a0 a1 : AVal) (h : Heap) : Option J :=
 (aFill [.nilSlice, .int .i64 0] [(0, 1, a0)]).bind fun c1 =>
 (AVal.cells? (.agg c1)).bind fun c2 =>
 (call 13 [(.ptr h.next 0)] (h.alloc c2)).bind fun r4 =>
 (aCells 9 r4.1).bind fun c5 =>
 bif Nat.ble ((0) + 9) (List.length (α := AVal) [.str [], .str [], .int .i64 0, .int .i64 0, .int .i64 0, .int .i64 0, .int .i64 0, .int .i64 0, .bool false]) then (call 10 [a1, (.int .i64 0), (.int .i64 4)] r4.2).bind fun r6 =>
 (aBin .eql .plain r6.1 (.int .i64 0)).bind fun v7 =>
 (condV v7
 ((aCells 1 (.str [])).bind fun c8 =>
 bif Nat.ble ((0) + 1) (List.length (α := AVal) (splice [.str [], .str [], .int .i64 0, .int .i64 0, .int .i64 0, .int .i64 0, .int .i64 0, .int .i64 0, .bool false] (0) c5)) then some (0, [(.ptr h.next 0), (.agg (splice (splice [.str [], .str [], .int .i64 0, .int .i64 0, .int .i64 0, .int .i64 0, .int .i64 0, .int .i64 0, .bool false] (0) c5) (0) c8))], r6.2) else none)
 ((aBin .eql .plain r6.1 (.int .i64 1)).bind fun v9 =>
 (condV v9
 ((aCells 1 (.str [85, 80])).bind fun c10 =>
 bif Nat.ble ((1) + 1) (List.length (α := AVal) (splice [.str [], .str [], .int .i64 0, .int .i64 0, .int .i64 0, .int .i64 0, .int .i64 0, .int .i64 0, .bool false] (0) c5)) then some (0, [(.ptr h.next 0), (.agg (splice (splice [.str [], .str [], .int .i64 0, .int .i64 0, .int .i64 0, .int .i64 0, .int .i64 0, .int .i64 0, .bool false] (0) c5) (1) c10))], r6.2) else none)
 ((aBin .eql .plain r6.1 (.int .i64 2)).bind fun v11 =>
 (condV v11
 ((aCells 1 (.int .i64 0)).bind fun c12 =>
 bif Nat.ble ((4) + 1) (List.length (α := AVal) (splice [.str [], .str [], .int .i64 0, .int .i64 0, .int .i64 0, .int .i64 0, .int .i64 0, .int .i64 0, .bool false] (0) c5)) then some (0, [(.ptr h.next 0), (.agg (splice (splice [.str [], .str [], .int .i64 0, .int .i64 0, .int .i64 0, .int .i64 0, .int .i64 0, .int .i64 0, .bool false] (0) c5) (4) c12))], r6.2) else none)
 ((aBin .eql .plain r6.1 (.int .i64 3)).bind fun v13 =>
 (condV v13
 ((aCells 1 (.int .i64 3)).bind fun c14 =>
 bif Nat.ble ((2) + 1) (List.length (α := AVal) (splice [.str [], .str [], .int .i64 0, .int .i64 0, .int .i64 0, .int .i64 0, .int .i64 0, .int .i64 0, .bool false] (0) c5)) then some (0, [(.ptr h.next 0), (.agg (splice (splice [.str [], .str [], .int .i64 0, .int .i64 0, .int .i64 0, .int .i64 0, .int .i64 0, .int .i64 0, .bool false] (0) c5) (2) c14))], r6.2) else none)
 ((aCells 1 (.int .i64 6)).bind fun c15 =>
 bif Nat.ble ((6) + 1) (List.length (α := AVal) (splice [.str [], .str [], .int .i64 0, .int .i64 0, .int .i64 0, .int .i64 0, .int .i64 0, .int .i64 0, .bool false] (0) c5)) then some (0, [(.ptr h.next 0), (.agg (splice (splice [.str [], .str [], .int .i64 0, .int .i64 0, .int .i64 0, .int .i64 0, .int .i64 0, .int .i64 0, .bool false] (0) c5) (6) c15))], r6.2) else none)).bind fun x16 =>
 bif Nat.beq x16.1 0 then some (0, [(x16.2.1.getD 0 .undef), (.agg (AVal.aggCells (x16.2.1.getD 1 .undef)))], x16.2.2) else
 none)).bind fun x17 =>
 bif Nat.beq x17.1 0 then some (0, [(x17.2.1.getD 0 .undef), (.agg (AVal.aggCells (x17.2.1.getD 1 .undef)))], x17.2.2) else
 none)).bind fun x18 =>
 bif Nat.beq x18.1 0 then some (0, [(x18.2.1.getD 0 .undef), (.agg (AVal.aggCells (x18.2.1.getD 1 .undef)))], x18.2.2) else
 none)).bind fun x19 =>
 bif Nat.beq x19.1 0 then (call 14 [(x19.2.1.getD 0 .undef), (.int .i64 3)] (x19.2.2.res 1)).bind fun r20 =>
 (rdL (AVal.aggCells (x19.2.1.getD 1 .undef)) 0 9).bind fun c21 =>
 (fromCells true c21).bind fun v22 =>
 (aFill (reps [.str [], .str [], .int .i64 0, .int .i64 0, .int .i64 0, .int .i64 0, .int .i64 0, .int .i64 0, .bool false] 1) [(0, 9, v22)]).bind fun c23 =>
 (aAppend 9 88 [.str [], .str [], .int .i64 0, .int .i64 0, .int .i64 0, .int .i64 0, .int .i64 0, .int .i64 0, .bool false] false r20.1 (.slice (x19.2.2.next + 0) 0 1 1 9 true) (r20.2.setBlk (x19.2.2.next + 0) (some ⟨c23, true⟩))).bind fun r24 =>
 bif checkPairs [(2, some (.lrd 6 (0) 9)), (1, some (.ef [(6, (AVal.aggCells (x19.2.1.getD 1 .undef)))] (x19.2.2.res 1) [(6, (AVal.aggCells (x19.2.1.getD 1 .undef)))] r20.2))] [(2, 1)] then (aFill (reps [.int .i64 0] 2) [(0, 1, (.int .i64 3)), (1, 1, (.int .i64 4))]).bind fun c25 =>
 (aLen false (.slice r24.2.next 0 2 2 1 true)).bind fun v26 =>
 (loop (L4_0 call) [r24.1, (.slice r24.2.next 0 2 2 1 true), v26, (.int .i64 0)] (r24.2.alloc c25)).bind fun x42 =>
 bif Nat.beq x42.1 1 then (aFill [.str [], .str []] [(0, 1, (.str [97])), (1, 1, (.str [98]))]).bind fun c43 =>
 (aFill [.str [], .str []] [(0, 1, (.str [97]))]).bind fun c44 =>
 (aFill (reps [.str [], .str []] 2) [(0, 2, (.agg c43)), (2, 2, (.agg c44))]).bind fun c45 =>
 (aFill [.int .i64 0, .int .i64 0, .int .i64 0, .int .i64 0, .int .i64 0, .int .i64 0, .int .i64 0, .str [], .str [], .bool false, .int .u32 0, .nilSlice, .nilSlice] [(0, 1, (.int .i64 5)), (12, 1, (.slice x42.2.2.next 0 2 2 2 true))]).bind fun c46 =>
 (call 7 [(.agg c46)] (x42.2.2.alloc c45)).bind fun r47 =>
 (aExtract 0 r47.1).bind fun v48 =>
 (aExtract 1 r47.1).bind fun v49 =>
 (aFill [.int .i64 0, .int .i64 0, .int .i64 0, .int .i64 0, .int .i64 0, .int .i64 0, .int .i64 0, .str [], .str [], .bool false, .int .u32 0, .nilSlice, .nilSlice] [(0, 1, (.int .i64 5)), (11, 1, (x42.2.1.getD 0 .undef))]).bind fun c50 =>
 (call 7 [(.agg c50)] r47.2).bind fun r51 =>
 (aExtract 0 r51.1).bind fun v52 =>
 (aExtract 1 r51.1).bind fun v53 =>
 (call 15 [v49, (.str [119, 114, 105, 116, 101]), (.str [99, 97, 114, 100]), (.int .i64 1)] r51.2).bind fun r54 =>
 (guardV r54.1 true
 ((call 15 [v53, (.str [119, 114, 105, 116, 101]), (.str [122, 101, 114, 111]), (.int .i64 12)] r54.2).bind fun r55 =>
 some (0, [r55.1], r55.2))
 (some (0, [skipV], r54.2))).bind fun g56 =>
 (aPick r54.1 (g56.2.1.getD 0 .undef) (.bool false)).bind fun v57 =>
 (guardV v57 true
 ((call 12 [] g56.2.2).bind fun r58 =>
 some (0, [r58.1], r58.2))
 (some (0, [skipV], g56.2.2))).bind fun g59 =>
 (aPick v57 (g59.2.1.getD 0 .undef) (.bool false)).bind fun v60 =>
 some (0, [v60], g59.2.2) else
 bif Nat.beq x42.1 2 then some (0, [(x42.2.1.getD 0 .undef)], x42.2.2) else
 none else none else
 none else none
theorem run4 (call : Go.Fw.Call) (a0 a1 : AVal) (h : Heap) : runFn call (.code A4) [a0, a1] h = (S4 call a0 a1 h).bind ansOf := by kernel_rfl

/-- frankpledge/frankpledgelaw6.MailOnce -/
noncomputable def A5 : AFunc := ⟨2, (.seq (.region [.op 0 (.mov 4 (.const (.bool false)))] [])
 (.seq (.region [.op 0 (.mov 11 (.tmp 0)),
 .op 1 (.build 12 [.nilSlice, .int .i64 0] [(0, 1, .tmp 11)]),
 .op 2 (.box 13 false (.tmp 12)),
 .op 3 (.call 14 6 [.tmp 13]),
 .op 4 (.mov 15 (.tmp 1)),
 .op 5 (.build 16 [.nilSlice, .int .i64 0] [(0, 1, .tmp 15)]),
 .op 6 (.box 17 false (.tmp 16)),
 .op 7 (.call 18 6 [.tmp 17]),
 .op 8 (.alloc 5 true [.int .i64 0, .int .i64 0, .int .i64 0, .int .i64 0, .int .i64 0, .int .i64 0, .int .i64 0, .str [], .str [], .bool false, .int .u32 0, .nilSlice, .nilSlice]),
 .op 9 (.alloc 6 true [.int .i64 0, .int .i64 0, .int .i64 0, .int .i64 0, .int .i64 0, .int .i64 0, .int .i64 0, .str [], .str [], .bool false, .int .u32 0, .nilSlice, .nilSlice]),
 .op 10 (.store true 13 (.tmp 5) (.tmp 14)),
 .op 11 (.store true 13 (.tmp 6) (.tmp 18))] [])
 (.seq (.region [.op 0 (.load 20 true 13 (.tmp 5)),
 .op 1 (.call 21 7 [.tmp 20]),
 .op 2 (.mov 19 (.tmp 21)),
 .op 3 (.extract 22 (.tmp 19) 0),
 .op 4 (.extract 23 (.tmp 19) 1),
 .op 5 (.mov 7 (.tmp 22)),
 .op 6 (.mov 8 (.tmp 23))] [])
 (.seq (.region [.op 0 (.load 25 true 13 (.tmp 6)),
 .op 1 (.call 26 7 [.tmp 25]),
 .op 2 (.mov 24 (.tmp 26)),
 .op 3 (.extract 27 (.tmp 24) 0),
 .op 4 (.extract 28 (.tmp 24) 1),
 .op 5 (.mov 9 (.tmp 27)),
 .op 6 (.mov 10 (.tmp 28))] [])
 (.seq (.region [.op 0 (.mov 29 (.tmp 8)),
 .op 1 (.bin 30 .eql (.iface true []) (.tmp 29) (.const (.nilIface))),
 .op 2 (.mov 31 (.tmp 30)),
 .guard 31 true [.op 3 (.mov 32 (.tmp 10)),
 .op 4 (.bin 33 .eql (.iface true []) (.tmp 32) (.const (.nilIface)))] [] [33],
 .op 5 (.pick 34 (.tmp 31) (.tmp 33) (.const (.bool false))),
 .op 6 (.mov 35 (.tmp 34)),
 .guard 35 true [.op 7 (.mov 36 (.tmp 7)),
 .op 8 (.conv 37 .bytesStr (.tmp 36)),
 .op 9 (.mov 38 (.tmp 9)),
 .op 10 (.conv 39 .bytesStr (.tmp 38)),
 .op 11 (.bin 40 .eql .plain (.tmp 37) (.tmp 39)),
 .op 12 (.load 41 true 13 (.tmp 5)),
 .op 13 (.load 42 true 13 (.tmp 6)),
 .op 14 (.call 43 16 [.tmp 41, .tmp 42]),
 .op 15 (.bin 44 .eql .bool (.tmp 40) (.tmp 43))] [(8, 14), (10, 14)] [44],
 .op 16 (.pick 45 (.tmp 35) (.tmp 44) (.const (.bool false))),
 .op 17 (.mov 46 (.tmp 45)),
 .guard 46 true [.op 18 (.call 47 12 [])] [] [47],
 .op 19 (.pick 48 (.tmp 46) (.tmp 47) (.const (.bool false))),
 .op 20 (.mov 4 (.tmp 48))] [])
 .ret))))),
 [.tmp 4]⟩
theorem ok5 : funcOk Tryd.prog (drawOk Tryd.prog) Tryd.f5 A5 = true := by kernel_rfl
noncomputable def S5 (call : Go.Fw.Call) (a0 a1 : AVal) (h : Heap) : Option J :=
 (aFill [.nilSlice, .int .i64 0] [(0, 1, a0)]).bind fun c1 =>
 (AVal.cells? (.agg c1)).bind fun c2 =>
 (call 6 [(.ptr h.next 0)] (h.alloc c2)).bind fun r4 =>
 (aFill [.nilSlice, .int .i64 0] [(0, 1, a1)]).bind fun c5 =>
 (AVal.cells? (.agg c5)).bind fun c6 =>
 (call 6 [(.ptr r4.2.next 0)] (r4.2.alloc c6)).bind fun r8 =>
 (aCells 13 r4.1).bind fun c9 =>
 bif Nat.ble ((0) + 13) (List.length (α := AVal) [.int .i64 0, .int .i64 0, .int .i64 0, .int .i64 0, .int .i64 0, .int .i64 0, .int .i64 0, .str [], .str [], .bool false, .int .u32 0, .nilSlice, .nilSlice]) then (aCells 13 r8.1).bind fun c10 =>
 bif Nat.ble ((0) + 13) (List.length (α := AVal) [.int .i64 0, .int .i64 0, .int .i64 0, .int .i64 0, .int .i64 0, .int .i64 0, .int .i64 0, .str [], .str [], .bool false, .int .u32 0, .nilSlice, .nilSlice]) then (rdL (splice [.int .i64 0, .int .i64 0, .int .i64 0, .int .i64 0, .int .i64 0, .int .i64 0, .int .i64 0, .str [], .str [], .bool false, .int .u32 0, .nilSlice, .nilSlice] (0) c9) 0 13).bind fun c11 =>
 (fromCells true c11).bind fun v12 =>
 (call 7 [v12] r8.2).bind fun r13 =>
 (aExtract 0 r13.1).bind fun v14 =>
 (aExtract 1 r13.1).bind fun v15 =>
 (rdL (splice [.int .i64 0, .int .i64 0, .int .i64 0, .int .i64 0, .int .i64 0, .int .i64 0, .int .i64 0, .str [], .str [], .bool false, .int .u32 0, .nilSlice, .nilSlice] (0) c10) 0 13).bind fun c16 =>
 (fromCells true c16).bind fun v17 =>
 (call 7 [v17] r13.2).bind fun r18 =>
 (aExtract 0 r18.1).bind fun v19 =>
 (aExtract 1 r18.1).bind fun v20 =>
 (aBin .eql (.iface true []) v15 (.nilIface)).bind fun v21 =>
 (guardV v21 true
 ((aBin .eql (.iface true []) v20 (.nilIface)).bind fun v22 =>
 some (0, [v22], r18.2))
 (some (0, [skipV], r18.2))).bind fun g23 =>
 (aPick v21 (g23.2.1.getD 0 .undef) (.bool false)).bind fun v24 =>
 (guardV v24 true
 ((aConv .bytesStr v14 g23.2.2).bind fun r25 =>
 (aConv .bytesStr v19 r25.2).bind fun r26 =>
 (aBin .eql .plain r25.1 r26.1).bind fun v27 =>
 (rdL (splice [.int .i64 0, .int .i64 0, .int .i64 0, .int .i64 0, .int .i64 0, .int .i64 0, .int .i64 0, .str [], .str [], .bool false, .int .u32 0, .nilSlice, .nilSlice] (0) c9) 0 13).bind fun c28 =>
 (fromCells true c28).bind fun v29 =>
 (rdL (splice [.int .i64 0, .int .i64 0, .int .i64 0, .int .i64 0, .int .i64 0, .int .i64 0, .int .i64 0, .str [], .str [], .bool false, .int .u32 0, .nilSlice, .nilSlice] (0) c10) 0 13).bind fun c30 =>
 (fromCells true c30).bind fun v31 =>
 (call 16 [v29, v31] r26.2).bind fun r32 =>
 (aBin .eql .bool v27 r32.1).bind fun v33 =>
 bif checkPairs [(14, some (.ef [(6, (splice [.int .i64 0, .int .i64 0, .int .i64 0, .int .i64 0, .int .i64 0, .int .i64 0, .int .i64 0, .str [], .str [], .bool false, .int .u32 0, .nilSlice, .nilSlice] (0) c10)), (5, (splice [.int .i64 0, .int .i64 0, .int .i64 0, .int .i64 0, .int .i64 0, .int .i64 0, .int .i64 0, .str [], .str [], .bool false, .int .u32 0, .nilSlice, .nilSlice] (0) c9))] r26.2 [(6, (splice [.int .i64 0, .int .i64 0, .int .i64 0, .int .i64 0, .int .i64 0, .int .i64 0, .int .i64 0, .str [], .str [], .bool false, .int .u32 0, .nilSlice, .nilSlice] (0) c10)), (5, (splice [.int .i64 0, .int .i64 0, .int .i64 0, .int .i64 0, .int .i64 0, .int .i64 0, .int .i64 0, .str [], .str [], .bool false, .int .u32 0, .nilSlice, .nilSlice] (0) c9))] r32.2)), (10, logBs v19), (8, logBs v14)] [(8, 14), (10, 14)] then some (0, [v33], r32.2) else none)
 (some (0, [skipV], g23.2.2))).bind fun g34 =>
 (aPick v24 (g34.2.1.getD 0 .undef) (.bool false)).bind fun v35 =>
 (guardV v35 true
 ((call 12 [] g34.2.2).bind fun r36 =>
 some (0, [r36.1], r36.2))
 (some (0, [skipV], g34.2.2))).bind fun g37 =>
 (aPick v35 (g37.2.1.getD 0 .undef) (.bool false)).bind fun v38 =>
 some (0, [v38], g37.2.2) else none else none
theorem run5 (call : Go.Fw.Call) (a0 a1 : AVal) (h : Heap) : runFn call (.code A5) [a0, a1] h = (S5 call a0 a1 h).bind ansOf := by kernel_rfl

/-- (*frankpledge/frankpledgekeep.Tape).Msg -/
noncomputable def A6 : AFunc := ⟨1, (.seq (.region [.op 0 (.alloc 2 true [.int .i64 0, .int .i64 0, .int .i64 0, .int .i64 0, .int .i64 0, .int .i64 0, .int .i64 0, .str [], .str [], .bool false, .int .u32 0, .nilSlice, .nilSlice])] [])
 (.seq (.region [.op 0 (.mov 5 (.tmp 0)),
 .op 1 (.call 6 17 [.tmp 5, .const (.int .i64 5)]),
 .op 2 (.bin 7 .add .plain (.const (.int .i64 1)) (.tmp 6)),
 .op 3 (.build 8 [.int .i64 0, .int .i64 0, .int .i64 0, .int .i64 0, .int .i64 0, .int .i64 0, .int .i64 0, .str [], .str [], .bool false, .int .u32 0, .nilSlice, .nilSlice] [(0, 1, .tmp 7)]),
 .op 4 (.alloc 3 true [.int .i64 0, .int .i64 0, .int .i64 0, .int .i64 0, .int .i64 0, .int .i64 0, .int .i64 0, .str [], .str [], .bool false, .int .u32 0, .nilSlice, .nilSlice]),
 .op 5 (.store true 13 (.tmp 3) (.tmp 8))] [])
 (.seq (.seq (.region [.op 0 (.faddr 9 0 (.tmp 3)),
 .op 1 (.load 10 false 1 (.tmp 9))] [])
 (.block 0 (.seq (.seq (.region [.op 0 (.bin 15 .eql .plain (.tmp 10) (.const (.int .i64 1))),
 .op 1 (.mov 14 (.tmp 15))] [])
 (.join [(.normal, ⟨[0, 10, 14], [2, 3]⟩)] (.cond (.tmp 14)
 .skip
 (.region [.op 0 (.bin 16 .eql .plain (.tmp 10) (.const (.int .i64 2))),
 .op 1 (.mov 14 (.tmp 16))] []))))
 (.join [(.normal, ⟨[], [2, 3]⟩)] (.cond (.tmp 14)
 (.seq (.region [.op 0 (.mov 17 (.tmp 0)),
 .op 1 (.call 18 17 [.tmp 17, .const (.int .i64 9)]),
 .op 2 (.mov 19 (.tmp 0)),
 .op 3 (.call 20 17 [.tmp 19, .const (.int .i64 5)]),
 .op 4 (.bin 21 .add .plain (.const (.int .i64 1)) (.tmp 20)),
 .op 5 (.faddr 22 4 (.tmp 3)),
 .op 6 (.store false 1 (.tmp 22) (.tmp 18)),
 .op 7 (.faddr 23 1 (.tmp 3)),
 .op 8 (.store false 1 (.tmp 23) (.tmp 21))] [])
 (.seq (.seq (.region [.op 0 (.faddr 24 1 (.tmp 3)),
 .op 1 (.load 25 false 1 (.tmp 24)),
 .op 2 (.bin 26 .neq .plain (.tmp 25) (.const (.int .i64 5)))] [])
 (.join [(.normal, ⟨[0], [2, 3]⟩)] (.cond (.tmp 26)
 (.region [.op 0 (.mov 27 (.tmp 0)),
 .op 1 (.call 28 18 [.tmp 27]),
 .op 2 (.faddr 29 7 (.tmp 3)),
 .op 3 (.store true 2 (.tmp 29) (.tmp 28))] [])
 .skip)))
 (.seq (.region [.op 0 (.mov 30 (.tmp 0)),
 .op 1 (.call 31 17 [.tmp 30, .const (.int .i64 30)]),
 .op 2 (.bin 32 .sub .plain (.tmp 31) (.const (.int .i64 1))),
 .op 3 (.faddr 33 6 (.tmp 3)),
 .op 4 (.store false 1 (.tmp 33) (.tmp 32))] [])
 (.seq (.region [.op 0 (.faddr 34 0 (.tmp 3)),
 .op 1 (.load 35 false 1 (.tmp 34)),
 .op 2 (.bin 36 .eql .plain (.tmp 35) (.const (.int .i64 1)))] [])
 (.join [(.normal, ⟨[], [2, 3]⟩)] (.cond (.tmp 36)
 (.region [.op 0 (.mov 37 (.tmp 0)),
 .op 1 (.call 38 17 [.tmp 37, .const (.int .i64 70)]),
 .op 2 (.mov 39 (.tmp 0)),
 .op 3 (.call 40 17 [.tmp 39, .const (.int .i64 5)]),
 .op 4 (.faddr 41 5 (.tmp 3)),
 .op 5 (.store false 1 (.tmp 41) (.tmp 38)),
 .op 6 (.faddr 42 2 (.tmp 3)),
 .op 7 (.store false 1 (.tmp 42) (.tmp 40))] [])
 (.regionF 1 [.op 0 (.fl 43 0 (some (1, 5)) [.int .i64 0] [(0, .const (.int .i64 0)), (1, .const (.int .i64 1)), (2, .const (.int .i64 22)), (3, .const (.int .i64 24)), (4, .const (.int .i64 255))]),
 .op 1 (.mov 44 (.tmp 0)),
 .op 2 (.call 45 17 [.tmp 44, .const (.int .i64 5)]),
 .op 3 (.iaddr 46 none 1 (.tmp 43) (.tmp 45)),
 .op 4 (.load 47 false 1 (.tmp 46)),
 .op 5 (.mov 48 (.tmp 0)),
 .op 6 (.call 49 17 [.tmp 48, .const (.int .i64 2)]),
 .op 7 (.bin 50 .eql .plain (.tmp 49) (.const (.int .i64 0))),
 .op 8 (.mov 51 (.tmp 0)),
 .op 9 (.call 52 17 [.tmp 51, .const (.int .i64 1073741824)]),
 .op 10 (.conv 53 (.toInt .u32) (.tmp 52)),
 .op 11 (.mov 54 (.tmp 0)),
 .op 12 (.call 55 14 [.tmp 54, .const (.int .i64 5)]),
 .op 13 (.faddr 56 3 (.tmp 3)),
 .op 14 (.store false 1 (.tmp 56) (.tmp 47)),
 .op 15 (.faddr 57 9 (.tmp 3)),
 .op 16 (.store false 1 (.tmp 57) (.tmp 50)),
 .op 17 (.faddr 58 10 (.tmp 3)),
 .op 18 (.store false 1 (.tmp 58) (.tmp 53)),
 .op 19 (.faddr 59 11 (.tmp 3)),
 .op 20 (.store false 1 (.tmp 59) (.tmp 55))] [(4, 6), (4, 9), (4, 12)])))))))
 (.seq (.region [.op 0 (.bin 61 .eql .plain (.tmp 10) (.const (.int .i64 5))),
 .op 1 (.mov 60 (.tmp 61))] [])
 (.join [(.normal, ⟨[], [2, 3]⟩)] (.cond (.tmp 60)
 (.seq (.region [.op 0 (.mov 62 (.tmp 0)),
 .op 1 (.call 63 17 [.tmp 62, .const (.int .i64 6)]),
 .op 2 (.mov 4 (.tmp 63))] [])
 (.block 1 (.loop ⟨[0, 4], [2, 3]⟩ [((.exit 1), ⟨[], [2, 3]⟩)]
 (.seq (.seq (.region [.op 0 (.mov 64 (.tmp 4)),
 .op 1 (.bin 65 .gtr .plain (.tmp 64) (.const (.int .i64 0)))] [])
 (.cond (.tmp 65)
 .skip
 (.exit 1)))
 (.seq (.block 2 (.region [.op 0 (.faddr 68 12 (.tmp 3)),
 .op 1 (.load 69 false 1 (.tmp 68)),
 .op 2 (.mov 70 (.tmp 0)),
 .op 3 (.call 71 18 [.tmp 70]),
 .op 4 (.buildSl 72 [.str [], .str []] 2 1 [(0, .tmp 71)]),
 .op 5 (.append 73 2 32 [.str [], .str []] false (.tmp 69) (.tmp 72)),
 .op 6 (.faddr 74 12 (.tmp 3)),
 .op 7 (.store false 1 (.tmp 74) (.tmp 73))] [(1, 3), (1, 4)]))
 (.region [.op 0 (.mov 66 (.tmp 4)),
 .op 1 (.bin 67 .sub .plain (.tmp 66) (.const (.int .i64 1))),
 .op 2 (.mov 4 (.tmp 67))] []))))))
 (.region [.op 0 (.mov 11 (.tmp 0)),
 .op 1 (.call 12 14 [.tmp 11, .const (.int .i64 6)]),
 .op 2 (.faddr 13 11 (.tmp 3)),
 .op 3 (.store false 1 (.tmp 13) (.tmp 12))] [])))))))))
 (.seq (.region [.op 0 (.load 75 true 13 (.tmp 3)),
 .op 1 (.store true 13 (.tmp 2) (.tmp 75))] [])
 .ret)))),
 [.cell 2 true 13]⟩
theorem ok6 : funcOk Tryd.prog (drawOk Tryd.prog) Tryd.f6 A6 = true := by kernel_rfl
/-- xs: t0, t4, cells of 2, cells of 3 -/
noncomputable def L6_0 (call : Go.Fw.Call) (xs : List AVal) (h : Heap) : Option J :=
 (aBin .gtr .plain (xs.getD 1 .undef) (.int .i64 0)).bind fun v48 =>
 condV v48
 ((rdL (AVal.aggCells (xs.getD 3 .undef)) 12 1).bind fun c49 =>
 (fromCells false c49).bind fun v50 =>
 (call 18 [(xs.getD 0 .undef)] h).bind fun r51 =>
 (aFill (reps [.str [], .str []] 1) [(0, 2, r51.1)]).bind fun c52 =>
 (aAppend 2 32 [.str [], .str []] false v50 (.slice r51.2.next 0 1 1 2 true) (r51.2.alloc c52)).bind fun r53 =>
 (aCells 1 r53.1).bind fun c54 =>
 bif Nat.ble ((12) + 1) (List.length (α := AVal) (AVal.aggCells (xs.getD 3 .undef))) then bif checkPairs [(4, some (.al r51.2.next)), (3, some (.ef [(2, (AVal.aggCells (xs.getD 2 .undef))), (3, (AVal.aggCells (xs.getD 3 .undef)))] h [(2, (AVal.aggCells (xs.getD 2 .undef))), (3, (AVal.aggCells (xs.getD 3 .undef)))] r51.2)), (1, some (.lrd 3 (12) 1))] [(1, 3), (1, 4)] then (aBin .sub .plain (xs.getD 1 .undef) (.int .i64 1)).bind fun v55 =>
 some (0, [(xs.getD 0 .undef), v55, (.agg (AVal.aggCells (xs.getD 2 .undef))), (.agg (splice (AVal.aggCells (xs.getD 3 .undef)) (12) c54))], r53.2) else none else none)
 (some (1, [(.agg (AVal.aggCells (xs.getD 2 .undef))), (.agg (AVal.aggCells (xs.getD 3 .undef)))], h))
noncomputable def S6 (call : Go.Fw.Call) (a0 : AVal) (h : Heap) : Option J :=
 (call 17 [a0, (.int .i64 5)] h).bind fun r1 =>
 (aBin .add .plain (.int .i64 1) r1.1).bind fun v2 =>
 (aFill [.int .i64 0, .int .i64 0, .int .i64 0, .int .i64 0, .int .i64 0, .int .i64 0, .int .i64 0, .str [], .str [], .bool false, .int .u32 0, .nilSlice, .nilSlice] [(0, 1, v2)]).bind fun c3 =>
 (aCells 13 (.agg c3)).bind fun c4 =>
 bif Nat.ble ((0) + 13) (List.length (α := AVal) [.int .i64 0, .int .i64 0, .int .i64 0, .int .i64 0, .int .i64 0, .int .i64 0, .int .i64 0, .str [], .str [], .bool false, .int .u32 0, .nilSlice, .nilSlice]) then (rdL (splice [.int .i64 0, .int .i64 0, .int .i64 0, .int .i64 0, .int .i64 0, .int .i64 0, .int .i64 0, .str [], .str [], .bool false, .int .u32 0, .nilSlice, .nilSlice] (0) c4) 0 1).bind fun c5 =>
 (fromCells false c5).bind fun v6 =>
 (aBin .eql .plain v6 (.int .i64 1)).bind fun v7 =>
 (condV v7
 (some (0, [a0, v6, v7, (.agg [.int .i64 0, .int .i64 0, .int .i64 0, .int .i64 0, .int .i64 0, .int .i64 0, .int .i64 0, .str [], .str [], .bool false, .int .u32 0, .nilSlice, .nilSlice]), (.agg (splice [.int .i64 0, .int .i64 0, .int .i64 0, .int .i64 0, .int .i64 0, .int .i64 0, .int .i64 0, .str [], .str [], .bool false, .int .u32 0, .nilSlice, .nilSlice] (0) c4))], r1.2))
 ((aBin .eql .plain v6 (.int .i64 2)).bind fun v8 =>
 some (0, [a0, v6, v8, (.agg [.int .i64 0, .int .i64 0, .int .i64 0, .int .i64 0, .int .i64 0, .int .i64 0, .int .i64 0, .str [], .str [], .bool false, .int .u32 0, .nilSlice, .nilSlice]), (.agg (splice [.int .i64 0, .int .i64 0, .int .i64 0, .int .i64 0, .int .i64 0, .int .i64 0, .int .i64 0, .str [], .str [], .bool false, .int .u32 0, .nilSlice, .nilSlice] (0) c4))], r1.2))).bind fun x9 =>
 bif Nat.beq x9.1 0 then (condV (x9.2.1.getD 2 .undef)
 ((call 17 [(x9.2.1.getD 0 .undef), (.int .i64 9)] x9.2.2).bind fun r10 =>
 (call 17 [(x9.2.1.getD 0 .undef), (.int .i64 5)] r10.2).bind fun r11 =>
 (aBin .add .plain (.int .i64 1) r11.1).bind fun v12 =>
 (aCells 1 r10.1).bind fun c13 =>
 bif Nat.ble ((4) + 1) (List.length (α := AVal) (AVal.aggCells (x9.2.1.getD 4 .undef))) then (aCells 1 v12).bind fun c14 =>
 bif Nat.ble ((1) + 1) (List.length (α := AVal) (splice (AVal.aggCells (x9.2.1.getD 4 .undef)) (4) c13)) then (rdL (splice (splice (AVal.aggCells (x9.2.1.getD 4 .undef)) (4) c13) (1) c14) 1 1).bind fun c15 =>
 (fromCells false c15).bind fun v16 =>
 (aBin .neq .plain v16 (.int .i64 5)).bind fun v17 =>
 (condV v17
 ((call 18 [(x9.2.1.getD 0 .undef)] r11.2).bind fun r18 =>
 (aCells 2 r18.1).bind fun c19 =>
 bif Nat.ble ((7) + 2) (List.length (α := AVal) (splice (splice (AVal.aggCells (x9.2.1.getD 4 .undef)) (4) c13) (1) c14)) then some (0, [(x9.2.1.getD 0 .undef), (.agg (AVal.aggCells (x9.2.1.getD 3 .undef))), (.agg (splice (splice (splice (AVal.aggCells (x9.2.1.getD 4 .undef)) (4) c13) (1) c14) (7) c19))], r18.2) else none)
 (some (0, [(x9.2.1.getD 0 .undef), (.agg (AVal.aggCells (x9.2.1.getD 3 .undef))), (.agg (splice (splice (AVal.aggCells (x9.2.1.getD 4 .undef)) (4) c13) (1) c14))], r11.2))).bind fun x20 =>
 bif Nat.beq x20.1 0 then (call 17 [(x20.2.1.getD 0 .undef), (.int .i64 30)] x20.2.2).bind fun r21 =>
 (aBin .sub .plain r21.1 (.int .i64 1)).bind fun v22 =>
 (aCells 1 v22).bind fun c23 =>
 bif Nat.ble ((6) + 1) (List.length (α := AVal) (AVal.aggCells (x20.2.1.getD 2 .undef))) then (rdL (splice (AVal.aggCells (x20.2.1.getD 2 .undef)) (6) c23) 0 1).bind fun c24 =>
 (fromCells false c24).bind fun v25 =>
 (aBin .eql .plain v25 (.int .i64 1)).bind fun v26 =>
 (condV v26
 ((call 17 [(x20.2.1.getD 0 .undef), (.int .i64 70)] r21.2).bind fun r27 =>
 (call 17 [(x20.2.1.getD 0 .undef), (.int .i64 5)] r27.2).bind fun r28 =>
 (aCells 1 r27.1).bind fun c29 =>
 bif Nat.ble ((5) + 1) (List.length (α := AVal) (splice (AVal.aggCells (x20.2.1.getD 2 .undef)) (6) c23)) then (aCells 1 r28.1).bind fun c30 =>
 bif Nat.ble ((2) + 1) (List.length (α := AVal) (splice (splice (AVal.aggCells (x20.2.1.getD 2 .undef)) (6) c23) (5) c29)) then some (0, [(.agg (AVal.aggCells (x20.2.1.getD 1 .undef))), (.agg (splice (splice (splice (AVal.aggCells (x20.2.1.getD 2 .undef)) (6) c23) (5) c29) (2) c30))], r28.2) else none else none)
 ((aFill (reps [.int .i64 0] 5) [(0, 1, (.int .i64 0)), (1, 1, (.int .i64 1)), (2, 1, (.int .i64 22)), (3, 1, (.int .i64 24)), (4, 1, (.int .i64 255))]).bind fun c31 =>
 (call 17 [(x20.2.1.getD 0 .undef), (.int .i64 5)] ((r21.2.res 1).setBlk (r21.2.next + 0) (some ⟨c31, true⟩))).bind fun r32 =>
 (aIaddr 1 (.slice (r21.2.next + 0) 0 5 5 1 true) r32.1).bind fun v33 =>
 (aLoad r32.2 1 v33).bind fun c34 =>
 (fromCells false c34).bind fun v35 =>
 (call 17 [(x20.2.1.getD 0 .undef), (.int .i64 2)] r32.2).bind fun r36 =>
 (aBin .eql .plain r36.1 (.int .i64 0)).bind fun v37 =>
 (call 17 [(x20.2.1.getD 0 .undef), (.int .i64 1073741824)] r36.2).bind fun r38 =>
 (aConv (.toInt .u32) r38.1 r38.2).bind fun r39 =>
 (call 14 [(x20.2.1.getD 0 .undef), (.int .i64 5)] r39.2).bind fun r40 =>
 (aCells 1 v35).bind fun c41 =>
 bif Nat.ble ((3) + 1) (List.length (α := AVal) (splice (AVal.aggCells (x20.2.1.getD 2 .undef)) (6) c23)) then (aCells 1 v37).bind fun c42 =>
 bif Nat.ble ((9) + 1) (List.length (α := AVal) (splice (splice (AVal.aggCells (x20.2.1.getD 2 .undef)) (6) c23) (3) c41)) then (aCells 1 r39.1).bind fun c43 =>
 bif Nat.ble ((10) + 1) (List.length (α := AVal) (splice (splice (splice (AVal.aggCells (x20.2.1.getD 2 .undef)) (6) c23) (3) c41) (9) c42)) then (aCells 1 r40.1).bind fun c44 =>
 bif Nat.ble ((11) + 1) (List.length (α := AVal) (splice (splice (splice (splice (AVal.aggCells (x20.2.1.getD 2 .undef)) (6) c23) (3) c41) (9) c42) (10) c43)) then bif checkPairs [(12, some (.ef [(2, (AVal.aggCells (x20.2.1.getD 1 .undef))), (3, (splice (AVal.aggCells (x20.2.1.getD 2 .undef)) (6) c23))] r39.2 [(2, (AVal.aggCells (x20.2.1.getD 1 .undef))), (3, (splice (AVal.aggCells (x20.2.1.getD 2 .undef)) (6) c23))] r40.2)), (9, some (.ef [(2, (AVal.aggCells (x20.2.1.getD 1 .undef))), (3, (splice (AVal.aggCells (x20.2.1.getD 2 .undef)) (6) c23))] r36.2 [(2, (AVal.aggCells (x20.2.1.getD 1 .undef))), (3, (splice (AVal.aggCells (x20.2.1.getD 2 .undef)) (6) c23))] r38.2)), (6, some (.ef [(2, (AVal.aggCells (x20.2.1.getD 1 .undef))), (3, (splice (AVal.aggCells (x20.2.1.getD 2 .undef)) (6) c23))] r32.2 [(2, (AVal.aggCells (x20.2.1.getD 1 .undef))), (3, (splice (AVal.aggCells (x20.2.1.getD 2 .undef)) (6) c23))] r36.2)), (4, logRd v33 1)] [(4, 6), (4, 9), (4, 12)] then some (0, [(.agg (AVal.aggCells (x20.2.1.getD 1 .undef))), (.agg (splice (splice (splice (splice (splice (AVal.aggCells (x20.2.1.getD 2 .undef)) (6) c23) (3) c41) (9) c42) (10) c43) (11) c44))], r40.2) else none else none else none else none else none)).bind fun x45 =>
 bif Nat.beq x45.1 0 then some (0, [(.agg (AVal.aggCells (x45.2.1.getD 0 .undef))), (.agg (AVal.aggCells (x45.2.1.getD 1 .undef)))], x45.2.2) else
 none else none else
 none else none else none)
 ((aBin .eql .plain (x9.2.1.getD 1 .undef) (.int .i64 5)).bind fun v46 =>
 (condV v46
 ((call 17 [(x9.2.1.getD 0 .undef), (.int .i64 6)] x9.2.2).bind fun r47 =>
 (loop (L6_0 call) [(x9.2.1.getD 0 .undef), r47.1, (.agg (AVal.aggCells (x9.2.1.getD 3 .undef))), (.agg (AVal.aggCells (x9.2.1.getD 4 .undef)))] r47.2).bind fun x56 =>
 bif Nat.beq x56.1 1 then some (0, [(.agg (AVal.aggCells (x56.2.1.getD 0 .undef))), (.agg (AVal.aggCells (x56.2.1.getD 1 .undef)))], x56.2.2) else
 none)
 ((call 14 [(x9.2.1.getD 0 .undef), (.int .i64 6)] x9.2.2).bind fun r57 =>
 (aCells 1 r57.1).bind fun c58 =>
 bif Nat.ble ((11) + 1) (List.length (α := AVal) (AVal.aggCells (x9.2.1.getD 4 .undef))) then some (0, [(.agg (AVal.aggCells (x9.2.1.getD 3 .undef))), (.agg (splice (AVal.aggCells (x9.2.1.getD 4 .undef)) (11) c58))], r57.2) else none)).bind fun x59 =>
 bif Nat.beq x59.1 0 then some (0, [(.agg (AVal.aggCells (x59.2.1.getD 0 .undef))), (.agg (AVal.aggCells (x59.2.1.getD 1 .undef)))], x59.2.2) else
 none)).bind fun x60 =>
 bif Nat.beq x60.1 0 then (rdL (AVal.aggCells (x60.2.1.getD 1 .undef)) 0 13).bind fun c61 =>
 (fromCells true c61).bind fun v62 =>
 (aCells 13 v62).bind fun c63 =>
 bif Nat.ble ((0) + 13) (List.length (α := AVal) (AVal.aggCells (x60.2.1.getD 0 .undef))) then (((rdL (splice (AVal.aggCells (x60.2.1.getD 0 .undef)) (0) c63) (0) 13).bind fun cs => fromCells true cs).bind fun v => (some []).bind fun vs => some (v :: vs)).bind fun vs => some (0, [oneOr vs], x60.2.2) else none else
 none else
 none else none
theorem run6 (call : Go.Fw.Call) (a0 : AVal) (h : Heap) : runFn call (.code A6) [a0] h = (S6 call a0 h).bind ansOf := by kernel_rfl

/-- frankpledge/mail.Bytes -/
noncomputable def A7 : AFunc := ⟨1, (.seq (.region [.op 0 (.box 1 true (.tmp 0)),
 .op 1 (.mov 2 (.const (.nilSlice))),
 .op 2 (.mov 3 (.const (.nilIface)))] [])
 (.seq (.seq (.region [.op 0 (.load 6 true 13 (.tmp 1)),
 .op 1 (.call 7 19 [.tmp 6]),
 .op 2 (.mov 4 (.tmp 7))] [])
 (.seq (.region [.op 0 (.mov 8 (.tmp 4)),
 .op 1 (.bin 9 .neq (.iface true []) (.tmp 8) (.const (.nilIface)))] [])
 (.cond (.tmp 9)
 (.seq (.region [.op 0 (.mov 10 (.tmp 4)),
 .op 1 (.call 11 20 [.const (.str [119, 114, 105, 116, 101]), .tmp 10]),
 .op 2 (.mov 2 (.const (.nilSlice))),
 .op 3 (.mov 3 (.tmp 11))] [])
 .ret)
 .skip)))
 (.seq (.region [.op 0 (.faddr 12 0 (.tmp 1)),
 .op 1 (.load 13 false 1 (.tmp 12)),
 .op 2 (.call 14 21 [.const (.nilSlice), .tmp 13]),
 .op 3 (.mov 5 (.tmp 14))] [])
 (.seq (.seq (.region [.op 0 (.faddr 15 0 (.tmp 1)),
 .op 1 (.load 16 false 1 (.tmp 15))] [])
 (.block 0 (.seq (.region [.op 0 (.bin 18 .eql .plain (.tmp 16) (.const (.int .i64 1))),
 .op 1 (.mov 17 (.tmp 18))] [])
 (.join [(.normal, ⟨[5], []⟩)] (.cond (.tmp 17)
 (.seq (.region [.op 0 (.mov 19 (.tmp 5)),
 .op 1 (.faddr 20 4 (.tmp 1)),
 .op 2 (.load 21 false 1 (.tmp 20)),
 .op 3 (.call 22 23 [.tmp 19, .tmp 21]),
 .op 4 (.faddr 23 1 (.tmp 1)),
 .op 5 (.load 24 false 1 (.tmp 23)),
 .op 6 (.call 25 21 [.tmp 22, .tmp 24]),
 .op 7 (.faddr 26 7 (.tmp 1)),
 .op 8 (.load 27 true 2 (.tmp 26)),
 .op 9 (.call 28 22 [.tmp 25, .tmp 27]),
 .op 10 (.mov 5 (.tmp 28))] [(5, 3), (8, 3), (8, 6)])
 (.region [.op 0 (.mov 29 (.tmp 5)),
 .op 1 (.faddr 30 5 (.tmp 1)),
 .op 2 (.load 31 false 1 (.tmp 30)),
 .op 3 (.call 32 23 [.tmp 29, .tmp 31]),
 .op 4 (.faddr 33 2 (.tmp 1)),
 .op 5 (.load 34 false 1 (.tmp 33)),
 .op 6 (.call 35 21 [.tmp 32, .tmp 34]),
 .op 7 (.faddr 36 6 (.tmp 1)),
 .op 8 (.load 37 false 1 (.tmp 36)),
 .op 9 (.call 38 23 [.tmp 35, .tmp 37]),
 .op 10 (.mov 5 (.tmp 38))] [(5, 3), (8, 3), (8, 6)]))
 (.seq (.region [.op 0 (.bin 40 .eql .plain (.tmp 16) (.const (.int .i64 2))),
 .op 1 (.mov 39 (.tmp 40))] [])
 (.join [(.normal, ⟨[5], []⟩)] (.cond (.tmp 39)
 (.seq (.region [.op 0 (.mov 41 (.tmp 5)),
 .op 1 (.faddr 42 4 (.tmp 1)),
 .op 2 (.load 43 false 1 (.tmp 42)),
 .op 3 (.call 44 23 [.tmp 41, .tmp 43]),
 .op 4 (.faddr 45 1 (.tmp 1)),
 .op 5 (.load 46 false 1 (.tmp 45)),
 .op 6 (.call 47 21 [.tmp 44, .tmp 46]),
 .op 7 (.faddr 48 7 (.tmp 1)),
 .op 8 (.load 49 true 2 (.tmp 48)),
 .op 9 (.call 50 22 [.tmp 47, .tmp 49]),
 .op 10 (.mov 5 (.tmp 50))] [(5, 3), (8, 3), (8, 6)])
 (.seq (.region [.op 0 (.mov 51 (.tmp 5)),
 .op 1 (.faddr 52 3 (.tmp 1)),
 .op 2 (.load 53 false 1 (.tmp 52)),
 .op 3 (.call 54 21 [.tmp 51, .tmp 53]),
 .op 4 (.faddr 55 9 (.tmp 1)),
 .op 5 (.load 56 false 1 (.tmp 55)),
 .op 6 (.call 57 24 [.tmp 56]),
 .op 7 (.call 58 21 [.tmp 54, .tmp 57]),
 .op 8 (.mov 5 (.tmp 58))] [(5, 3)])
 (.region [.op 0 (.mov 59 (.tmp 5)),
 .op 1 (.faddr 60 6 (.tmp 1)),
 .op 2 (.load 61 false 1 (.tmp 60)),
 .op 3 (.call 62 23 [.tmp 59, .tmp 61]),
 .op 4 (.faddr 63 10 (.tmp 1)),
 .op 5 (.load 64 false 1 (.tmp 63)),
 .op 6 (.conv 65 (.toInt .i64) (.tmp 64)),
 .op 7 (.call 66 23 [.tmp 62, .tmp 65]),
 .op 8 (.faddr 67 11 (.tmp 1)),
 .op 9 (.load 68 false 1 (.tmp 67)),
 .op 10 (.call 69 25 [.tmp 66, .tmp 68]),
 .op 11 (.mov 5 (.tmp 69))] [(5, 3), (9, 3), (9, 7)])))
 (.seq (.seq (.region [.op 0 (.bin 71 .eql .plain (.tmp 16) (.const (.int .i64 3))),
 .op 1 (.mov 70 (.tmp 71))] [])
 (.join [(.normal, ⟨[5, 16, 70], [1]⟩)] (.cond (.tmp 70)
 .skip
 (.region [.op 0 (.bin 72 .eql .plain (.tmp 16) (.const (.int .i64 4))),
 .op 1 (.mov 70 (.tmp 72))] []))))
 (.join [(.normal, ⟨[5], []⟩)] (.cond (.tmp 70)
 (.region [.op 0 (.mov 73 (.tmp 5)),
 .op 1 (.faddr 74 11 (.tmp 1)),
 .op 2 (.load 75 false 1 (.tmp 74)),
 .op 3 (.call 76 25 [.tmp 73, .tmp 75]),
 .op 4 (.mov 5 (.tmp 76))] [])
 (.seq (.region [.op 0 (.bin 78 .eql .plain (.tmp 16) (.const (.int .i64 5))),
 .op 1 (.mov 77 (.tmp 78))] [])
 (.join [(.normal, ⟨[5], []⟩)] (.cond (.tmp 77)
 (.region [.op 0 (.mov 79 (.tmp 5)),
 .op 1 (.faddr 80 12 (.tmp 1)),
 .op 2 (.load 81 false 1 (.tmp 80)),
 .op 3 (.call 82 26 [.tmp 79, .tmp 81]),
 .op 4 (.mov 5 (.tmp 82))] [])
 .skip))))))))))))))
 (.seq (.region [.op 0 (.mov 83 (.tmp 5)),
 .op 1 (.call 84 27 [.tmp 83]),
 .op 2 (.mov 2 (.tmp 84)),
 .op 3 (.mov 3 (.const (.nilIface)))] [])
 .ret))))),
 [.tmp 2, .tmp 3]⟩
theorem ok7 : funcOk Tryd.prog (drawOk Tryd.prog) Tryd.f7 A7 = true := by kernel_rfl
noncomputable def S7 (call : Go.Fw.Call) (a0 : AVal) (h : Heap) : Option J :=
 (AVal.cells? a0).bind fun c1 =>
 (rdL c1 0 13).bind fun c2 =>
 (fromCells true c2).bind fun v3 =>
 (call 19 [v3] h).bind fun r4 =>
 (aBin .neq (.iface true []) r4.1 (.nilIface)).bind fun v5 =>
 condV v5
 ((call 20 [(.str [119, 114, 105, 116, 101]), r4.1] r4.2).bind fun r6 =>
 some (0, [.tuple [(.nilSlice), r6.1]], r6.2))
 ((rdL c1 0 1).bind fun c7 =>
 (fromCells false c7).bind fun v8 =>
 (call 21 [(.nilSlice), v8] r4.2).bind fun r9 =>
 (rdL c1 0 1).bind fun c10 =>
 (fromCells false c10).bind fun v11 =>
 (aBin .eql .plain v11 (.int .i64 1)).bind fun v12 =>
 (condV v12
 ((rdL c1 4 1).bind fun c13 =>
 (fromCells false c13).bind fun v14 =>
 (call 23 [r9.1, v14] r9.2).bind fun r15 =>
 (rdL c1 1 1).bind fun c16 =>
 (fromCells false c16).bind fun v17 =>
 (call 21 [r15.1, v17] r15.2).bind fun r18 =>
 (rdL c1 7 2).bind fun c19 =>
 (fromCells true c19).bind fun v20 =>
 (call 22 [r18.1, v20] r18.2).bind fun r21 =>
 bif checkPairs [(8, some (.lrd 1 (7) 2)), (6, some (.ef [(1, c1)] r15.2 [(1, c1)] r18.2)), (5, some (.lrd 1 (1) 1)), (3, some (.ef [(1, c1)] r9.2 [(1, c1)] r15.2))] [(5, 3), (8, 3), (8, 6)] then (rdL c1 5 1).bind fun c22 =>
 (fromCells false c22).bind fun v23 =>
 (call 23 [r21.1, v23] r21.2).bind fun r24 =>
 (rdL c1 2 1).bind fun c25 =>
 (fromCells false c25).bind fun v26 =>
 (call 21 [r24.1, v26] r24.2).bind fun r27 =>
 (rdL c1 6 1).bind fun c28 =>
 (fromCells false c28).bind fun v29 =>
 (call 23 [r27.1, v29] r27.2).bind fun r30 =>
 bif checkPairs [(8, some (.lrd 1 (6) 1)), (6, some (.ef [(1, c1)] r24.2 [(1, c1)] r27.2)), (5, some (.lrd 1 (2) 1)), (3, some (.ef [(1, c1)] r21.2 [(1, c1)] r24.2))] [(5, 3), (8, 3), (8, 6)] then some (0, [r30.1], r30.2) else none else none)
 ((aBin .eql .plain v11 (.int .i64 2)).bind fun v31 =>
 (condV v31
 ((rdL c1 4 1).bind fun c32 =>
 (fromCells false c32).bind fun v33 =>
 (call 23 [r9.1, v33] r9.2).bind fun r34 =>
 (rdL c1 1 1).bind fun c35 =>
 (fromCells false c35).bind fun v36 =>
 (call 21 [r34.1, v36] r34.2).bind fun r37 =>
 (rdL c1 7 2).bind fun c38 =>
 (fromCells true c38).bind fun v39 =>
 (call 22 [r37.1, v39] r37.2).bind fun r40 =>
 bif checkPairs [(8, some (.lrd 1 (7) 2)), (6, some (.ef [(1, c1)] r34.2 [(1, c1)] r37.2)), (5, some (.lrd 1 (1) 1)), (3, some (.ef [(1, c1)] r9.2 [(1, c1)] r34.2))] [(5, 3), (8, 3), (8, 6)] then (rdL c1 3 1).bind fun c41 =>
 (fromCells false c41).bind fun v42 =>
 (call 21 [r40.1, v42] r40.2).bind fun r43 =>
 (rdL c1 9 1).bind fun c44 =>
 (fromCells false c44).bind fun v45 =>
 (call 24 [v45] r43.2).bind fun r46 =>
 (call 21 [r43.1, r46.1] r46.2).bind fun r47 =>
 bif checkPairs [(5, some (.lrd 1 (9) 1)), (3, some (.ef [(1, c1)] r40.2 [(1, c1)] r43.2))] [(5, 3)] then (rdL c1 6 1).bind fun c48 =>
 (fromCells false c48).bind fun v49 =>
 (call 23 [r47.1, v49] r47.2).bind fun r50 =>
 (rdL c1 10 1).bind fun c51 =>
 (fromCells false c51).bind fun v52 =>
 (aConv (.toInt .i64) v52 r50.2).bind fun r53 =>
 (call 23 [r50.1, r53.1] r53.2).bind fun r54 =>
 (rdL c1 11 1).bind fun c55 =>
 (fromCells false c55).bind fun v56 =>
 (call 25 [r54.1, v56] r54.2).bind fun r57 =>
 bif checkPairs [(9, some (.lrd 1 (11) 1)), (7, some (.ef [(1, c1)] r53.2 [(1, c1)] r54.2)), (5, some (.lrd 1 (10) 1)), (3, some (.ef [(1, c1)] r47.2 [(1, c1)] r50.2))] [(5, 3), (9, 3), (9, 7)] then some (0, [r57.1], r57.2) else none else none else none)
 ((aBin .eql .plain v11 (.int .i64 3)).bind fun v58 =>
 (condV v58
 (some (0, [r9.1, v11, v58, (.agg c1)], r9.2))
 ((aBin .eql .plain v11 (.int .i64 4)).bind fun v59 =>
 some (0, [r9.1, v11, v59, (.agg c1)], r9.2))).bind fun x60 =>
 bif Nat.beq x60.1 0 then (condV (x60.2.1.getD 2 .undef)
 ((rdL (AVal.aggCells (x60.2.1.getD 3 .undef)) 11 1).bind fun c61 =>
 (fromCells false c61).bind fun v62 =>
 (call 25 [(x60.2.1.getD 0 .undef), v62] x60.2.2).bind fun r63 =>
 some (0, [r63.1], r63.2))
 ((aBin .eql .plain (x60.2.1.getD 1 .undef) (.int .i64 5)).bind fun v64 =>
 (condV v64
 ((rdL (AVal.aggCells (x60.2.1.getD 3 .undef)) 12 1).bind fun c65 =>
 (fromCells false c65).bind fun v66 =>
 (call 26 [(x60.2.1.getD 0 .undef), v66] x60.2.2).bind fun r67 =>
 some (0, [r67.1], r67.2))
 (some (0, [(x60.2.1.getD 0 .undef)], x60.2.2))).bind fun x68 =>
 bif Nat.beq x68.1 0 then some (0, [(x68.2.1.getD 0 .undef)], x68.2.2) else
 none)).bind fun x69 =>
 bif Nat.beq x69.1 0 then some (0, [(x69.2.1.getD 0 .undef)], x69.2.2) else
 none else
 none)).bind fun x70 =>
 bif Nat.beq x70.1 0 then some (0, [(x70.2.1.getD 0 .undef)], x70.2.2) else
 none)).bind fun x71 =>
 bif Nat.beq x71.1 0 then (call 27 [(x71.2.1.getD 0 .undef)] x71.2.2).bind fun r72 =>
 some (0, [.tuple [r72.1, (.nilIface)]], r72.2) else
 none)
theorem run7 (call : Go.Fw.Call) (a0 : AVal) (h : Heap) : runFn call (.code A7) [a0] h = (S7 call a0 h).bind ansOf := by kernel_rfl

/-- frankpledge/mail.Read -/
noncomputable def A8 : AFunc := ⟨1, (.seq (.region [.op 0 (.alloc 2 true [.int .i64 0, .int .i64 0, .int .i64 0, .int .i64 0, .int .i64 0, .int .i64 0, .int .i64 0, .str [], .str [], .bool false, .int .u32 0, .nilSlice, .nilSlice]),
 .op 1 (.mov 3 (.const (.nilIface)))] [])
 (.seq (.region [.op 0 (.mov 7 (.tmp 0)),
 .op 1 (.call 8 28 [.tmp 7]),
 .op 2 (.build 9 [.nilPtr, .bool false] [(0, 1, .tmp 8)]),
 .op 3 (.box 10 false (.tmp 9)),
 .op 4 (.mov 4 (.tmp 10))] [])
 (.seq (.region [.op 0 (.mov 11 (.tmp 4)),
 .op 1 (.call 12 29 [.tmp 11]),
 .op 2 (.alloc 5 true [.int .i64 0, .int .i64 0, .int .i64 0, .int .i64 0, .int .i64 0, .int .i64 0, .int .i64 0, .str [], .str [], .bool false, .int .u32 0, .nilSlice, .nilSlice]),
 .op 3 (.store true 13 (.tmp 5) (.tmp 12))] [])
 (.seq (.seq (.region [.op 0 (.mov 13 (.tmp 4)),
 .op 1 (.nilchk 14 (.tmp 13)),
 .op 2 (.faddr 15 0 (.tmp 14)),
 .op 3 (.load 16 false 1 (.tmp 15)),
 .op 4 (.call 17 30 [.tmp 16]),
 .op 5 (.un 18 .not (.tmp 17)),
 .op 6 (.mov 19 (.tmp 18)),
 .guard 19 false [.op 7 (.mov 20 (.tmp 4)),
 .op 8 (.nilchk 21 (.tmp 20)),
 .op 9 (.faddr 22 1 (.tmp 21)),
 .op 10 (.load 23 false 1 (.tmp 22))] [] [23],
 .op 11 (.pick 24 (.tmp 19) (.const (.bool true)) (.tmp 23))] [])
 (.cond (.tmp 24)
 (.seq (.region [.op 0 (.build 25 [.int .i64 0, .int .i64 0, .int .i64 0, .int .i64 0, .int .i64 0, .int .i64 0, .int .i64 0, .str [], .str [], .bool false, .int .u32 0, .nilSlice, .nilSlice] []),
 .op 1 (.call 26 31 [.const (.str [98, 121, 116, 101, 115]), .const (.int .i64 12)]),
 .op 2 (.call 27 20 [.const (.str [114, 101, 97, 100]), .tmp 26]),
 .op 3 (.store true 13 (.tmp 2) (.tmp 25)),
 .op 4 (.mov 3 (.tmp 27))] [])
 .ret)
 .skip))
 (.seq (.seq (.region [.op 0 (.load 28 true 13 (.tmp 5)),
 .op 1 (.call 29 19 [.tmp 28]),
 .op 2 (.mov 6 (.tmp 29))] [])
 (.seq (.region [.op 0 (.mov 30 (.tmp 6)),
 .op 1 (.bin 31 .neq (.iface true []) (.tmp 30) (.const (.nilIface)))] [])
 (.cond (.tmp 31)
 (.seq (.region [.op 0 (.build 32 [.int .i64 0, .int .i64 0, .int .i64 0, .int .i64 0, .int .i64 0, .int .i64 0, .int .i64 0, .str [], .str [], .bool false, .int .u32 0, .nilSlice, .nilSlice] []),
 .op 1 (.mov 33 (.tmp 6)),
 .op 2 (.call 34 20 [.const (.str [114, 101, 97, 100]), .tmp 33]),
 .op 3 (.store true 13 (.tmp 2) (.tmp 32)),
 .op 4 (.mov 3 (.tmp 34))] [])
 .ret)
 .skip)))
 (.seq (.region [.op 0 (.load 35 true 13 (.tmp 5)),
 .op 1 (.store true 13 (.tmp 2) (.tmp 35)),
 .op 2 (.mov 3 (.const (.nilIface)))] [])
 .ret)))))),
 [.cell 2 true 13, .tmp 3]⟩
theorem ok8 : funcOk Tryd.prog (drawOk Tryd.prog) Tryd.f8 A8 = true := by kernel_rfl
noncomputable def S8 (call : Go.Fw.Call) (a0 : AVal) (h : Heap) : Option J :=
 (call 28 [a0] h).bind fun r1 =>
 (aFill [.nilPtr, .bool false] [(0, 1, r1.1)]).bind fun c2 =>
 (AVal.cells? (.agg c2)).bind fun c3 =>
 (call 29 [(.ptr r1.2.next 0)] (r1.2.alloc c3)).bind fun r5 =>
 (aCells 13 r5.1).bind fun c6 =>
 bif Nat.ble ((0) + 13) (List.length (α := AVal) [.int .i64 0, .int .i64 0, .int .i64 0, .int .i64 0, .int .i64 0, .int .i64 0, .int .i64 0, .str [], .str [], .bool false, .int .u32 0, .nilSlice, .nilSlice]) then (aNilchk (.ptr r1.2.next 0)).bind fun v7 =>
 (aFaddr 0 v7).bind fun v8 =>
 (aLoad r5.2 1 v8).bind fun c9 =>
 (fromCells false c9).bind fun v10 =>
 (call 30 [v10] r5.2).bind fun r11 =>
 (aUn .not r11.1).bind fun v12 =>
 (guardV v12 false
 ((aNilchk (.ptr r1.2.next 0)).bind fun v13 =>
 (aFaddr 1 v13).bind fun v14 =>
 (aLoad r11.2 1 v14).bind fun c15 =>
 (fromCells false c15).bind fun v16 =>
 some (0, [v16], r11.2))
 (some (0, [skipV], r11.2))).bind fun g17 =>
 (aPick v12 (.bool true) (g17.2.1.getD 0 .undef)).bind fun v18 =>
 condV v18
 ((aFill [.int .i64 0, .int .i64 0, .int .i64 0, .int .i64 0, .int .i64 0, .int .i64 0, .int .i64 0, .str [], .str [], .bool false, .int .u32 0, .nilSlice, .nilSlice] []).bind fun c19 =>
 (call 31 [(.str [98, 121, 116, 101, 115]), (.int .i64 12)] g17.2.2).bind fun r20 =>
 (call 20 [(.str [114, 101, 97, 100]), r20.1] r20.2).bind fun r21 =>
 (aCells 13 (.agg c19)).bind fun c22 =>
 bif Nat.ble ((0) + 13) (List.length (α := AVal) [.int .i64 0, .int .i64 0, .int .i64 0, .int .i64 0, .int .i64 0, .int .i64 0, .int .i64 0, .str [], .str [], .bool false, .int .u32 0, .nilSlice, .nilSlice]) then (((rdL (splice [.int .i64 0, .int .i64 0, .int .i64 0, .int .i64 0, .int .i64 0, .int .i64 0, .int .i64 0, .str [], .str [], .bool false, .int .u32 0, .nilSlice, .nilSlice] (0) c22) (0) 13).bind fun cs => fromCells true cs).bind fun v => ((some r21.1).bind fun v => (some []).bind fun vs => some (v :: vs)).bind fun vs => some (v :: vs)).bind fun vs => some (0, [oneOr vs], r21.2) else none)
 ((rdL (splice [.int .i64 0, .int .i64 0, .int .i64 0, .int .i64 0, .int .i64 0, .int .i64 0, .int .i64 0, .str [], .str [], .bool false, .int .u32 0, .nilSlice, .nilSlice] (0) c6) 0 13).bind fun c23 =>
 (fromCells true c23).bind fun v24 =>
 (call 19 [v24] g17.2.2).bind fun r25 =>
 (aBin .neq (.iface true []) r25.1 (.nilIface)).bind fun v26 =>
 condV v26
 ((aFill [.int .i64 0, .int .i64 0, .int .i64 0, .int .i64 0, .int .i64 0, .int .i64 0, .int .i64 0, .str [], .str [], .bool false, .int .u32 0, .nilSlice, .nilSlice] []).bind fun c27 =>
 (call 20 [(.str [114, 101, 97, 100]), r25.1] r25.2).bind fun r28 =>
 (aCells 13 (.agg c27)).bind fun c29 =>
 bif Nat.ble ((0) + 13) (List.length (α := AVal) [.int .i64 0, .int .i64 0, .int .i64 0, .int .i64 0, .int .i64 0, .int .i64 0, .int .i64 0, .str [], .str [], .bool false, .int .u32 0, .nilSlice, .nilSlice]) then (((rdL (splice [.int .i64 0, .int .i64 0, .int .i64 0, .int .i64 0, .int .i64 0, .int .i64 0, .int .i64 0, .str [], .str [], .bool false, .int .u32 0, .nilSlice, .nilSlice] (0) c29) (0) 13).bind fun cs => fromCells true cs).bind fun v => ((some r28.1).bind fun v => (some []).bind fun vs => some (v :: vs)).bind fun vs => some (v :: vs)).bind fun vs => some (0, [oneOr vs], r28.2) else none)
 ((rdL (splice [.int .i64 0, .int .i64 0, .int .i64 0, .int .i64 0, .int .i64 0, .int .i64 0, .int .i64 0, .str [], .str [], .bool false, .int .u32 0, .nilSlice, .nilSlice] (0) c6) 0 13).bind fun c30 =>
 (fromCells true c30).bind fun v31 =>
 (aCells 13 v31).bind fun c32 =>
 bif Nat.ble ((0) + 13) (List.length (α := AVal) [.int .i64 0, .int .i64 0, .int .i64 0, .int .i64 0, .int .i64 0, .int .i64 0, .int .i64 0, .str [], .str [], .bool false, .int .u32 0, .nilSlice, .nilSlice]) then (((rdL (splice [.int .i64 0, .int .i64 0, .int .i64 0, .int .i64 0, .int .i64 0, .int .i64 0, .int .i64 0, .str [], .str [], .bool false, .int .u32 0, .nilSlice, .nilSlice] (0) c32) (0) 13).bind fun cs => fromCells true cs).bind fun v => ((some (.nilIface)).bind fun v => (some []).bind fun vs => some (v :: vs)).bind fun vs => some (v :: vs)).bind fun vs => some (0, [oneOr vs], r25.2) else none)) else none
theorem run8 (call : Go.Fw.Call) (a0 : AVal) (h : Heap) : runFn call (.code A8) [a0] h = (S8 call a0 h).bind ansOf := by kernel_rfl

/-- frankpledge/frankpledgeref6.Same -/
noncomputable def A9 : AFunc := ⟨2, (.seq (.region [.op 0 (.box 2 true (.tmp 0)),
 .op 1 (.box 3 true (.tmp 1)),
 .op 2 (.mov 4 (.const (.bool false)))] [])
 (.seq (.region [.op 0 (.faddr 5 0 (.tmp 2)),
 .op 1 (.load 6 false 1 (.tmp 5)),
 .op 2 (.faddr 7 0 (.tmp 3)),
 .op 3 (.load 8 false 1 (.tmp 7)),
 .op 4 (.bin 9 .eql .plain (.tmp 6) (.tmp 8)),
 .op 5 (.mov 10 (.tmp 9)),
 .guard 10 true [.op 6 (.faddr 11 1 (.tmp 2)),
 .op 7 (.load 12 false 1 (.tmp 11)),
 .op 8 (.faddr 13 1 (.tmp 3)),
 .op 9 (.load 14 false 1 (.tmp 13)),
 .op 10 (.bin 15 .eql .plain (.tmp 12) (.tmp 14))] [] [15],
 .op 11 (.pick 16 (.tmp 10) (.tmp 15) (.const (.bool false))),
 .op 12 (.mov 17 (.tmp 16)),
 .guard 17 true [.op 13 (.faddr 18 2 (.tmp 2)),
 .op 14 (.load 19 false 1 (.tmp 18)),
 .op 15 (.faddr 20 2 (.tmp 3)),
 .op 16 (.load 21 false 1 (.tmp 20)),
 .op 17 (.bin 22 .eql .plain (.tmp 19) (.tmp 21))] [] [22],
 .op 18 (.pick 23 (.tmp 17) (.tmp 22) (.const (.bool false))),
 .op 19 (.mov 24 (.tmp 23)),
 .guard 24 true [.op 20 (.faddr 25 3 (.tmp 2)),
 .op 21 (.load 26 false 1 (.tmp 25)),
 .op 22 (.faddr 27 3 (.tmp 3)),
 .op 23 (.load 28 false 1 (.tmp 27)),
 .op 24 (.bin 29 .eql .plain (.tmp 26) (.tmp 28))] [] [29],
 .op 25 (.pick 30 (.tmp 24) (.tmp 29) (.const (.bool false))),
 .op 26 (.mov 31 (.tmp 30)),
 .guard 31 true [.op 27 (.faddr 32 4 (.tmp 2)),
 .op 28 (.load 33 false 1 (.tmp 32)),
 .op 29 (.faddr 34 4 (.tmp 3)),
 .op 30 (.load 35 false 1 (.tmp 34)),
 .op 31 (.bin 36 .eql .plain (.tmp 33) (.tmp 35))] [] [36],
 .op 32 (.pick 37 (.tmp 31) (.tmp 36) (.const (.bool false))),
 .op 33 (.mov 38 (.tmp 37)),
 .guard 38 true [.op 34 (.faddr 39 5 (.tmp 2)),
 .op 35 (.load 40 false 1 (.tmp 39)),
 .op 36 (.faddr 41 5 (.tmp 3)),
 .op 37 (.load 42 false 1 (.tmp 41)),
 .op 38 (.bin 43 .eql .plain (.tmp 40) (.tmp 42))] [] [43],
 .op 39 (.pick 44 (.tmp 38) (.tmp 43) (.const (.bool false))),
 .op 40 (.mov 45 (.tmp 44)),
 .guard 45 true [.op 41 (.faddr 46 6 (.tmp 2)),
 .op 42 (.load 47 false 1 (.tmp 46)),
 .op 43 (.faddr 48 6 (.tmp 3)),
 .op 44 (.load 49 false 1 (.tmp 48)),
 .op 45 (.bin 50 .eql .plain (.tmp 47) (.tmp 49))] [] [50],
 .op 46 (.pick 51 (.tmp 45) (.tmp 50) (.const (.bool false))),
 .op 47 (.mov 52 (.tmp 51)),
 .guard 52 true [.op 48 (.faddr 53 7 (.tmp 2)),
 .op 49 (.load 54 true 2 (.tmp 53)),
 .op 50 (.faddr 55 7 (.tmp 3)),
 .op 51 (.load 56 true 2 (.tmp 55)),
 .op 52 (.bin 57 .eql (.cells [2, 2]) (.tmp 54) (.tmp 56))] [] [57],
 .op 53 (.pick 58 (.tmp 52) (.tmp 57) (.const (.bool false))),
 .op 54 (.mov 59 (.tmp 58)),
 .guard 59 true [.op 55 (.faddr 60 9 (.tmp 2)),
 .op 56 (.load 61 false 1 (.tmp 60)),
 .op 57 (.faddr 62 9 (.tmp 3)),
 .op 58 (.load 63 false 1 (.tmp 62)),
 .op 59 (.bin 64 .eql .bool (.tmp 61) (.tmp 63))] [] [64],
 .op 60 (.pick 65 (.tmp 59) (.tmp 64) (.const (.bool false))),
 .op 61 (.mov 66 (.tmp 65)),
 .guard 66 true [.op 62 (.faddr 67 10 (.tmp 2)),
 .op 63 (.load 68 false 1 (.tmp 67)),
 .op 64 (.faddr 69 10 (.tmp 3)),
 .op 65 (.load 70 false 1 (.tmp 69)),
 .op 66 (.bin 71 .eql .plain (.tmp 68) (.tmp 70))] [] [71],
 .op 67 (.pick 72 (.tmp 66) (.tmp 71) (.const (.bool false))),
 .op 68 (.mov 73 (.tmp 72)),
 .guard 73 true [.op 69 (.faddr 74 11 (.tmp 2)),
 .op 70 (.load 75 false 1 (.tmp 74)),
 .op 71 (.faddr 76 11 (.tmp 3)),
 .op 72 (.load 77 false 1 (.tmp 76)),
 .op 73 (.call 78 32 [.tmp 75, .tmp 77])] [] [78],
 .op 74 (.pick 79 (.tmp 73) (.tmp 78) (.const (.bool false))),
 .op 75 (.mov 80 (.tmp 79)),
 .guard 80 true [.op 76 (.faddr 81 12 (.tmp 2)),
 .op 77 (.load 82 false 1 (.tmp 81)),
 .op 78 (.faddr 83 12 (.tmp 3)),
 .op 79 (.load 84 false 1 (.tmp 83)),
 .op 80 (.call 85 33 [.tmp 82, .tmp 84])] [] [85],
 .op 81 (.pick 86 (.tmp 80) (.tmp 85) (.const (.bool false))),
 .op 82 (.mov 4 (.tmp 86))] [])
 .ret)),
 [.tmp 4]⟩
theorem ok9 : funcOk Tryd.prog (drawOk Tryd.prog) Tryd.f9 A9 = true := by kernel_rfl
noncomputable def S9 (call : Go.Fw.Call) (a0 a1 : AVal) (h : Heap) : Option J :=
 (AVal.cells? a0).bind fun c1 =>
 (AVal.cells? a1).bind fun c2 =>
 (rdL c1 0 1).bind fun c3 =>
 (fromCells false c3).bind fun v4 =>
 (rdL c2 0 1).bind fun c5 =>
 (fromCells false c5).bind fun v6 =>
 (aBin .eql .plain v4 v6).bind fun v7 =>
 (guardV v7 true
 ((rdL c1 1 1).bind fun c8 =>
 (fromCells false c8).bind fun v9 =>
 (rdL c2 1 1).bind fun c10 =>
 (fromCells false c10).bind fun v11 =>
 (aBin .eql .plain v9 v11).bind fun v12 =>
 some (0, [v12], h))
 (some (0, [skipV], h))).bind fun g13 =>
 (aPick v7 (g13.2.1.getD 0 .undef) (.bool false)).bind fun v14 =>
 (guardV v14 true
 ((rdL c1 2 1).bind fun c15 =>
 (fromCells false c15).bind fun v16 =>
 (rdL c2 2 1).bind fun c17 =>
 (fromCells false c17).bind fun v18 =>
 (aBin .eql .plain v16 v18).bind fun v19 =>
 some (0, [v19], g13.2.2))
 (some (0, [skipV], g13.2.2))).bind fun g20 =>
 (aPick v14 (g20.2.1.getD 0 .undef) (.bool false)).bind fun v21 =>
 (guardV v21 true
 ((rdL c1 3 1).bind fun c22 =>
 (fromCells false c22).bind fun v23 =>
 (rdL c2 3 1).bind fun c24 =>
 (fromCells false c24).bind fun v25 =>
 (aBin .eql .plain v23 v25).bind fun v26 =>
 some (0, [v26], g20.2.2))
 (some (0, [skipV], g20.2.2))).bind fun g27 =>
 (aPick v21 (g27.2.1.getD 0 .undef) (.bool false)).bind fun v28 =>
 (guardV v28 true
 ((rdL c1 4 1).bind fun c29 =>
 (fromCells false c29).bind fun v30 =>
 (rdL c2 4 1).bind fun c31 =>
 (fromCells false c31).bind fun v32 =>
 (aBin .eql .plain v30 v32).bind fun v33 =>
 some (0, [v33], g27.2.2))
 (some (0, [skipV], g27.2.2))).bind fun g34 =>
 (aPick v28 (g34.2.1.getD 0 .undef) (.bool false)).bind fun v35 =>
 (guardV v35 true
 ((rdL c1 5 1).bind fun c36 =>
 (fromCells false c36).bind fun v37 =>
 (rdL c2 5 1).bind fun c38 =>
 (fromCells false c38).bind fun v39 =>
 (aBin .eql .plain v37 v39).bind fun v40 =>
 some (0, [v40], g34.2.2))
 (some (0, [skipV], g34.2.2))).bind fun g41 =>
 (aPick v35 (g41.2.1.getD 0 .undef) (.bool false)).bind fun v42 =>
 (guardV v42 true
 ((rdL c1 6 1).bind fun c43 =>
 (fromCells false c43).bind fun v44 =>
 (rdL c2 6 1).bind fun c45 =>
 (fromCells false c45).bind fun v46 =>
 (aBin .eql .plain v44 v46).bind fun v47 =>
 some (0, [v47], g41.2.2))
 (some (0, [skipV], g41.2.2))).bind fun g48 =>
 (aPick v42 (g48.2.1.getD 0 .undef) (.bool false)).bind fun v49 =>
 (guardV v49 true
 ((rdL c1 7 2).bind fun c50 =>
 (fromCells true c50).bind fun v51 =>
 (rdL c2 7 2).bind fun c52 =>
 (fromCells true c52).bind fun v53 =>
 (aBin .eql (.cells [2, 2]) v51 v53).bind fun v54 =>
 some (0, [v54], g48.2.2))
 (some (0, [skipV], g48.2.2))).bind fun g55 =>
 (aPick v49 (g55.2.1.getD 0 .undef) (.bool false)).bind fun v56 =>
 (guardV v56 true
 ((rdL c1 9 1).bind fun c57 =>
 (fromCells false c57).bind fun v58 =>
 (rdL c2 9 1).bind fun c59 =>
 (fromCells false c59).bind fun v60 =>
 (aBin .eql .bool v58 v60).bind fun v61 =>
 some (0, [v61], g55.2.2))
 (some (0, [skipV], g55.2.2))).bind fun g62 =>
 (aPick v56 (g62.2.1.getD 0 .undef) (.bool false)).bind fun v63 =>
 (guardV v63 true
 ((rdL c1 10 1).bind fun c64 =>
 (fromCells false c64).bind fun v65 =>
 (rdL c2 10 1).bind fun c66 =>
 (fromCells false c66).bind fun v67 =>
 (aBin .eql .plain v65 v67).bind fun v68 =>
 some (0, [v68], g62.2.2))
 (some (0, [skipV], g62.2.2))).bind fun g69 =>
 (aPick v63 (g69.2.1.getD 0 .undef) (.bool false)).bind fun v70 =>
 (guardV v70 true
 ((rdL c1 11 1).bind fun c71 =>
 (fromCells false c71).bind fun v72 =>
 (rdL c2 11 1).bind fun c73 =>
 (fromCells false c73).bind fun v74 =>
 (call 32 [v72, v74] g69.2.2).bind fun r75 =>
 some (0, [r75.1], r75.2))
 (some (0, [skipV], g69.2.2))).bind fun g76 =>
 (aPick v70 (g76.2.1.getD 0 .undef) (.bool false)).bind fun v77 =>
 (guardV v77 true
 ((rdL c1 12 1).bind fun c78 =>
 (fromCells false c78).bind fun v79 =>
 (rdL c2 12 1).bind fun c80 =>
 (fromCells false c80).bind fun v81 =>
 (call 33 [v79, v81] g76.2.2).bind fun r82 =>
 some (0, [r82.1], r82.2))
 (some (0, [skipV], g76.2.2))).bind fun g83 =>
 (aPick v77 (g83.2.1.getD 0 .undef) (.bool false)).bind fun v84 =>
 some (0, [v84], g83.2.2)
theorem run9 (call : Go.Fw.Call) (a0 a1 : AVal) (h : Heap) : runFn call (.code A9) [a0, a1] h = (S9 call a0 a1 h).bind ansOf := by kernel_rfl

/-- frankpledge/frankpledgebook.Within -/
noncomputable def A10 : AFunc := ⟨3, (.seq (.region [.op 0 (.mov 6 (.const (.int .i64 0)))] [])
 (.seq (.seq (.region [.op 0 (.mov 7 (.tmp 0)),
 .op 1 (.mov 8 (.tmp 1)),
 .op 2 (.bin 9 .geq .plain (.tmp 7) (.tmp 8)),
 .op 3 (.mov 10 (.tmp 9)),
 .guard 10 true [.op 4 (.mov 11 (.tmp 0)),
 .op 5 (.mov 12 (.tmp 2)),
 .op 6 (.bin 13 .leq .plain (.tmp 11) (.tmp 12))] [] [13],
 .op 7 (.pick 14 (.tmp 10) (.tmp 13) (.const (.bool false)))] [])
 (.cond (.tmp 14)
 (.seq (.region [.op 0 (.mov 15 (.tmp 0)),
 .op 1 (.mov 6 (.tmp 15))] [])
 .ret)
 .skip))
 (.seq (.region [.op 0 (.mov 16 (.tmp 0)),
 .op 1 (.mov 17 (.tmp 2)),
 .op 2 (.mov 18 (.tmp 1)),
 .op 3 (.bin 19 .sub .plain (.tmp 17) (.tmp 18)),
 .op 4 (.bin 20 .add .plain (.tmp 19) (.const (.int .i64 1))),
 .op 5 (.bin 21 .rem .plain (.tmp 16) (.tmp 20)),
 .op 6 (.mov 0 (.tmp 21))] [])
 (.seq (.seq (.region [.op 0 (.mov 22 (.tmp 0)),
 .op 1 (.bin 23 .lss .plain (.tmp 22) (.const (.int .i64 0)))] [])
 (.join [(.normal, ⟨[0, 1], []⟩)] (.cond (.tmp 23)
 (.region [.op 0 (.mov 24 (.tmp 0)),
 .op 1 (.mov 25 (.tmp 2)),
 .op 2 (.bin 26 .add .plain (.tmp 24) (.tmp 25)),
 .op 3 (.mov 27 (.tmp 1)),
 .op 4 (.bin 28 .sub .plain (.tmp 26) (.tmp 27)),
 .op 5 (.bin 29 .add .plain (.tmp 28) (.const (.int .i64 1))),
 .op 6 (.mov 0 (.tmp 29))] [])
 .skip)))
 (.seq (.region [.op 0 (.mov 30 (.tmp 1)),
 .op 1 (.mov 31 (.tmp 0)),
 .op 2 (.bin 32 .add .plain (.tmp 30) (.tmp 31)),
 .op 3 (.mov 6 (.tmp 32))] [])
 .ret))))),
 [.tmp 6]⟩
theorem ok10 : funcOk Tryd.prog (drawOk Tryd.prog) Tryd.f10 A10 = true := by kernel_rfl
noncomputable def S10 (call : Go.Fw.Call) (a0 a1 a2 : AVal) (h : Heap) : Option J :=
 (aBin .geq .plain a0 a1).bind fun v1 =>
 (guardV v1 true
 ((aBin .leq .plain a0 a2).bind fun v2 =>
 some (0, [v2], h))
 (some (0, [skipV], h))).bind fun g3 =>
 (aPick v1 (g3.2.1.getD 0 .undef) (.bool false)).bind fun v4 =>
 condV v4
 (some (0, [a0], g3.2.2))
 ((aBin .sub .plain a2 a1).bind fun v5 =>
 (aBin .add .plain v5 (.int .i64 1)).bind fun v6 =>
 (aBin .rem .plain a0 v6).bind fun v7 =>
 (aBin .lss .plain v7 (.int .i64 0)).bind fun v8 =>
 (condV v8
 ((aBin .add .plain v7 a2).bind fun v9 =>
 (aBin .sub .plain v9 a1).bind fun v10 =>
 (aBin .add .plain v10 (.int .i64 1)).bind fun v11 =>
 some (0, [v11, a1], g3.2.2))
 (some (0, [v7, a1], g3.2.2))).bind fun x12 =>
 bif Nat.beq x12.1 0 then (aBin .add .plain (x12.2.1.getD 1 .undef) (x12.2.1.getD 0 .undef)).bind fun v13 =>
 some (0, [v13], x12.2.2) else
 none)
theorem run10 (call : Go.Fw.Call) (a0 a1 a2 : AVal) (h : Heap) : runFn call (.code A10) [a0, a1, a2] h = (S10 call a0 a1 a2 h).bind ansOf := by kernel_rfl

/-- frankpledge/fault.Code -/
noncomputable def A11 : AFunc := ⟨1, (.seq (.region [.op 0 (.mov 2 (.const (.int .i64 0)))] [])
 (.seq (.seq (.region [.op 0 (.mov 4 (.tmp 0)),
 .op 1 (.bin 5 .eql (.iface true []) (.tmp 4) (.const (.nilIface)))] [])
 (.cond (.tmp 5)
 (.seq (.region [.op 0 (.mov 2 (.const (.int .i64 0)))] [])
 .ret)
 .skip))
 (.seq (.region [.op 0 (.alloc 3 false [.int .i64 0])] [])
 (.seq (.seq (.region [.op 0 (.mov 6 (.tmp 0)),
 .op 1 (.mkIface 7 75 (.tmp 3)),
 .op 2 (.call 8 34 [.tmp 6, .tmp 7])] [])
 (.cond (.tmp 8)
 (.seq (.region [.op 0 (.load 9 false 1 (.tmp 3)),
 .op 1 (.mov 2 (.tmp 9))] [])
 .ret)
 .skip))
 (.seq (.region [.op 0 (.mov 2 (.const (.int .i64 14)))] [])
 .ret))))),
 [.tmp 2]⟩
theorem ok11 : funcOk Tryd.prog (drawOk Tryd.prog) Tryd.f11 A11 = true := by kernel_rfl
noncomputable def S11 (call : Go.Fw.Call) (a0 : AVal) (h : Heap) : Option J :=
 (aBin .eql (.iface true []) a0 (.nilIface)).bind fun v1 =>
 condV v1
 (some (0, [(.int .i64 0)], h))
 ((call 34 [a0, (.iface 75 (.ptr h.next 0))] (h.alloc [.int .i64 0])).bind fun r2 =>
 condV r2.1
 ((aLoad r2.2 1 (.ptr h.next 0)).bind fun c3 =>
 (fromCells false c3).bind fun v4 =>
 some (0, [v4], r2.2))
 (some (0, [(.int .i64 14)], r2.2)))
theorem run11 (call : Go.Fw.Call) (a0 : AVal) (h : Heap) : runFn call (.code A11) [a0] h = (S11 call a0 h).bind ansOf := by kernel_rfl

/-- frankpledge/frankpledgelaw6.known -/
noncomputable def A12 : AFunc := ⟨0, (.seq (.region [.op 0 (.mov 0 (.const (.bool false)))] [])
 (.seq (.region [.op 0 (.build 10 [.int .i64 0, .int .i64 0, .int .i64 0, .int .i64 0, .int .i64 0, .int .i64 0, .int .i64 0, .str [], .str [], .bool false, .int .u32 0, .nilSlice, .nilSlice] [(0, 1, .const (.int .i64 5))]),
 .op 1 (.alloc 1 true [.int .i64 0, .int .i64 0, .int .i64 0, .int .i64 0, .int .i64 0, .int .i64 0, .int .i64 0, .str [], .str [], .bool false, .int .u32 0, .nilSlice, .nilSlice]),
 .op 2 (.store true 13 (.tmp 1) (.tmp 10))] [])
 (.seq (.region [.op 0 (.load 12 true 13 (.tmp 1)),
 .op 1 (.call 13 7 [.tmp 12]),
 .op 2 (.mov 11 (.tmp 13)),
 .op 3 (.extract 14 (.tmp 11) 0),
 .op 4 (.extract 15 (.tmp 11) 1),
 .op 5 (.mov 2 (.tmp 14)),
 .op 6 (.mov 3 (.tmp 15))] [])
 (.seq (.region [.op 0 (.mov 17 (.tmp 2)),
 .op 1 (.call 18 8 [.tmp 17]),
 .op 2 (.mov 16 (.tmp 18)),
 .op 3 (.extract 19 (.tmp 16) 0),
 .op 4 (.extract 20 (.tmp 16) 1),
 .op 5 (.alloc 4 true [.int .i64 0, .int .i64 0, .int .i64 0, .int .i64 0, .int .i64 0, .int .i64 0, .int .i64 0, .str [], .str [], .bool false, .int .u32 0, .nilSlice, .nilSlice]),
 .op 6 (.store true 13 (.tmp 4) (.tmp 19)),
 .op 7 (.mov 5 (.tmp 20))] [])
 (.seq (.region [.op 0 (.build 22 [.int .i64 0, .int .i64 0, .int .i64 0, .int .i64 0, .int .i64 0, .int .i64 0, .int .i64 0, .str [], .str [], .bool false, .int .u32 0, .nilSlice, .nilSlice] [(0, 1, .const (.int .i64 9))]),
 .op 1 (.call 23 7 [.tmp 22]),
 .op 2 (.mov 21 (.tmp 23)),
 .op 3 (.extract 24 (.tmp 21) 0),
 .op 4 (.extract 25 (.tmp 21) 1),
 .op 5 (.mov 6 (.tmp 24)),
 .op 6 (.mov 7 (.tmp 25))] [])
 (.seq (.region [.op 0 (.call 27 8 [.const (.nilSlice)]),
 .op 1 (.mov 26 (.tmp 27)),
 .op 2 (.extract 28 (.tmp 26) 0),
 .op 3 (.extract 29 (.tmp 26) 1),
 .op 4 (.alloc 8 true [.int .i64 0, .int .i64 0, .int .i64 0, .int .i64 0, .int .i64 0, .int .i64 0, .int .i64 0, .str [], .str [], .bool false, .int .u32 0, .nilSlice, .nilSlice]),
 .op 5 (.store true 13 (.tmp 8) (.tmp 28)),
 .op 6 (.mov 9 (.tmp 29))] [])
 (.seq (.region [.op 0 (.mov 30 (.tmp 3)),
 .op 1 (.bin 31 .eql (.iface true []) (.tmp 30) (.const (.nilIface))),
 .op 2 (.mov 32 (.tmp 31)),
 .guard 32 true [.op 3 (.mov 33 (.tmp 5)),
 .op 4 (.bin 34 .eql (.iface true []) (.tmp 33) (.const (.nilIface)))] [] [34],
 .op 5 (.pick 35 (.tmp 32) (.tmp 34) (.const (.bool false))),
 .op 6 (.mov 36 (.tmp 35)),
 .guard 36 true [.op 7 (.load 37 true 13 (.tmp 4)),
 .op 8 (.load 38 true 13 (.tmp 1)),
 .op 9 (.call 39 16 [.tmp 37, .tmp 38])] [] [39],
 .op 10 (.pick 40 (.tmp 36) (.tmp 39) (.const (.bool false))),
 .op 11 (.mov 41 (.tmp 40)),
 .guard 41 true [.op 12 (.mov 42 (.tmp 7)),
 .op 13 (.call 43 15 [.tmp 42, .const (.str [119, 114, 105, 116, 101]), .const (.str [107, 105, 110, 100]), .const (.int .i64 12)])] [] [43],
 .op 14 (.pick 44 (.tmp 41) (.tmp 43) (.const (.bool false))),
 .op 15 (.mov 45 (.tmp 44)),
 .guard 45 true [.op 16 (.mov 46 (.tmp 9)),
 .op 17 (.call 47 15 [.tmp 46, .const (.str [114, 101, 97, 100]), .const (.str [98, 121, 116, 101, 115]), .const (.int .i64 12)])] [] [47],
 .op 18 (.pick 48 (.tmp 45) (.tmp 47) (.const (.bool false))),
 .op 19 (.mov 49 (.tmp 48)),
 .guard 49 true [.op 20 (.load 50 true 13 (.tmp 1)),
 .op 21 (.call 51 19 [.tmp 50]),
 .op 22 (.bin 52 .eql (.iface true []) (.tmp 51) (.const (.nilIface)))] [] [52],
 .op 23 (.pick 53 (.tmp 49) (.tmp 52) (.const (.bool false))),
 .op 24 (.mov 54 (.tmp 53)),
 .guard 54 true [.op 25 (.build 55 [.int .i64 0, .int .i64 0, .int .i64 0, .int .i64 0, .int .i64 0, .int .i64 0, .int .i64 0, .str [], .str [], .bool false, .int .u32 0, .nilSlice, .nilSlice] []),
 .op 26 (.call 56 19 [.tmp 55]),
 .op 27 (.call 57 15 [.tmp 56, .const (.str []), .const (.str [107, 105, 110, 100]), .const (.int .i64 12)])] [] [57],
 .op 28 (.pick 58 (.tmp 54) (.tmp 57) (.const (.bool false))),
 .op 29 (.mov 0 (.tmp 58))] [])
 .ret))))))),
 [.tmp 0]⟩
theorem ok12 : funcOk Tryd.prog (drawOk Tryd.prog) Tryd.f12 A12 = true := by kernel_rfl
noncomputable def S12 (call : Go.Fw.Call) (h : Heap) : Option J :=
 (aFill [.int .i64 0, .int .i64 0, .int .i64 0, .int .i64 0, .int .i64 0, .int .i64 0, .int .i64 0, .str [], .str [], .bool false, .int .u32 0, .nilSlice, .nilSlice] [(0, 1, (.int .i64 5))]).bind fun c1 =>
 (aCells 13 (.agg c1)).bind fun c2 =>
 bif Nat.ble ((0) + 13) (List.length (α := AVal) [.int .i64 0, .int .i64 0, .int .i64 0, .int .i64 0, .int .i64 0, .int .i64 0, .int .i64 0, .str [], .str [], .bool false, .int .u32 0, .nilSlice, .nilSlice]) then (rdL (splice [.int .i64 0, .int .i64 0, .int .i64 0, .int .i64 0, .int .i64 0, .int .i64 0, .int .i64 0, .str [], .str [], .bool false, .int .u32 0, .nilSlice, .nilSlice] (0) c2) 0 13).bind fun c3 =>
 (fromCells true c3).bind fun v4 =>
 (call 7 [v4] h).bind fun r5 =>
 (aExtract 0 r5.1).bind fun v6 =>
 (aExtract 1 r5.1).bind fun v7 =>
 (call 8 [v6] r5.2).bind fun r8 =>
 (aExtract 0 r8.1).bind fun v9 =>
 (aExtract 1 r8.1).bind fun v10 =>
 (aCells 13 v9).bind fun c11 =>
 bif Nat.ble ((0) + 13) (List.length (α := AVal) [.int .i64 0, .int .i64 0, .int .i64 0, .int .i64 0, .int .i64 0, .int .i64 0, .int .i64 0, .str [], .str [], .bool false, .int .u32 0, .nilSlice, .nilSlice]) then (aFill [.int .i64 0, .int .i64 0, .int .i64 0, .int .i64 0, .int .i64 0, .int .i64 0, .int .i64 0, .str [], .str [], .bool false, .int .u32 0, .nilSlice, .nilSlice] [(0, 1, (.int .i64 9))]).bind fun c12 =>
 (call 7 [(.agg c12)] r8.2).bind fun r13 =>
 (aExtract 0 r13.1).bind fun v14 =>
 (aExtract 1 r13.1).bind fun v15 =>
 (call 8 [(.nilSlice)] r13.2).bind fun r16 =>
 (aExtract 0 r16.1).bind fun v17 =>
 (aExtract 1 r16.1).bind fun v18 =>
 (aCells 13 v17).bind fun c19 =>
 bif Nat.ble ((0) + 13) (List.length (α := AVal) [.int .i64 0, .int .i64 0, .int .i64 0, .int .i64 0, .int .i64 0, .int .i64 0, .int .i64 0, .str [], .str [], .bool false, .int .u32 0, .nilSlice, .nilSlice]) then (aBin .eql (.iface true []) v7 (.nilIface)).bind fun v20 =>
 (guardV v20 true
 ((aBin .eql (.iface true []) v10 (.nilIface)).bind fun v21 =>
 some (0, [v21], r16.2))
 (some (0, [skipV], r16.2))).bind fun g22 =>
 (aPick v20 (g22.2.1.getD 0 .undef) (.bool false)).bind fun v23 =>
 (guardV v23 true
 ((rdL (splice [.int .i64 0, .int .i64 0, .int .i64 0, .int .i64 0, .int .i64 0, .int .i64 0, .int .i64 0, .str [], .str [], .bool false, .int .u32 0, .nilSlice, .nilSlice] (0) c11) 0 13).bind fun c24 =>
 (fromCells true c24).bind fun v25 =>
 (rdL (splice [.int .i64 0, .int .i64 0, .int .i64 0, .int .i64 0, .int .i64 0, .int .i64 0, .int .i64 0, .str [], .str [], .bool false, .int .u32 0, .nilSlice, .nilSlice] (0) c2) 0 13).bind fun c26 =>
 (fromCells true c26).bind fun v27 =>
 (call 16 [v25, v27] g22.2.2).bind fun r28 =>
 some (0, [r28.1], r28.2))
 (some (0, [skipV], g22.2.2))).bind fun g29 =>
 (aPick v23 (g29.2.1.getD 0 .undef) (.bool false)).bind fun v30 =>
 (guardV v30 true
 ((call 15 [v15, (.str [119, 114, 105, 116, 101]), (.str [107, 105, 110, 100]), (.int .i64 12)] g29.2.2).bind fun r31 =>
 some (0, [r31.1], r31.2))
 (some (0, [skipV], g29.2.2))).bind fun g32 =>
 (aPick v30 (g32.2.1.getD 0 .undef) (.bool false)).bind fun v33 =>
 (guardV v33 true
 ((call 15 [v18, (.str [114, 101, 97, 100]), (.str [98, 121, 116, 101, 115]), (.int .i64 12)] g32.2.2).bind fun r34 =>
 some (0, [r34.1], r34.2))
 (some (0, [skipV], g32.2.2))).bind fun g35 =>
 (aPick v33 (g35.2.1.getD 0 .undef) (.bool false)).bind fun v36 =>
 (guardV v36 true
 ((rdL (splice [.int .i64 0, .int .i64 0, .int .i64 0, .int .i64 0, .int .i64 0, .int .i64 0, .int .i64 0, .str [], .str [], .bool false, .int .u32 0, .nilSlice, .nilSlice] (0) c2) 0 13).bind fun c37 =>
 (fromCells true c37).bind fun v38 =>
 (call 19 [v38] g35.2.2).bind fun r39 =>
 (aBin .eql (.iface true []) r39.1 (.nilIface)).bind fun v40 =>
 some (0, [v40], r39.2))
 (some (0, [skipV], g35.2.2))).bind fun g41 =>
 (aPick v36 (g41.2.1.getD 0 .undef) (.bool false)).bind fun v42 =>
 (guardV v42 true
 ((aFill [.int .i64 0, .int .i64 0, .int .i64 0, .int .i64 0, .int .i64 0, .int .i64 0, .int .i64 0, .str [], .str [], .bool false, .int .u32 0, .nilSlice, .nilSlice] []).bind fun c43 =>
 (call 19 [(.agg c43)] g41.2.2).bind fun r44 =>
 (call 15 [r44.1, (.str []), (.str [107, 105, 110, 100]), (.int .i64 12)] r44.2).bind fun r45 =>
 some (0, [r45.1], r45.2))
 (some (0, [skipV], g41.2.2))).bind fun g46 =>
 (aPick v42 (g46.2.1.getD 0 .undef) (.bool false)).bind fun v47 =>
 some (0, [v47], g46.2.2) else none else none else none
theorem run12 (call : Go.Fw.Call) (h : Heap) : runFn call (.code A12) [] h = (S12 call  h).bind ansOf := by kernel_rfl

/-- (*frankpledge/frankpledgekeep.Tape).Card -/
noncomputable def A13 : AFunc := ⟨1, (.seq (.region [.op 0 (.alloc 2 true [.str [], .str [], .int .i64 0, .int .i64 0, .int .i64 0, .int .i64 0, .int .i64 0, .int .i64 0, .bool false])] [])
 (.seq (.region [.op 0 (.mov 3 (.tmp 0)),
 .op 1 (.call 4 18 [.tmp 3]),
 .op 2 (.mov 5 (.tmp 0)),
 .op 3 (.call 6 17 [.tmp 5, .const (.int .i64 2)]),
 .op 4 (.bin 7 .add .plain (.const (.int .i64 1)) (.tmp 6)),
 .op 5 (.mov 8 (.tmp 0)),
 .op 6 (.call 9 17 [.tmp 8, .const (.int .i64 7)]),
 .op 7 (.bin 10 .quo .plain (.tmp 9) (.const (.int .i64 2))),
 .op 8 (.mov 11 (.tmp 0)),
 .op 9 (.call 12 17 [.tmp 11, .const (.int .i64 60)]),
 .op 10 (.bin 13 .add .plain (.const (.int .i64 1)) (.tmp 12)),
 .op 11 (.mov 14 (.tmp 0)),
 .op 12 (.call 15 35 [.tmp 14]),
 .op 13 (.mov 16 (.tmp 0)),
 .op 14 (.call 17 17 [.tmp 16, .const (.int .i64 4)]),
 .op 15 (.bin 18 .eql .plain (.tmp 17) (.const (.int .i64 0))),
 .op 16 (.build 19 [.str [], .str [], .int .i64 0, .int .i64 0, .int .i64 0, .int .i64 0, .int .i64 0, .int .i64 0, .bool false] [(0, 2, .tmp 4), (2, 1, .tmp 7), (3, 1, .tmp 10), (4, 1, .tmp 13), (5, 3, .tmp 15), (8, 1, .tmp 18)]),
 .op 17 (.store true 9 (.tmp 2) (.tmp 19))] [])
 .ret)),
 [.cell 2 true 9]⟩
theorem ok13 : funcOk Tryd.prog (drawOk Tryd.prog) Tryd.f13 A13 = true := by kernel_rfl
noncomputable def S13 (call : Go.Fw.Call) (a0 : AVal) (h : Heap) : Option J :=
 (call 18 [a0] h).bind fun r1 =>
 (call 17 [a0, (.int .i64 2)] r1.2).bind fun r2 =>
 (aBin .add .plain (.int .i64 1) r2.1).bind fun v3 =>
 (call 17 [a0, (.int .i64 7)] r2.2).bind fun r4 =>
 (aBin .quo .plain r4.1 (.int .i64 2)).bind fun v5 =>
 (call 17 [a0, (.int .i64 60)] r4.2).bind fun r6 =>
 (aBin .add .plain (.int .i64 1) r6.1).bind fun v7 =>
 (call 35 [a0] r6.2).bind fun r8 =>
 (call 17 [a0, (.int .i64 4)] r8.2).bind fun r9 =>
 (aBin .eql .plain r9.1 (.int .i64 0)).bind fun v10 =>
 (aFill [.str [], .str [], .int .i64 0, .int .i64 0, .int .i64 0, .int .i64 0, .int .i64 0, .int .i64 0, .bool false] [(0, 2, r1.1), (2, 1, v3), (3, 1, v5), (4, 1, v7), (5, 3, r8.1), (8, 1, v10)]).bind fun c11 =>
 (aCells 9 (.agg c11)).bind fun c12 =>
 bif Nat.ble ((0) + 9) (List.length (α := AVal) [.str [], .str [], .int .i64 0, .int .i64 0, .int .i64 0, .int .i64 0, .int .i64 0, .int .i64 0, .bool false]) then (((rdL (splice [.str [], .str [], .int .i64 0, .int .i64 0, .int .i64 0, .int .i64 0, .int .i64 0, .int .i64 0, .bool false] (0) c12) (0) 9).bind fun cs => fromCells true cs).bind fun v => (some []).bind fun vs => some (v :: vs)).bind fun vs => some (0, [oneOr vs], r9.2) else none
theorem run13 (call : Go.Fw.Call) (a0 : AVal) (h : Heap) : runFn call (.code A13) [a0] h = (S13 call a0 h).bind ansOf := by kernel_rfl

/-- (*frankpledge/frankpledgekeep.Tape).Cards -/
noncomputable def A14 : AFunc := ⟨2, (.seq (.region [.op 0 (.mov 4 (.const (.nilSlice)))] [])
 (.seq (.region [.op 0 (.mov 5 (.const (.nilSlice)))] [])
 (.seq (.seq (.region [.op 0 (.mov 7 (.tmp 0)),
 .op 1 (.mov 8 (.tmp 1)),
 .op 2 (.bin 9 .add .plain (.tmp 8) (.const (.int .i64 1))),
 .op 3 (.call 10 17 [.tmp 7, .tmp 9]),
 .op 4 (.mov 6 (.tmp 10))] [])
 (.block 0 (.loop ⟨[0, 5, 6], []⟩ [((.exit 0), ⟨[5], []⟩)]
 (.seq (.seq (.region [.op 0 (.mov 11 (.tmp 6)),
 .op 1 (.bin 12 .gtr .plain (.tmp 11) (.const (.int .i64 0)))] [])
 (.cond (.tmp 12)
 .skip
 (.exit 0)))
 (.seq (.block 1 (.region [.op 0 (.mov 15 (.tmp 5)),
 .op 1 (.mov 16 (.tmp 0)),
 .op 2 (.call 17 13 [.tmp 16]),
 .op 3 (.buildSl 18 [.str [], .str [], .int .i64 0, .int .i64 0, .int .i64 0, .int .i64 0, .int .i64 0, .int .i64 0, .bool false] 9 1 [(0, .tmp 17)]),
 .op 4 (.append 19 9 88 [.str [], .str [], .int .i64 0, .int .i64 0, .int .i64 0, .int .i64 0, .int .i64 0, .int .i64 0, .bool false] false (.tmp 15) (.tmp 18)),
 .op 5 (.mov 5 (.tmp 19))] []))
 (.region [.op 0 (.mov 13 (.tmp 6)),
 .op 1 (.bin 14 .sub .plain (.tmp 13) (.const (.int .i64 1))),
 .op 2 (.mov 6 (.tmp 14))] []))))))
 (.seq (.region [.op 0 (.mov 20 (.tmp 5)),
 .op 1 (.mov 4 (.tmp 20))] [])
 .ret)))),
 [.tmp 4]⟩
theorem ok14 : funcOk Tryd.prog (drawOk Tryd.prog) Tryd.f14 A14 = true := by kernel_rfl
/-- xs: t0, t5, t6 -/
noncomputable def L14_0 (call : Go.Fw.Call) (xs : List AVal) (h : Heap) : Option J :=
 (aBin .gtr .plain (xs.getD 2 .undef) (.int .i64 0)).bind fun v3 =>
 condV v3
 ((call 13 [(xs.getD 0 .undef)] h).bind fun r4 =>
 (aFill (reps [.str [], .str [], .int .i64 0, .int .i64 0, .int .i64 0, .int .i64 0, .int .i64 0, .int .i64 0, .bool false] 1) [(0, 9, r4.1)]).bind fun c5 =>
 (aAppend 9 88 [.str [], .str [], .int .i64 0, .int .i64 0, .int .i64 0, .int .i64 0, .int .i64 0, .int .i64 0, .bool false] false (xs.getD 1 .undef) (.slice r4.2.next 0 1 1 9 true) (r4.2.alloc c5)).bind fun r6 =>
 (aBin .sub .plain (xs.getD 2 .undef) (.int .i64 1)).bind fun v7 =>
 some (0, [(xs.getD 0 .undef), r6.1, v7], r6.2))
 (some (1, [(xs.getD 1 .undef)], h))
noncomputable def S14 (call : Go.Fw.Call) (a0 a1 : AVal) (h : Heap) : Option J :=
 (aBin .add .plain a1 (.int .i64 1)).bind fun v1 =>
 (call 17 [a0, v1] h).bind fun r2 =>
 (loop (L14_0 call) [a0, (.nilSlice), r2.1] r2.2).bind fun x8 =>
 bif Nat.beq x8.1 1 then some (0, [(x8.2.1.getD 0 .undef)], x8.2.2) else
 none
theorem run14 (call : Go.Fw.Call) (a0 a1 : AVal) (h : Heap) : runFn call (.code A14) [a0, a1] h = (S14 call a0 a1 h).bind ansOf := by kernel_rfl

/-- frankpledge/frankpledgelaw6.why -/
noncomputable def A15 : AFunc := ⟨4, (.seq (.region [.op 0 (.mov 8 (.const (.bool false)))] [])
 (.seq (.seq (.region [.op 0 (.mov 10 (.tmp 3)),
 .op 1 (.bin 11 .eql .plain (.tmp 10) (.const (.int .i64 0)))] [])
 (.cond (.tmp 11)
 (.seq (.region [.op 0 (.mov 12 (.tmp 0)),
 .op 1 (.bin 13 .eql (.iface true []) (.tmp 12) (.const (.nilIface))),
 .op 2 (.mov 8 (.tmp 13))] [])
 .ret)
 .skip))
 (.seq (.region [.op 0 (.mov 14 (.tmp 2)),
 .op 1 (.buildSl 15 [.str []] 1 1 [(0, .tmp 14)]),
 .op 2 (.mov 9 (.tmp 15))] [])
 (.seq (.seq (.region [.op 0 (.mov 16 (.tmp 1)),
 .op 1 (.bin 17 .neq .plain (.tmp 16) (.const (.str [])))] [])
 (.join [(.normal, ⟨[0, 3, 9], []⟩)] (.cond (.tmp 17)
 (.region [.op 0 (.mov 18 (.tmp 1)),
 .op 1 (.mov 19 (.tmp 2)),
 .op 2 (.buildSl 20 [.str []] 1 2 [(0, .tmp 18), (1, .tmp 19)]),
 .op 3 (.mov 9 (.tmp 20))] [])
 .skip)))
 (.seq (.region [.op 0 (.mov 21 (.tmp 0)),
 .op 1 (.bin 22 .neq (.iface true []) (.tmp 21) (.const (.nilIface))),
 .op 2 (.mov 23 (.tmp 22)),
 .guard 23 true [.op 3 (.mov 24 (.tmp 0)),
 .op 4 (.call 25 11 [.tmp 24]),
 .op 5 (.mov 26 (.tmp 3)),
 .op 6 (.bin 27 .eql .plain (.tmp 25) (.tmp 26))] [] [27],
 .op 7 (.pick 28 (.tmp 23) (.tmp 27) (.const (.bool false))),
 .op 8 (.mov 29 (.tmp 28)),
 .guard 29 true [.op 9 (.mov 30 (.tmp 0)),
 .op 10 (.call 31 37 [.tmp 30]),
 .op 11 (.mov 32 (.tmp 9)),
 .op 12 (.call 33 36 [.tmp 31, .tmp 32])] [] [33],
 .op 13 (.pick 34 (.tmp 29) (.tmp 33) (.const (.bool false))),
 .op 14 (.mov 8 (.tmp 34))] [])
 .ret))))),
 [.tmp 8]⟩
theorem ok15 : funcOk Tryd.prog (drawOk Tryd.prog) Tryd.f15 A15 = true := by kernel_rfl
noncomputable def S15 (call : Go.Fw.Call) (a0 a1 a2 a3 : AVal) (h : Heap) : Option J :=
 (aBin .eql .plain a3 (.int .i64 0)).bind fun v1 =>
 condV v1
 ((aBin .eql (.iface true []) a0 (.nilIface)).bind fun v2 =>
 some (0, [v2], h))
 ((aFill (reps [.str []] 1) [(0, 1, a2)]).bind fun c3 =>
 (aBin .neq .plain a1 (.str [])).bind fun v4 =>
 (condV v4
 ((aFill (reps [.str []] 2) [(0, 1, a1), (1, 1, a2)]).bind fun c5 =>
 some (0, [a0, a3, (.slice (h.alloc c3).next 0 2 2 1 true)], ((h.alloc c3).alloc c5)))
 (some (0, [a0, a3, (.slice h.next 0 1 1 1 true)], (h.alloc c3)))).bind fun x6 =>
 bif Nat.beq x6.1 0 then (aBin .neq (.iface true []) (x6.2.1.getD 0 .undef) (.nilIface)).bind fun v7 =>
 (guardV v7 true
 ((call 11 [(x6.2.1.getD 0 .undef)] x6.2.2).bind fun r8 =>
 (aBin .eql .plain r8.1 (x6.2.1.getD 1 .undef)).bind fun v9 =>
 some (0, [v9], r8.2))
 (some (0, [skipV], x6.2.2))).bind fun g10 =>
 (aPick v7 (g10.2.1.getD 0 .undef) (.bool false)).bind fun v11 =>
 (guardV v11 true
 ((call 37 [(x6.2.1.getD 0 .undef)] g10.2.2).bind fun r12 =>
 (call 36 [r12.1, (x6.2.1.getD 2 .undef)] r12.2).bind fun r13 =>
 some (0, [r13.1], r13.2))
 (some (0, [skipV], g10.2.2))).bind fun g14 =>
 (aPick v11 (g14.2.1.getD 0 .undef) (.bool false)).bind fun v15 =>
 some (0, [v15], g14.2.2) else
 none)
theorem run15 (call : Go.Fw.Call) (a0 a1 a2 a3 : AVal) (h : Heap) : runFn call (.code A15) [a0, a1, a2, a3] h = (S15 call a0 a1 a2 a3 h).bind ansOf := by kernel_rfl

/-- frankpledge/mail.Same -/
noncomputable def A16 : AFunc := ⟨2, (.seq (.region [.op 0 (.box 2 true (.tmp 0)),
 .op 1 (.box 3 true (.tmp 1)),
 .op 2 (.mov 4 (.const (.bool false)))] [])
 (.seq (.seq (.region [.op 0 (.faddr 5 11 (.tmp 2)),
 .op 1 (.load 6 false 1 (.tmp 5)),
 .op 2 (.faddr 7 11 (.tmp 3)),
 .op 3 (.load 8 false 1 (.tmp 7)),
 .op 4 (.call 9 38 [.tmp 6, .tmp 8]),
 .op 5 (.un 10 .not (.tmp 9)),
 .op 6 (.mov 11 (.tmp 10)),
 .guard 11 false [.op 7 (.faddr 12 12 (.tmp 2)),
 .op 8 (.load 13 false 1 (.tmp 12)),
 .op 9 (.faddr 14 12 (.tmp 3)),
 .op 10 (.load 15 false 1 (.tmp 14)),
 .op 11 (.call 16 39 [.tmp 13, .tmp 15]),
 .op 12 (.un 17 .not (.tmp 16))] [] [17],
 .op 13 (.pick 18 (.tmp 11) (.const (.bool true)) (.tmp 17))] [])
 (.cond (.tmp 18)
 (.seq (.region [.op 0 (.mov 4 (.const (.bool false)))] [])
 .ret)
 .skip))
 (.seq (.region [.op 0 (.faddr 19 0 (.tmp 2)),
 .op 1 (.load 20 false 1 (.tmp 19)),
 .op 2 (.faddr 21 0 (.tmp 3)),
 .op 3 (.load 22 false 1 (.tmp 21)),
 .op 4 (.bin 23 .eql .plain (.tmp 20) (.tmp 22)),
 .op 5 (.mov 24 (.tmp 23)),
 .guard 24 true [.op 6 (.faddr 25 1 (.tmp 2)),
 .op 7 (.load 26 false 1 (.tmp 25)),
 .op 8 (.faddr 27 1 (.tmp 3)),
 .op 9 (.load 28 false 1 (.tmp 27)),
 .op 10 (.bin 29 .eql .plain (.tmp 26) (.tmp 28))] [] [29],
 .op 11 (.pick 30 (.tmp 24) (.tmp 29) (.const (.bool false))),
 .op 12 (.mov 31 (.tmp 30)),
 .guard 31 true [.op 13 (.faddr 32 2 (.tmp 2)),
 .op 14 (.load 33 false 1 (.tmp 32)),
 .op 15 (.faddr 34 2 (.tmp 3)),
 .op 16 (.load 35 false 1 (.tmp 34)),
 .op 17 (.bin 36 .eql .plain (.tmp 33) (.tmp 35))] [] [36],
 .op 18 (.pick 37 (.tmp 31) (.tmp 36) (.const (.bool false))),
 .op 19 (.mov 38 (.tmp 37)),
 .guard 38 true [.op 20 (.faddr 39 3 (.tmp 2)),
 .op 21 (.load 40 false 1 (.tmp 39)),
 .op 22 (.faddr 41 3 (.tmp 3)),
 .op 23 (.load 42 false 1 (.tmp 41)),
 .op 24 (.bin 43 .eql .plain (.tmp 40) (.tmp 42))] [] [43],
 .op 25 (.pick 44 (.tmp 38) (.tmp 43) (.const (.bool false))),
 .op 26 (.mov 45 (.tmp 44)),
 .guard 45 true [.op 27 (.faddr 46 4 (.tmp 2)),
 .op 28 (.load 47 false 1 (.tmp 46)),
 .op 29 (.faddr 48 4 (.tmp 3)),
 .op 30 (.load 49 false 1 (.tmp 48)),
 .op 31 (.bin 50 .eql .plain (.tmp 47) (.tmp 49))] [] [50],
 .op 32 (.pick 51 (.tmp 45) (.tmp 50) (.const (.bool false))),
 .op 33 (.mov 52 (.tmp 51)),
 .guard 52 true [.op 34 (.faddr 53 5 (.tmp 2)),
 .op 35 (.load 54 false 1 (.tmp 53)),
 .op 36 (.faddr 55 5 (.tmp 3)),
 .op 37 (.load 56 false 1 (.tmp 55)),
 .op 38 (.bin 57 .eql .plain (.tmp 54) (.tmp 56))] [] [57],
 .op 39 (.pick 58 (.tmp 52) (.tmp 57) (.const (.bool false))),
 .op 40 (.mov 59 (.tmp 58)),
 .guard 59 true [.op 41 (.faddr 60 6 (.tmp 2)),
 .op 42 (.load 61 false 1 (.tmp 60)),
 .op 43 (.faddr 62 6 (.tmp 3)),
 .op 44 (.load 63 false 1 (.tmp 62)),
 .op 45 (.bin 64 .eql .plain (.tmp 61) (.tmp 63))] [] [64],
 .op 46 (.pick 65 (.tmp 59) (.tmp 64) (.const (.bool false))),
 .op 47 (.mov 66 (.tmp 65)),
 .guard 66 true [.op 48 (.faddr 67 7 (.tmp 2)),
 .op 49 (.load 68 true 2 (.tmp 67)),
 .op 50 (.faddr 69 7 (.tmp 3)),
 .op 51 (.load 70 true 2 (.tmp 69)),
 .op 52 (.bin 71 .eql (.cells [2, 2]) (.tmp 68) (.tmp 70))] [] [71],
 .op 53 (.pick 72 (.tmp 66) (.tmp 71) (.const (.bool false))),
 .op 54 (.mov 73 (.tmp 72)),
 .guard 73 true [.op 55 (.faddr 74 9 (.tmp 2)),
 .op 56 (.load 75 false 1 (.tmp 74)),
 .op 57 (.faddr 76 9 (.tmp 3)),
 .op 58 (.load 77 false 1 (.tmp 76)),
 .op 59 (.bin 78 .eql .bool (.tmp 75) (.tmp 77))] [] [78],
 .op 60 (.pick 79 (.tmp 73) (.tmp 78) (.const (.bool false))),
 .op 61 (.mov 80 (.tmp 79)),
 .guard 80 true [.op 62 (.faddr 81 10 (.tmp 2)),
 .op 63 (.load 82 false 1 (.tmp 81)),
 .op 64 (.faddr 83 10 (.tmp 3)),
 .op 65 (.load 84 false 1 (.tmp 83)),
 .op 66 (.bin 85 .eql .plain (.tmp 82) (.tmp 84))] [] [85],
 .op 67 (.pick 86 (.tmp 80) (.tmp 85) (.const (.bool false))),
 .op 68 (.mov 4 (.tmp 86))] [])
 .ret))),
 [.tmp 4]⟩
theorem ok16 : funcOk Tryd.prog (drawOk Tryd.prog) Tryd.f16 A16 = true := by kernel_rfl
noncomputable def S16 (call : Go.Fw.Call) (a0 a1 : AVal) (h : Heap) : Option J :=
 (AVal.cells? a0).bind fun c1 =>
 (AVal.cells? a1).bind fun c2 =>
 (rdL c1 11 1).bind fun c3 =>
 (fromCells false c3).bind fun v4 =>
 (rdL c2 11 1).bind fun c5 =>
 (fromCells false c5).bind fun v6 =>
 (call 38 [v4, v6] h).bind fun r7 =>
 (aUn .not r7.1).bind fun v8 =>
 (guardV v8 false
 ((rdL c1 12 1).bind fun c9 =>
 (fromCells false c9).bind fun v10 =>
 (rdL c2 12 1).bind fun c11 =>
 (fromCells false c11).bind fun v12 =>
 (call 39 [v10, v12] r7.2).bind fun r13 =>
 (aUn .not r13.1).bind fun v14 =>
 some (0, [v14], r13.2))
 (some (0, [skipV], r7.2))).bind fun g15 =>
 (aPick v8 (.bool true) (g15.2.1.getD 0 .undef)).bind fun v16 =>
 condV v16
 (some (0, [(.bool false)], g15.2.2))
 ((rdL c1 0 1).bind fun c17 =>
 (fromCells false c17).bind fun v18 =>
 (rdL c2 0 1).bind fun c19 =>
 (fromCells false c19).bind fun v20 =>
 (aBin .eql .plain v18 v20).bind fun v21 =>
 (guardV v21 true
 ((rdL c1 1 1).bind fun c22 =>
 (fromCells false c22).bind fun v23 =>
 (rdL c2 1 1).bind fun c24 =>
 (fromCells false c24).bind fun v25 =>
 (aBin .eql .plain v23 v25).bind fun v26 =>
 some (0, [v26], g15.2.2))
 (some (0, [skipV], g15.2.2))).bind fun g27 =>
 (aPick v21 (g27.2.1.getD 0 .undef) (.bool false)).bind fun v28 =>
 (guardV v28 true
 ((rdL c1 2 1).bind fun c29 =>
 (fromCells false c29).bind fun v30 =>
 (rdL c2 2 1).bind fun c31 =>
 (fromCells false c31).bind fun v32 =>
 (aBin .eql .plain v30 v32).bind fun v33 =>
 some (0, [v33], g27.2.2))
 (some (0, [skipV], g27.2.2))).bind fun g34 =>
 (aPick v28 (g34.2.1.getD 0 .undef) (.bool false)).bind fun v35 =>
 (guardV v35 true
 ((rdL c1 3 1).bind fun c36 =>
 (fromCells false c36).bind fun v37 =>
 (rdL c2 3 1).bind fun c38 =>
 (fromCells false c38).bind fun v39 =>
 (aBin .eql .plain v37 v39).bind fun v40 =>
 some (0, [v40], g34.2.2))
 (some (0, [skipV], g34.2.2))).bind fun g41 =>
 (aPick v35 (g41.2.1.getD 0 .undef) (.bool false)).bind fun v42 =>
 (guardV v42 true
 ((rdL c1 4 1).bind fun c43 =>
 (fromCells false c43).bind fun v44 =>
 (rdL c2 4 1).bind fun c45 =>
 (fromCells false c45).bind fun v46 =>
 (aBin .eql .plain v44 v46).bind fun v47 =>
 some (0, [v47], g41.2.2))
 (some (0, [skipV], g41.2.2))).bind fun g48 =>
 (aPick v42 (g48.2.1.getD 0 .undef) (.bool false)).bind fun v49 =>
 (guardV v49 true
 ((rdL c1 5 1).bind fun c50 =>
 (fromCells false c50).bind fun v51 =>
 (rdL c2 5 1).bind fun c52 =>
 (fromCells false c52).bind fun v53 =>
 (aBin .eql .plain v51 v53).bind fun v54 =>
 some (0, [v54], g48.2.2))
 (some (0, [skipV], g48.2.2))).bind fun g55 =>
 (aPick v49 (g55.2.1.getD 0 .undef) (.bool false)).bind fun v56 =>
 (guardV v56 true
 ((rdL c1 6 1).bind fun c57 =>
 (fromCells false c57).bind fun v58 =>
 (rdL c2 6 1).bind fun c59 =>
 (fromCells false c59).bind fun v60 =>
 (aBin .eql .plain v58 v60).bind fun v61 =>
 some (0, [v61], g55.2.2))
 (some (0, [skipV], g55.2.2))).bind fun g62 =>
 (aPick v56 (g62.2.1.getD 0 .undef) (.bool false)).bind fun v63 =>
 (guardV v63 true
 ((rdL c1 7 2).bind fun c64 =>
 (fromCells true c64).bind fun v65 =>
 (rdL c2 7 2).bind fun c66 =>
 (fromCells true c66).bind fun v67 =>
 (aBin .eql (.cells [2, 2]) v65 v67).bind fun v68 =>
 some (0, [v68], g62.2.2))
 (some (0, [skipV], g62.2.2))).bind fun g69 =>
 (aPick v63 (g69.2.1.getD 0 .undef) (.bool false)).bind fun v70 =>
 (guardV v70 true
 ((rdL c1 9 1).bind fun c71 =>
 (fromCells false c71).bind fun v72 =>
 (rdL c2 9 1).bind fun c73 =>
 (fromCells false c73).bind fun v74 =>
 (aBin .eql .bool v72 v74).bind fun v75 =>
 some (0, [v75], g69.2.2))
 (some (0, [skipV], g69.2.2))).bind fun g76 =>
 (aPick v70 (g76.2.1.getD 0 .undef) (.bool false)).bind fun v77 =>
 (guardV v77 true
 ((rdL c1 10 1).bind fun c78 =>
 (fromCells false c78).bind fun v79 =>
 (rdL c2 10 1).bind fun c80 =>
 (fromCells false c80).bind fun v81 =>
 (aBin .eql .plain v79 v81).bind fun v82 =>
 some (0, [v82], g76.2.2))
 (some (0, [skipV], g76.2.2))).bind fun g83 =>
 (aPick v77 (g83.2.1.getD 0 .undef) (.bool false)).bind fun v84 =>
 some (0, [v84], g83.2.2))
theorem run16 (call : Go.Fw.Call) (a0 a1 : AVal) (h : Heap) : runFn call (.code A16) [a0, a1] h = (S16 call a0 a1 h).bind ansOf := by kernel_rfl

/-- (*frankpledge/frankpledgekeep.Tape).Next -/
noncomputable def A17 : AFunc := ⟨2, (.seq (.region [.op 0 (.mov 4 (.const (.int .i64 0)))] [])
 (.seq (.seq (.region [.op 0 (.mov 5 (.tmp 0)),
 .op 1 (.nilchk 6 (.tmp 5)),
 .op 2 (.faddr 7 1 (.tmp 6)),
 .op 3 (.load 8 false 1 (.tmp 7)),
 .op 4 (.mov 9 (.tmp 0)),
 .op 5 (.nilchk 10 (.tmp 9)),
 .op 6 (.faddr 11 0 (.tmp 10)),
 .op 7 (.load 12 false 1 (.tmp 11)),
 .op 8 (.len 13 false (.tmp 12)),
 .op 9 (.bin 14 .geq .plain (.tmp 8) (.tmp 13)),
 .op 10 (.mov 15 (.tmp 14)),
 .guard 15 false [.op 11 (.mov 16 (.tmp 1)),
 .op 12 (.bin 17 .lss .plain (.tmp 16) (.const (.int .i64 1)))] [] [17],
 .op 13 (.pick 18 (.tmp 15) (.const (.bool true)) (.tmp 17))] [])
 (.cond (.tmp 18)
 (.seq (.region [.op 0 (.mov 4 (.const (.int .i64 0)))] [])
 .ret)
 .skip))
 (.seq (.region [.op 0 (.mov 19 (.tmp 0)),
 .op 1 (.nilchk 20 (.tmp 19)),
 .op 2 (.faddr 21 1 (.tmp 20)),
 .op 3 (.load 22 false 1 (.tmp 21)),
 .op 4 (.bin 23 .add .plain (.tmp 22) (.const (.int .i64 1))),
 .op 5 (.nilchk 24 (.tmp 19)),
 .op 6 (.faddr 25 1 (.tmp 24)),
 .op 7 (.store false 1 (.tmp 25) (.tmp 23))] [])
 (.seq (.region [.op 0 (.mov 26 (.tmp 0)),
 .op 1 (.nilchk 27 (.tmp 26)),
 .op 2 (.faddr 28 0 (.tmp 27)),
 .op 3 (.load 29 false 1 (.tmp 28)),
 .op 4 (.mov 30 (.tmp 0)),
 .op 5 (.nilchk 31 (.tmp 30)),
 .op 6 (.faddr 32 1 (.tmp 31)),
 .op 7 (.load 33 false 1 (.tmp 32)),
 .op 8 (.bin 34 .sub .plain (.tmp 33) (.const (.int .i64 1))),
 .op 9 (.iaddr 35 none 1 (.tmp 29) (.tmp 34)),
 .op 10 (.load 36 false 1 (.tmp 35)),
 .op 11 (.call 37 10 [.tmp 36, .const (.int .i64 0), .const (.int .i64 1073741824)]),
 .op 12 (.mov 38 (.tmp 1)),
 .op 13 (.bin 39 .rem .plain (.tmp 37) (.tmp 38)),
 .op 14 (.mov 4 (.tmp 39))] [])
 .ret)))),
 [.tmp 4]⟩
theorem ok17 : funcOk Tryd.prog (drawOk Tryd.prog) Tryd.f17 A17 = true := by kernel_rfl
noncomputable def S17 (call : Go.Fw.Call) (a0 a1 : AVal) (h : Heap) : Option J :=
 (aNilchk a0).bind fun v1 =>
 (aFaddr 1 v1).bind fun v2 =>
 (aLoad h 1 v2).bind fun c3 =>
 (fromCells false c3).bind fun v4 =>
 (aNilchk a0).bind fun v5 =>
 (aFaddr 0 v5).bind fun v6 =>
 (aLoad h 1 v6).bind fun c7 =>
 (fromCells false c7).bind fun v8 =>
 (aLen false v8).bind fun v9 =>
 (aBin .geq .plain v4 v9).bind fun v10 =>
 (guardV v10 false
 ((aBin .lss .plain a1 (.int .i64 1)).bind fun v11 =>
 some (0, [v11], h))
 (some (0, [skipV], h))).bind fun g12 =>
 (aPick v10 (.bool true) (g12.2.1.getD 0 .undef)).bind fun v13 =>
 condV v13
 (some (0, [(.int .i64 0)], g12.2.2))
 ((aNilchk a0).bind fun v14 =>
 (aFaddr 1 v14).bind fun v15 =>
 (aLoad g12.2.2 1 v15).bind fun c16 =>
 (fromCells false c16).bind fun v17 =>
 (aBin .add .plain v17 (.int .i64 1)).bind fun v18 =>
 (aNilchk a0).bind fun v19 =>
 (aFaddr 1 v19).bind fun v20 =>
 (aCells 1 v18).bind fun c21 =>
 (aStore g12.2.2 v20 c21).bind fun h22 =>
 (aNilchk a0).bind fun v23 =>
 (aFaddr 0 v23).bind fun v24 =>
 (aLoad h22 1 v24).bind fun c25 =>
 (fromCells false c25).bind fun v26 =>
 (aNilchk a0).bind fun v27 =>
 (aFaddr 1 v27).bind fun v28 =>
 (aLoad h22 1 v28).bind fun c29 =>
 (fromCells false c29).bind fun v30 =>
 (aBin .sub .plain v30 (.int .i64 1)).bind fun v31 =>
 (aIaddr 1 v26 v31).bind fun v32 =>
 (aLoad h22 1 v32).bind fun c33 =>
 (fromCells false c33).bind fun v34 =>
 (call 10 [v34, (.int .i64 0), (.int .i64 1073741824)] h22).bind fun r35 =>
 (aBin .rem .plain r35.1 a1).bind fun v36 =>
 some (0, [v36], r35.2))
theorem run17 (call : Go.Fw.Call) (a0 a1 : AVal) (h : Heap) : runFn call (.code A17) [a0, a1] h = (S17 call a0 a1 h).bind ansOf := by kernel_rfl

/-- (*frankpledge/frankpledgekeep.Tape).Key -/
noncomputable def A18 : AFunc := ⟨1, (.seq (.region [.op 0 (.alloc 2 true [.str [], .str []])] [])
 (.seq (.regionF 2 [.op 0 (.fl 3 0 (some (1, 4)) [.str []] [(0, .const (.str [97, 112, 112])), (1, .const (.str [98])), (2, .const (.str [97, 112, 112, 49])), (3, .const (.str [122, 57]))]),
 .op 1 (.mov 4 (.tmp 0)),
 .op 2 (.call 5 17 [.tmp 4, .const (.int .i64 4)]),
 .op 3 (.iaddr 6 none 1 (.tmp 3) (.tmp 5)),
 .op 4 (.load 7 false 1 (.tmp 6)),
 .op 5 (.fl 8 1 (some (1, 5)) [.str []] [(0, .const (.str [105, 100])), (1, .const (.str [97])), (2, .const (.str [105, 100, 50])), (3, .const (.str [120, 48])), (4, .const (.str [109]))]),
 .op 6 (.mov 9 (.tmp 0)),
 .op 7 (.call 10 17 [.tmp 9, .const (.int .i64 5)]),
 .op 8 (.iaddr 11 none 1 (.tmp 8) (.tmp 10)),
 .op 9 (.load 12 false 1 (.tmp 11)),
 .op 10 (.build 13 [.str [], .str []] [(0, 1, .tmp 7), (1, 1, .tmp 12)]),
 .op 11 (.store true 2 (.tmp 2) (.tmp 13))] [(4, 7)])
 .ret)),
 [.cell 2 true 2]⟩
theorem ok18 : funcOk Tryd.prog (drawOk Tryd.prog) Tryd.f18 A18 = true := by kernel_rfl
noncomputable def S18 (call : Go.Fw.Call) (a0 : AVal) (h : Heap) : Option J :=
 (aFill (reps [.str []] 4) [(0, 1, (.str [97, 112, 112])), (1, 1, (.str [98])), (2, 1, (.str [97, 112, 112, 49])), (3, 1, (.str [122, 57]))]).bind fun c1 =>
 (call 17 [a0, (.int .i64 4)] ((h.res 2).setBlk (h.next + 0) (some ⟨c1, true⟩))).bind fun r2 =>
 (aIaddr 1 (.slice (h.next + 0) 0 4 4 1 true) r2.1).bind fun v3 =>
 (aLoad r2.2 1 v3).bind fun c4 =>
 (fromCells false c4).bind fun v5 =>
 (aFill (reps [.str []] 5) [(0, 1, (.str [105, 100])), (1, 1, (.str [97])), (2, 1, (.str [105, 100, 50])), (3, 1, (.str [120, 48])), (4, 1, (.str [109]))]).bind fun c6 =>
 (call 17 [a0, (.int .i64 5)] (r2.2.setBlk (h.next + 1) (some ⟨c6, true⟩))).bind fun r7 =>
 (aIaddr 1 (.slice (h.next + 1) 0 5 5 1 true) r7.1).bind fun v8 =>
 (aLoad r7.2 1 v8).bind fun c9 =>
 (fromCells false c9).bind fun v10 =>
 (aFill [.str [], .str []] [(0, 1, v5), (1, 1, v10)]).bind fun c11 =>
 (aCells 2 (.agg c11)).bind fun c12 =>
 bif Nat.ble ((0) + 2) (List.length (α := AVal) [.str [], .str []]) then bif checkPairs [(7, some (.ef [(2, [.str [], .str []])] (r2.2.setBlk (h.next + 1) (some ⟨c6, true⟩)) [(2, [.str [], .str []])] r7.2)), (4, logRd v3 1)] [(4, 7)] then (((rdL (splice [.str [], .str []] (0) c12) (0) 2).bind fun cs => fromCells true cs).bind fun v => (some []).bind fun vs => some (v :: vs)).bind fun vs => some (0, [oneOr vs], r7.2) else none else none
theorem run18 (call : Go.Fw.Call) (a0 : AVal) (h : Heap) : runFn call (.code A18) [a0] h = (S18 call a0 h).bind ansOf := by kernel_rfl

/-- frankpledge/mail.Right -/
noncomputable def A19 : AFunc := ⟨1, (.seq (.region [.op 0 (.box 1 true (.tmp 0)),
 .op 1 (.mov 2 (.const (.nilIface)))] [])
 (.seq (.block 0 (.seq (.region [.op 0 (.faddr 5 0 (.tmp 1)),
 .op 1 (.load 6 false 1 (.tmp 5)),
 .op 2 (.bin 7 .lss .plain (.tmp 6) (.const (.int .i64 1))),
 .op 3 (.mov 8 (.tmp 7)),
 .guard 8 false [.op 4 (.faddr 9 0 (.tmp 1)),
 .op 5 (.load 10 false 1 (.tmp 9)),
 .op 6 (.bin 11 .gtr .plain (.tmp 10) (.const (.int .i64 5)))] [] [11],
 .op 7 (.pick 12 (.tmp 8) (.const (.bool true)) (.tmp 11)),
 .op 8 (.mov 4 (.tmp 12))] [])
 (.cond (.tmp 4)
 (.seq (.region [.op 0 (.call 13 31 [.const (.str [107, 105, 110, 100]), .const (.int .i64 12)]),
 .op 1 (.mov 2 (.tmp 13))] [])
 .ret)
 (.seq (.region [.op 0 (.load 15 true 13 (.tmp 1)),
 .op 1 (.call 16 40 [.tmp 15]),
 .op 2 (.un 17 .not (.tmp 16)),
 .op 3 (.mov 14 (.tmp 17))] [])
 (.cond (.tmp 14)
 (.seq (.region [.op 0 (.call 18 31 [.const (.str [122, 101, 114, 111]), .const (.int .i64 12)]),
 .op 1 (.mov 2 (.tmp 18))] [])
 .ret)
 (.seq (.region [.op 0 (.load 20 true 13 (.tmp 1)),
 .op 1 (.call 21 41 [.tmp 20]),
 .op 2 (.un 22 .not (.tmp 21)),
 .op 3 (.mov 19 (.tmp 22))] [])
 (.cond (.tmp 19)
 (.seq (.region [.op 0 (.call 23 31 [.const (.str [111, 112]), .const (.int .i64 12)]),
 .op 1 (.mov 2 (.tmp 23))] [])
 .ret)
 (.seq (.region [.op 0 (.faddr 25 3 (.tmp 1)),
 .op 1 (.load 26 false 1 (.tmp 25)),
 .op 2 (.call 27 42 [.tmp 26]),
 .op 3 (.un 28 .not (.tmp 27)),
 .op 4 (.mov 29 (.tmp 28)),
 .guard 29 false [.op 5 (.faddr 30 2 (.tmp 1)),
 .op 6 (.load 31 false 1 (.tmp 30)),
 .op 7 (.call 32 42 [.tmp 31]),
 .op 8 (.un 33 .not (.tmp 32))] [] [33],
 .op 9 (.pick 34 (.tmp 29) (.const (.bool true)) (.tmp 33)),
 .op 10 (.mov 35 (.tmp 34)),
 .guard 35 false [.op 11 (.faddr 36 6 (.tmp 1)),
 .op 12 (.load 37 false 1 (.tmp 36)),
 .op 13 (.bin 38 .lss .plain (.tmp 37) (.const (.int .i64 (-1))))] [] [38],
 .op 14 (.pick 39 (.tmp 35) (.const (.bool true)) (.tmp 38)),
 .op 15 (.mov 24 (.tmp 39))] [])
 (.cond (.tmp 24)
 (.seq (.region [.op 0 (.call 40 31 [.const (.str [110, 117, 109, 98, 101, 114]), .const (.int .i64 1)]),
 .op 1 (.mov 2 (.tmp 40))] [])
 .ret)
 (.seq (.region [.op 0 (.faddr 42 11 (.tmp 1)),
 .op 1 (.load 43 false 1 (.tmp 42)),
 .op 2 (.len 44 false (.tmp 43)),
 .op 3 (.bin 45 .gtr .plain (.tmp 44) (.const (.int .i64 64))),
 .op 4 (.mov 46 (.tmp 45)),
 .guard 46 false [.op 5 (.faddr 47 12 (.tmp 1)),
 .op 6 (.load 48 false 1 (.tmp 47)),
 .op 7 (.len 49 false (.tmp 48)),
 .op 8 (.bin 50 .gtr .plain (.tmp 49) (.const (.int .i64 64)))] [] [50],
 .op 9 (.pick 51 (.tmp 46) (.const (.bool true)) (.tmp 50)),
 .op 10 (.mov 41 (.tmp 51))] [])
 (.cond (.tmp 41)
 (.seq (.region [.op 0 (.call 52 31 [.const (.str [99, 97, 114, 100, 115]), .const (.int .i64 3)]),
 .op 1 (.mov 2 (.tmp 52))] [])
 .ret)
 .skip)))))))))))
 (.seq (.region [.op 0 (.faddr 53 11 (.tmp 1)),
 .op 1 (.load 54 false 1 (.tmp 53)),
 .op 2 (.call 55 43 [.tmp 54, .const (.func 44 [])]),
 .op 3 (.mov 3 (.tmp 55))] [])
 (.seq (.seq (.region [.op 0 (.mov 56 (.tmp 3)),
 .op 1 (.mov 57 (.tmp 56)),
 .guard 57 false [.op 2 (.faddr 58 12 (.tmp 1)),
 .op 3 (.load 59 false 1 (.tmp 58)),
 .op 4 (.call 60 46 [.tmp 59, .const (.func 47 [])])] [] [60],
 .op 5 (.pick 61 (.tmp 57) (.const (.bool true)) (.tmp 60))] [])
 (.cond (.tmp 61)
 (.seq (.region [.op 0 (.call 62 31 [.const (.str [99, 97, 114, 100]), .const (.int .i64 1)]),
 .op 1 (.mov 2 (.tmp 62))] [])
 .ret)
 .skip))
 (.seq (.region [.op 0 (.mov 2 (.const (.nilIface)))] [])
 .ret))))),
 [.tmp 2]⟩
theorem ok19 : funcOk Tryd.prog (drawOk Tryd.prog) Tryd.f19 A19 = true := by kernel_rfl
noncomputable def S19 (call : Go.Fw.Call) (a0 : AVal) (h : Heap) : Option J :=
 (AVal.cells? a0).bind fun c1 =>
 (rdL c1 0 1).bind fun c2 =>
 (fromCells false c2).bind fun v3 =>
 (aBin .lss .plain v3 (.int .i64 1)).bind fun v4 =>
 (guardV v4 false
 ((rdL c1 0 1).bind fun c5 =>
 (fromCells false c5).bind fun v6 =>
 (aBin .gtr .plain v6 (.int .i64 5)).bind fun v7 =>
 some (0, [v7], h))
 (some (0, [skipV], h))).bind fun g8 =>
 (aPick v4 (.bool true) (g8.2.1.getD 0 .undef)).bind fun v9 =>
 condV v9
 ((call 31 [(.str [107, 105, 110, 100]), (.int .i64 12)] g8.2.2).bind fun r10 =>
 some (0, [r10.1], r10.2))
 ((rdL c1 0 13).bind fun c11 =>
 (fromCells true c11).bind fun v12 =>
 (call 40 [v12] g8.2.2).bind fun r13 =>
 (aUn .not r13.1).bind fun v14 =>
 condV v14
 ((call 31 [(.str [122, 101, 114, 111]), (.int .i64 12)] r13.2).bind fun r15 =>
 some (0, [r15.1], r15.2))
 ((rdL c1 0 13).bind fun c16 =>
 (fromCells true c16).bind fun v17 =>
 (call 41 [v17] r13.2).bind fun r18 =>
 (aUn .not r18.1).bind fun v19 =>
 condV v19
 ((call 31 [(.str [111, 112]), (.int .i64 12)] r18.2).bind fun r20 =>
 some (0, [r20.1], r20.2))
 ((rdL c1 3 1).bind fun c21 =>
 (fromCells false c21).bind fun v22 =>
 (call 42 [v22] r18.2).bind fun r23 =>
 (aUn .not r23.1).bind fun v24 =>
 (guardV v24 false
 ((rdL c1 2 1).bind fun c25 =>
 (fromCells false c25).bind fun v26 =>
 (call 42 [v26] r23.2).bind fun r27 =>
 (aUn .not r27.1).bind fun v28 =>
 some (0, [v28], r27.2))
 (some (0, [skipV], r23.2))).bind fun g29 =>
 (aPick v24 (.bool true) (g29.2.1.getD 0 .undef)).bind fun v30 =>
 (guardV v30 false
 ((rdL c1 6 1).bind fun c31 =>
 (fromCells false c31).bind fun v32 =>
 (aBin .lss .plain v32 (.int .i64 (-1))).bind fun v33 =>
 some (0, [v33], g29.2.2))
 (some (0, [skipV], g29.2.2))).bind fun g34 =>
 (aPick v30 (.bool true) (g34.2.1.getD 0 .undef)).bind fun v35 =>
 condV v35
 ((call 31 [(.str [110, 117, 109, 98, 101, 114]), (.int .i64 1)] g34.2.2).bind fun r36 =>
 some (0, [r36.1], r36.2))
 ((rdL c1 11 1).bind fun c37 =>
 (fromCells false c37).bind fun v38 =>
 (aLen false v38).bind fun v39 =>
 (aBin .gtr .plain v39 (.int .i64 64)).bind fun v40 =>
 (guardV v40 false
 ((rdL c1 12 1).bind fun c41 =>
 (fromCells false c41).bind fun v42 =>
 (aLen false v42).bind fun v43 =>
 (aBin .gtr .plain v43 (.int .i64 64)).bind fun v44 =>
 some (0, [v44], g34.2.2))
 (some (0, [skipV], g34.2.2))).bind fun g45 =>
 (aPick v40 (.bool true) (g45.2.1.getD 0 .undef)).bind fun v46 =>
 condV v46
 ((call 31 [(.str [99, 97, 114, 100, 115]), (.int .i64 3)] g45.2.2).bind fun r47 =>
 some (0, [r47.1], r47.2))
 ((rdL c1 11 1).bind fun c48 =>
 (fromCells false c48).bind fun v49 =>
 (call 43 [v49, (.func 44 [])] g45.2.2).bind fun r50 =>
 (guardV r50.1 false
 ((rdL c1 12 1).bind fun c51 =>
 (fromCells false c51).bind fun v52 =>
 (call 46 [v52, (.func 47 [])] r50.2).bind fun r53 =>
 some (0, [r53.1], r53.2))
 (some (0, [skipV], r50.2))).bind fun g54 =>
 (aPick r50.1 (.bool true) (g54.2.1.getD 0 .undef)).bind fun v55 =>
 condV v55
 ((call 31 [(.str [99, 97, 114, 100]), (.int .i64 1)] g54.2.2).bind fun r56 =>
 some (0, [r56.1], r56.2))
 (some (0, [(.nilIface)], g54.2.2)))))))
theorem run19 (call : Go.Fw.Call) (a0 : AVal) (h : Heap) : runFn call (.code A19) [a0] h = (S19 call a0 h).bind ansOf := by kernel_rfl

/-- frankpledge/fault.Wrap -/
noncomputable def A20 : AFunc := ⟨2, (.seq (.region [.op 0 (.mov 4 (.const (.nilIface)))] [])
 (.seq (.seq (.region [.op 0 (.mov 5 (.tmp 1)),
 .op 1 (.bin 6 .eql (.iface true []) (.tmp 5) (.const (.nilIface)))] [])
 (.cond (.tmp 6)
 (.seq (.region [.op 0 (.mov 4 (.const (.nilIface)))] [])
 .ret)
 .skip))
 (.seq (.region [.op 0 (.mov 7 (.tmp 0)),
 .op 1 (.mov 8 (.tmp 1)),
 .op 2 (.build 9 [.str [], .nilIface] [(0, 1, .tmp 7), (1, 1, .tmp 8)]),
 .op 3 (.box 10 false (.tmp 9)),
 .op 4 (.mkIface 11 86 (.tmp 10)),
 .op 5 (.mov 4 (.tmp 11))] [])
 .ret))),
 [.tmp 4]⟩
theorem ok20 : funcOk Tryd.prog (drawOk Tryd.prog) Tryd.f20 A20 = true := by kernel_rfl
noncomputable def S20 (call : Go.Fw.Call) (a0 a1 : AVal) (h : Heap) : Option J :=
 (aBin .eql (.iface true []) a1 (.nilIface)).bind fun v1 =>
 condV v1
 (some (0, [(.nilIface)], h))
 ((aFill [.str [], .nilIface] [(0, 1, a0), (1, 1, a1)]).bind fun c2 =>
 (AVal.cells? (.agg c2)).bind fun c3 =>
 some (0, [(.iface 86 (.ptr h.next 0))], (h.alloc c3)))
theorem run20 (call : Go.Fw.Call) (a0 a1 : AVal) (h : Heap) : runFn call (.code A20) [a0, a1] h = (S20 call a0 a1 h).bind ansOf := by kernel_rfl

/-- frankpledge/pack.Byte -/
noncomputable def A21 : AFunc := ⟨2, (.seq (.region [.op 0 (.mov 4 (.const (.nilSlice)))] [])
 (.seq (.region [.op 0 (.mov 5 (.tmp 0)),
 .op 1 (.call 6 49 [.tmp 5]),
 .op 2 (.mov 7 (.tmp 1)),
 .op 3 (.conv 8 (.toInt .u8) (.tmp 7)),
 .op 4 (.buildSl 9 [.int .u8 0] 1 1 [(0, .tmp 8)]),
 .op 5 (.append 10 1 1 [.int .u8 0] false (.tmp 6) (.tmp 9)),
 .op 6 (.mov 4 (.tmp 10))] [])
 .ret)),
 [.tmp 4]⟩
theorem ok21 : funcOk Tryd.prog (drawOk Tryd.prog) Tryd.f21 A21 = true := by kernel_rfl
noncomputable def S21 (call : Go.Fw.Call) (a0 a1 : AVal) (h : Heap) : Option J :=
 (call 49 [a0] h).bind fun r1 =>
 (aConv (.toInt .u8) a1 r1.2).bind fun r2 =>
 (aFill (reps [.int .u8 0] 1) [(0, 1, r2.1)]).bind fun c3 =>
 (aAppend 1 1 [.int .u8 0] false r1.1 (.slice r2.2.next 0 1 1 1 true) (r2.2.alloc c3)).bind fun r4 =>
 some (0, [r4.1], r4.2)
theorem run21 (call : Go.Fw.Call) (a0 a1 : AVal) (h : Heap) : runFn call (.code A21) [a0, a1] h = (S21 call a0 a1 h).bind ansOf := by kernel_rfl

/-- frankpledge/mail.key -/
noncomputable def A22 : AFunc := ⟨2, (.seq (.region [.op 0 (.box 3 true (.tmp 1)),
 .op 1 (.mov 4 (.const (.nilSlice)))] [])
 (.seq (.region [.op 0 (.mov 5 (.tmp 0)),
 .op 1 (.faddr 6 0 (.tmp 3)),
 .op 2 (.load 7 false 1 (.tmp 6)),
 .op 3 (.call 8 50 [.tmp 5, .tmp 7]),
 .op 4 (.faddr 9 1 (.tmp 3)),
 .op 5 (.load 10 false 1 (.tmp 9)),
 .op 6 (.call 11 50 [.tmp 8, .tmp 10]),
 .op 7 (.mov 4 (.tmp 11))] [(5, 3)])
 .ret)),
 [.tmp 4]⟩
theorem ok22 : funcOk Tryd.prog (drawOk Tryd.prog) Tryd.f22 A22 = true := by kernel_rfl
noncomputable def S22 (call : Go.Fw.Call) (a0 a1 : AVal) (h : Heap) : Option J :=
 (AVal.cells? a1).bind fun c1 =>
 (rdL c1 0 1).bind fun c2 =>
 (fromCells false c2).bind fun v3 =>
 (call 50 [a0, v3] h).bind fun r4 =>
 (rdL c1 1 1).bind fun c5 =>
 (fromCells false c5).bind fun v6 =>
 (call 50 [r4.1, v6] r4.2).bind fun r7 =>
 bif checkPairs [(5, some (.lrd 3 (1) 1)), (3, some (.ef [(3, c1)] h [(3, c1)] r4.2))] [(5, 3)] then some (0, [r7.1], r7.2) else none
theorem run22 (call : Go.Fw.Call) (a0 a1 : AVal) (h : Heap) : runFn call (.code A22) [a0, a1] h = (S22 call a0 a1 h).bind ansOf := by kernel_rfl

/-- frankpledge/pack.Int -/
noncomputable def A23 : AFunc := ⟨2, (.seq (.region [.op 0 (.mov 4 (.const (.nilSlice)))] [])
 (.seq (.region [.op 0 (.mov 7 (.tmp 0)),
 .op 1 (.call 8 49 [.tmp 7]),
 .op 2 (.mov 5 (.tmp 8))] [])
 (.seq (.seq (.region [.op 0 (.mov 6 (.const (.int .i64 7)))] [])
 (.block 0 (.loop ⟨[1, 5, 6], []⟩ [((.exit 0), ⟨[5], []⟩)]
 (.seq (.seq (.region [.op 0 (.mov 9 (.tmp 6)),
 .op 1 (.bin 10 .geq .plain (.tmp 9) (.const (.int .i64 0)))] [])
 (.cond (.tmp 10)
 .skip
 (.exit 0)))
 (.seq (.block 1 (.region [.op 0 (.mov 13 (.tmp 5)),
 .op 1 (.mov 14 (.tmp 1)),
 .op 2 (.mov 15 (.tmp 6)),
 .op 3 (.bin 16 .mul .plain (.const (.int .i64 8)) (.tmp 15)),
 .op 4 (.bin 17 .shr .plain (.tmp 14) (.tmp 16)),
 .op 5 (.conv 18 (.toInt .u8) (.tmp 17)),
 .op 6 (.buildSl 19 [.int .u8 0] 1 1 [(0, .tmp 18)]),
 .op 7 (.append 20 1 1 [.int .u8 0] false (.tmp 13) (.tmp 19)),
 .op 8 (.mov 5 (.tmp 20))] []))
 (.region [.op 0 (.mov 11 (.tmp 6)),
 .op 1 (.bin 12 .sub .plain (.tmp 11) (.const (.int .i64 1))),
 .op 2 (.mov 6 (.tmp 12))] []))))))
 (.seq (.region [.op 0 (.mov 21 (.tmp 5)),
 .op 1 (.call 22 27 [.tmp 21]),
 .op 2 (.mov 4 (.tmp 22))] [])
 .ret)))),
 [.tmp 4]⟩
theorem ok23 : funcOk Tryd.prog (drawOk Tryd.prog) Tryd.f23 A23 = true := by kernel_rfl
/-- xs: t1, t5, t6 -/
noncomputable def L23_0 (call : Go.Fw.Call) (xs : List AVal) (h : Heap) : Option J :=
 (aBin .geq .plain (xs.getD 2 .undef) (.int .i64 0)).bind fun v2 =>
 condV v2
 ((aBin .mul .plain (.int .i64 8) (xs.getD 2 .undef)).bind fun v3 =>
 (aBin .shr .plain (xs.getD 0 .undef) v3).bind fun v4 =>
 (aConv (.toInt .u8) v4 h).bind fun r5 =>
 (aFill (reps [.int .u8 0] 1) [(0, 1, r5.1)]).bind fun c6 =>
 (aAppend 1 1 [.int .u8 0] false (xs.getD 1 .undef) (.slice r5.2.next 0 1 1 1 true) (r5.2.alloc c6)).bind fun r7 =>
 (aBin .sub .plain (xs.getD 2 .undef) (.int .i64 1)).bind fun v8 =>
 some (0, [(xs.getD 0 .undef), r7.1, v8], r7.2))
 (some (1, [(xs.getD 1 .undef)], h))
noncomputable def S23 (call : Go.Fw.Call) (a0 a1 : AVal) (h : Heap) : Option J :=
 (call 49 [a0] h).bind fun r1 =>
 (loop (L23_0 call) [a1, r1.1, (.int .i64 7)] r1.2).bind fun x9 =>
 bif Nat.beq x9.1 1 then (call 27 [(x9.2.1.getD 0 .undef)] x9.2.2).bind fun r10 =>
 some (0, [r10.1], r10.2) else
 none
theorem run23 (call : Go.Fw.Call) (a0 a1 : AVal) (h : Heap) : runFn call (.code A23) [a0, a1] h = (S23 call a0 a1 h).bind ansOf := by kernel_rfl

/-- frankpledge/mail.bit -/
noncomputable def A24 : AFunc := ⟨1, (.seq (.region [.op 0 (.mov 2 (.const (.int .i64 0)))] [])
 (.seq (.seq (.region [.op 0 (.mov 3 (.tmp 0))] [])
 (.cond (.tmp 3)
 (.seq (.region [.op 0 (.mov 2 (.const (.int .i64 1)))] [])
 .ret)
 .skip))
 (.seq (.region [.op 0 (.mov 2 (.const (.int .i64 0)))] [])
 .ret))),
 [.tmp 2]⟩
theorem ok24 : funcOk Tryd.prog (drawOk Tryd.prog) Tryd.f24 A24 = true := by kernel_rfl
noncomputable def S24 (call : Go.Fw.Call) (a0 : AVal) (h : Heap) : Option J :=
 condV a0
 (some (0, [(.int .i64 1)], h))
 (some (0, [(.int .i64 0)], h))
theorem run24 (call : Go.Fw.Call) (a0 : AVal) (h : Heap) : runFn call (.code A24) [a0] h = (S24 call a0 h).bind ansOf := by kernel_rfl

/-- frankpledge/mail.cards -/
noncomputable def A25 : AFunc := ⟨2, (.seq (.region [.op 0 (.mov 4 (.const (.nilSlice)))] [])
 (.seq (.region [.op 0 (.mov 7 (.tmp 0)),
 .op 1 (.mov 8 (.tmp 1)),
 .op 2 (.len 9 false (.tmp 8)),
 .op 3 (.call 10 21 [.tmp 7, .tmp 9]),
 .op 4 (.mov 0 (.tmp 10))] [])
 (.seq (.seq (.region [.op 0 (.mov 11 (.tmp 1)),
 .op 1 (.len 12 false (.tmp 11)),
 .op 2 (.mov 13 (.const (.int .i64 0)))] [])
 (.block 0 (.loop ⟨[0, 11, 12, 13], []⟩ [((.exit 0), ⟨[0], []⟩)]
 (.seq (.region [.op 0 (.bin 14 .lss .plain (.tmp 13) (.tmp 12))] [])
 (.seq (.cond (.tmp 14)
 .skip
 (.exit 0))
 (.seq (.block 1 (.seq (.region [.op 0 (.iaddr 15 none 9 (.tmp 11) (.tmp 13)),
 .op 1 (.load 16 true 9 (.tmp 15)),
 .op 2 (.alloc 6 true [.str [], .str [], .int .i64 0, .int .i64 0, .int .i64 0, .int .i64 0, .int .i64 0, .int .i64 0, .bool false]),
 .op 3 (.store true 9 (.tmp 6) (.tmp 16))] [])
 (.seq (.region [.op 0 (.mov 17 (.tmp 0)),
 .op 1 (.faddr 18 0 (.tmp 6)),
 .op 2 (.load 19 true 2 (.tmp 18)),
 .op 3 (.call 20 22 [.tmp 17, .tmp 19]),
 .op 4 (.faddr 21 2 (.tmp 6)),
 .op 5 (.load 22 false 1 (.tmp 21)),
 .op 6 (.call 23 21 [.tmp 20, .tmp 22]),
 .op 7 (.faddr 24 3 (.tmp 6)),
 .op 8 (.load 25 false 1 (.tmp 24)),
 .op 9 (.call 26 21 [.tmp 23, .tmp 25]),
 .op 10 (.mov 0 (.tmp 26))] [(5, 3), (8, 3), (8, 6)])
 (.seq (.region [.op 0 (.mov 27 (.tmp 0)),
 .op 1 (.faddr 28 4 (.tmp 6)),
 .op 2 (.load 29 false 1 (.tmp 28)),
 .op 3 (.call 30 23 [.tmp 27, .tmp 29]),
 .op 4 (.faddr 31 5 (.tmp 6)),
 .op 5 (.faddr 32 0 (.tmp 31)),
 .op 6 (.load 33 false 1 (.tmp 32)),
 .op 7 (.call 34 23 [.tmp 30, .tmp 33]),
 .op 8 (.faddr 35 5 (.tmp 6)),
 .op 9 (.faddr 36 1 (.tmp 35)),
 .op 10 (.load 37 false 1 (.tmp 36)),
 .op 11 (.call 38 21 [.tmp 34, .tmp 37]),
 .op 12 (.mov 0 (.tmp 38))] [(6, 3), (10, 3), (10, 7)])
 (.region [.op 0 (.mov 39 (.tmp 0)),
 .op 1 (.faddr 40 5 (.tmp 6)),
 .op 2 (.faddr 41 2 (.tmp 40)),
 .op 3 (.load 42 false 1 (.tmp 41)),
 .op 4 (.call 43 23 [.tmp 39, .tmp 42]),
 .op 5 (.faddr 44 8 (.tmp 6)),
 .op 6 (.load 45 false 1 (.tmp 44)),
 .op 7 (.call 46 24 [.tmp 45]),
 .op 8 (.call 47 21 [.tmp 43, .tmp 46]),
 .op 9 (.mov 0 (.tmp 47))] [(6, 4)])))))
 (.region [.op 0 (.bin 48 .add .plain (.tmp 13) (.const (.int .i64 1))),
 .op 1 (.mov 13 (.tmp 48))] [])))))))
 (.seq (.region [.op 0 (.mov 49 (.tmp 0)),
 .op 1 (.mov 4 (.tmp 49))] [])
 .ret)))),
 [.tmp 4]⟩
theorem ok25 : funcOk Tryd.prog (drawOk Tryd.prog) Tryd.f25 A25 = true := by kernel_rfl
/-- xs: t0, t11, t12, t13 -/
noncomputable def L25_0 (call : Go.Fw.Call) (xs : List AVal) (h : Heap) : Option J :=
 (aBin .lss .plain (xs.getD 3 .undef) (xs.getD 2 .undef)).bind fun v4 =>
 condV v4
 ((aIaddr 9 (xs.getD 1 .undef) (xs.getD 3 .undef)).bind fun v5 =>
 (aLoad h 9 v5).bind fun c6 =>
 (fromCells true c6).bind fun v7 =>
 (aCells 9 v7).bind fun c8 =>
 bif Nat.ble ((0) + 9) (List.length (α := AVal) [.str [], .str [], .int .i64 0, .int .i64 0, .int .i64 0, .int .i64 0, .int .i64 0, .int .i64 0, .bool false]) then (rdL (splice [.str [], .str [], .int .i64 0, .int .i64 0, .int .i64 0, .int .i64 0, .int .i64 0, .int .i64 0, .bool false] (0) c8) 0 2).bind fun c9 =>
 (fromCells true c9).bind fun v10 =>
 (call 22 [(xs.getD 0 .undef), v10] h).bind fun r11 =>
 (rdL (splice [.str [], .str [], .int .i64 0, .int .i64 0, .int .i64 0, .int .i64 0, .int .i64 0, .int .i64 0, .bool false] (0) c8) 2 1).bind fun c12 =>
 (fromCells false c12).bind fun v13 =>
 (call 21 [r11.1, v13] r11.2).bind fun r14 =>
 (rdL (splice [.str [], .str [], .int .i64 0, .int .i64 0, .int .i64 0, .int .i64 0, .int .i64 0, .int .i64 0, .bool false] (0) c8) 3 1).bind fun c15 =>
 (fromCells false c15).bind fun v16 =>
 (call 21 [r14.1, v16] r14.2).bind fun r17 =>
 bif checkPairs [(8, some (.lrd 6 (3) 1)), (6, some (.ef [(6, (splice [.str [], .str [], .int .i64 0, .int .i64 0, .int .i64 0, .int .i64 0, .int .i64 0, .int .i64 0, .bool false] (0) c8))] r11.2 [(6, (splice [.str [], .str [], .int .i64 0, .int .i64 0, .int .i64 0, .int .i64 0, .int .i64 0, .int .i64 0, .bool false] (0) c8))] r14.2)), (5, some (.lrd 6 (2) 1)), (3, some (.ef [(6, (splice [.str [], .str [], .int .i64 0, .int .i64 0, .int .i64 0, .int .i64 0, .int .i64 0, .int .i64 0, .bool false] (0) c8))] h [(6, (splice [.str [], .str [], .int .i64 0, .int .i64 0, .int .i64 0, .int .i64 0, .int .i64 0, .int .i64 0, .bool false] (0) c8))] r11.2))] [(5, 3), (8, 3), (8, 6)] then (rdL (splice [.str [], .str [], .int .i64 0, .int .i64 0, .int .i64 0, .int .i64 0, .int .i64 0, .int .i64 0, .bool false] (0) c8) 4 1).bind fun c18 =>
 (fromCells false c18).bind fun v19 =>
 (call 23 [r17.1, v19] r17.2).bind fun r20 =>
 (rdL (splice [.str [], .str [], .int .i64 0, .int .i64 0, .int .i64 0, .int .i64 0, .int .i64 0, .int .i64 0, .bool false] (0) c8) 5 1).bind fun c21 =>
 (fromCells false c21).bind fun v22 =>
 (call 23 [r20.1, v22] r20.2).bind fun r23 =>
 (rdL (splice [.str [], .str [], .int .i64 0, .int .i64 0, .int .i64 0, .int .i64 0, .int .i64 0, .int .i64 0, .bool false] (0) c8) 6 1).bind fun c24 =>
 (fromCells false c24).bind fun v25 =>
 (call 21 [r23.1, v25] r23.2).bind fun r26 =>
 bif checkPairs [(10, some (.lrd 6 (6) 1)), (7, some (.ef [(6, (splice [.str [], .str [], .int .i64 0, .int .i64 0, .int .i64 0, .int .i64 0, .int .i64 0, .int .i64 0, .bool false] (0) c8))] r20.2 [(6, (splice [.str [], .str [], .int .i64 0, .int .i64 0, .int .i64 0, .int .i64 0, .int .i64 0, .int .i64 0, .bool false] (0) c8))] r23.2)), (6, some (.lrd 6 (5) 1)), (3, some (.ef [(6, (splice [.str [], .str [], .int .i64 0, .int .i64 0, .int .i64 0, .int .i64 0, .int .i64 0, .int .i64 0, .bool false] (0) c8))] r17.2 [(6, (splice [.str [], .str [], .int .i64 0, .int .i64 0, .int .i64 0, .int .i64 0, .int .i64 0, .int .i64 0, .bool false] (0) c8))] r20.2))] [(6, 3), (10, 3), (10, 7)] then (rdL (splice [.str [], .str [], .int .i64 0, .int .i64 0, .int .i64 0, .int .i64 0, .int .i64 0, .int .i64 0, .bool false] (0) c8) 7 1).bind fun c27 =>
 (fromCells false c27).bind fun v28 =>
 (call 23 [r26.1, v28] r26.2).bind fun r29 =>
 (rdL (splice [.str [], .str [], .int .i64 0, .int .i64 0, .int .i64 0, .int .i64 0, .int .i64 0, .int .i64 0, .bool false] (0) c8) 8 1).bind fun c30 =>
 (fromCells false c30).bind fun v31 =>
 (call 24 [v31] r29.2).bind fun r32 =>
 (call 21 [r29.1, r32.1] r32.2).bind fun r33 =>
 bif checkPairs [(6, some (.lrd 6 (8) 1)), (4, some (.ef [(6, (splice [.str [], .str [], .int .i64 0, .int .i64 0, .int .i64 0, .int .i64 0, .int .i64 0, .int .i64 0, .bool false] (0) c8))] r26.2 [(6, (splice [.str [], .str [], .int .i64 0, .int .i64 0, .int .i64 0, .int .i64 0, .int .i64 0, .int .i64 0, .bool false] (0) c8))] r29.2))] [(6, 4)] then (aBin .add .plain (xs.getD 3 .undef) (.int .i64 1)).bind fun v34 =>
 some (0, [r33.1, (xs.getD 1 .undef), (xs.getD 2 .undef), v34], r33.2) else none else none else none else none)
 (some (1, [(xs.getD 0 .undef)], h))
noncomputable def S25 (call : Go.Fw.Call) (a0 a1 : AVal) (h : Heap) : Option J :=
 (aLen false a1).bind fun v1 =>
 (call 21 [a0, v1] h).bind fun r2 =>
 (aLen false a1).bind fun v3 =>
 (loop (L25_0 call) [r2.1, a1, v3, (.int .i64 0)] r2.2).bind fun x35 =>
 bif Nat.beq x35.1 1 then some (0, [(x35.2.1.getD 0 .undef)], x35.2.2) else
 none
theorem run25 (call : Go.Fw.Call) (a0 a1 : AVal) (h : Heap) : runFn call (.code A25) [a0, a1] h = (S25 call a0 a1 h).bind ansOf := by kernel_rfl

/-- frankpledge/mail.keys -/
noncomputable def A26 : AFunc := ⟨2, (.seq (.region [.op 0 (.mov 4 (.const (.nilSlice)))] [])
 (.seq (.region [.op 0 (.mov 7 (.tmp 0)),
 .op 1 (.mov 8 (.tmp 1)),
 .op 2 (.len 9 false (.tmp 8)),
 .op 3 (.call 10 21 [.tmp 7, .tmp 9]),
 .op 4 (.mov 0 (.tmp 10))] [])
 (.seq (.seq (.region [.op 0 (.mov 11 (.tmp 1)),
 .op 1 (.len 12 false (.tmp 11)),
 .op 2 (.mov 13 (.const (.int .i64 0)))] [])
 (.block 0 (.loop ⟨[0, 11, 12, 13], []⟩ [((.exit 0), ⟨[0], []⟩)]
 (.seq (.region [.op 0 (.bin 14 .lss .plain (.tmp 13) (.tmp 12))] [])
 (.seq (.cond (.tmp 14)
 .skip
 (.exit 0))
 (.seq (.block 1 (.seq (.region [.op 0 (.iaddr 15 none 2 (.tmp 11) (.tmp 13)),
 .op 1 (.load 16 true 2 (.tmp 15)),
 .op 2 (.alloc 6 true [.str [], .str []]),
 .op 3 (.store true 2 (.tmp 6) (.tmp 16))] [])
 (.region [.op 0 (.mov 17 (.tmp 0)),
 .op 1 (.load 18 true 2 (.tmp 6)),
 .op 2 (.call 19 22 [.tmp 17, .tmp 18]),
 .op 3 (.mov 0 (.tmp 19))] [])))
 (.region [.op 0 (.bin 20 .add .plain (.tmp 13) (.const (.int .i64 1))),
 .op 1 (.mov 13 (.tmp 20))] [])))))))
 (.seq (.region [.op 0 (.mov 21 (.tmp 0)),
 .op 1 (.mov 4 (.tmp 21))] [])
 .ret)))),
 [.tmp 4]⟩
theorem ok26 : funcOk Tryd.prog (drawOk Tryd.prog) Tryd.f26 A26 = true := by kernel_rfl
/-- xs: t0, t11, t12, t13 -/
noncomputable def L26_0 (call : Go.Fw.Call) (xs : List AVal) (h : Heap) : Option J :=
 (aBin .lss .plain (xs.getD 3 .undef) (xs.getD 2 .undef)).bind fun v4 =>
 condV v4
 ((aIaddr 2 (xs.getD 1 .undef) (xs.getD 3 .undef)).bind fun v5 =>
 (aLoad h 2 v5).bind fun c6 =>
 (fromCells true c6).bind fun v7 =>
 (aCells 2 v7).bind fun c8 =>
 bif Nat.ble ((0) + 2) (List.length (α := AVal) [.str [], .str []]) then (rdL (splice [.str [], .str []] (0) c8) 0 2).bind fun c9 =>
 (fromCells true c9).bind fun v10 =>
 (call 22 [(xs.getD 0 .undef), v10] h).bind fun r11 =>
 (aBin .add .plain (xs.getD 3 .undef) (.int .i64 1)).bind fun v12 =>
 some (0, [r11.1, (xs.getD 1 .undef), (xs.getD 2 .undef), v12], r11.2) else none)
 (some (1, [(xs.getD 0 .undef)], h))
noncomputable def S26 (call : Go.Fw.Call) (a0 a1 : AVal) (h : Heap) : Option J :=
 (aLen false a1).bind fun v1 =>
 (call 21 [a0, v1] h).bind fun r2 =>
 (aLen false a1).bind fun v3 =>
 (loop (L26_0 call) [r2.1, a1, v3, (.int .i64 0)] r2.2).bind fun x13 =>
 bif Nat.beq x13.1 1 then some (0, [(x13.2.1.getD 0 .undef)], x13.2.2) else
 none
theorem run26 (call : Go.Fw.Call) (a0 a1 : AVal) (h : Heap) : runFn call (.code A26) [a0, a1] h = (S26 call a0 a1 h).bind ansOf := by kernel_rfl

/-- slices.Clip[[]byte,byte] -/
noncomputable def A27 : AFunc := ⟨1, (.seq (.region [.op 0 (.mov 2 (.const (.nilSlice)))] [])
 (.seq (.region [.op 0 (.mov 3 (.tmp 0)),
 .op 1 (.mov 4 (.tmp 0)),
 .op 2 (.len 5 false (.tmp 4)),
 .op 3 (.mov 6 (.tmp 0)),
 .op 4 (.len 7 false (.tmp 6)),
 .op 5 (.slice 8 (.sl 1) (.tmp 3) none (some (.tmp 5)) (some (.tmp 7))),
 .op 6 (.mov 2 (.tmp 8))] [])
 .ret)),
 [.tmp 2]⟩
theorem ok27 : funcOk Tryd.prog (drawOk Tryd.prog) Tryd.f27 A27 = true := by kernel_rfl
noncomputable def S27 (call : Go.Fw.Call) (a0 : AVal) (h : Heap) : Option J :=
 (aLen false a0).bind fun v1 =>
 (aLen false a0).bind fun v2 =>
 (aSliceSl 1 a0 none (some v1) (some v2)).bind fun v3 =>
 some (0, [v3], h)
theorem run27 (call : Go.Fw.Call) (a0 : AVal) (h : Heap) : runFn call (.code A27) [a0] h = (S27 call a0 h).bind ansOf := by kernel_rfl

/-- frankpledge/pack.New -/
noncomputable def A28 : AFunc := ⟨1, (.seq (.region [.op 0 (.mov 2 (.const (.nilPtr)))] [])
 (.seq (.region [.op 0 (.mov 3 (.tmp 0)),
 .op 1 (.call 4 49 [.tmp 3]),
 .op 2 (.build 5 [.nilSlice, .bool false] [(0, 1, .tmp 4)]),
 .op 3 (.box 6 false (.tmp 5)),
 .op 4 (.mov 2 (.tmp 6))] [])
 .ret)),
 [.tmp 2]⟩
theorem ok28 : funcOk Tryd.prog (drawOk Tryd.prog) Tryd.f28 A28 = true := by kernel_rfl
noncomputable def S28 (call : Go.Fw.Call) (a0 : AVal) (h : Heap) : Option J :=
 (call 49 [a0] h).bind fun r1 =>
 (aFill [.nilSlice, .bool false] [(0, 1, r1.1)]).bind fun c2 =>
 (AVal.cells? (.agg c2)).bind fun c3 =>
 some (0, [(.ptr r1.2.next 0)], (r1.2.alloc c3))
theorem run28 (call : Go.Fw.Call) (a0 : AVal) (h : Heap) : runFn call (.code A28) [a0] h = (S28 call a0 h).bind ansOf := by kernel_rfl

/-- (*frankpledge/mail.reader).message -/
noncomputable def A29 : AFunc := ⟨1, (.seq (.region [.op 0 (.alloc 2 true [.int .i64 0, .int .i64 0, .int .i64 0, .int .i64 0, .int .i64 0, .int .i64 0, .int .i64 0, .str [], .str [], .bool false, .int .u32 0, .nilSlice, .nilSlice])] [])
 (.seq (.region [.op 0 (.mov 4 (.tmp 0)),
 .op 1 (.nilchk 5 (.tmp 4)),
 .op 2 (.faddr 6 0 (.tmp 5)),
 .op 3 (.load 7 false 1 (.tmp 6)),
 .op 4 (.call 8 51 [.tmp 7]),
 .op 5 (.build 9 [.int .i64 0, .int .i64 0, .int .i64 0, .int .i64 0, .int .i64 0, .int .i64 0, .int .i64 0, .str [], .str [], .bool false, .int .u32 0, .nilSlice, .nilSlice] [(0, 1, .tmp 8)]),
 .op 6 (.alloc 3 true [.int .i64 0, .int .i64 0, .int .i64 0, .int .i64 0, .int .i64 0, .int .i64 0, .int .i64 0, .str [], .str [], .bool false, .int .u32 0, .nilSlice, .nilSlice]),
 .op 7 (.store true 13 (.tmp 3) (.tmp 9))] [])
 (.seq (.seq (.region [.op 0 (.faddr 10 0 (.tmp 3)),
 .op 1 (.load 11 false 1 (.tmp 10))] [])
 (.block 0 (.seq (.region [.op 0 (.bin 13 .eql .plain (.tmp 11) (.const (.int .i64 1))),
 .op 1 (.mov 12 (.tmp 13))] [])
 (.join [(.normal, ⟨[], [2, 3]⟩)] (.cond (.tmp 12)
 (.seq (.region [.op 0 (.mov 14 (.tmp 0)),
 .op 1 (.nilchk 15 (.tmp 14)),
 .op 2 (.faddr 16 0 (.tmp 15)),
 .op 3 (.load 17 false 1 (.tmp 16)),
 .op 4 (.call 18 52 [.tmp 17]),
 .op 5 (.mov 19 (.tmp 0)),
 .op 6 (.nilchk 20 (.tmp 19)),
 .op 7 (.faddr 21 0 (.tmp 20)),
 .op 8 (.load 22 false 1 (.tmp 21)),
 .op 9 (.call 23 51 [.tmp 22]),
 .op 10 (.faddr 24 4 (.tmp 3)),
 .op 11 (.store false 1 (.tmp 24) (.tmp 18)),
 .op 12 (.faddr 25 1 (.tmp 3)),
 .op 13 (.store false 1 (.tmp 25) (.tmp 23))] [(8, 4)])
 (.seq (.region [.op 0 (.mov 26 (.tmp 0)),
 .op 1 (.call 27 53 [.tmp 26]),
 .op 2 (.faddr 28 7 (.tmp 3)),
 .op 3 (.store true 2 (.tmp 28) (.tmp 27))] [])
 (.region [.op 0 (.mov 29 (.tmp 0)),
 .op 1 (.nilchk 30 (.tmp 29)),
 .op 2 (.faddr 31 0 (.tmp 30)),
 .op 3 (.load 32 false 1 (.tmp 31)),
 .op 4 (.call 33 52 [.tmp 32]),
 .op 5 (.mov 34 (.tmp 0)),
 .op 6 (.nilchk 35 (.tmp 34)),
 .op 7 (.faddr 36 0 (.tmp 35)),
 .op 8 (.load 37 false 1 (.tmp 36)),
 .op 9 (.call 38 51 [.tmp 37]),
 .op 10 (.mov 39 (.tmp 0)),
 .op 11 (.nilchk 40 (.tmp 39)),
 .op 12 (.faddr 41 0 (.tmp 40)),
 .op 13 (.load 42 false 1 (.tmp 41)),
 .op 14 (.call 43 52 [.tmp 42]),
 .op 15 (.faddr 44 5 (.tmp 3)),
 .op 16 (.store false 1 (.tmp 44) (.tmp 33)),
 .op 17 (.faddr 45 2 (.tmp 3)),
 .op 18 (.store false 1 (.tmp 45) (.tmp 38)),
 .op 19 (.faddr 46 6 (.tmp 3)),
 .op 20 (.store false 1 (.tmp 46) (.tmp 43))] [(8, 4), (13, 4), (13, 9)])))
 (.seq (.region [.op 0 (.bin 48 .eql .plain (.tmp 11) (.const (.int .i64 2))),
 .op 1 (.mov 47 (.tmp 48))] [])
 (.join [(.normal, ⟨[], [2, 3]⟩)] (.cond (.tmp 47)
 (.seq (.region [.op 0 (.mov 49 (.tmp 0)),
 .op 1 (.nilchk 50 (.tmp 49)),
 .op 2 (.faddr 51 0 (.tmp 50)),
 .op 3 (.load 52 false 1 (.tmp 51)),
 .op 4 (.call 53 52 [.tmp 52]),
 .op 5 (.mov 54 (.tmp 0)),
 .op 6 (.nilchk 55 (.tmp 54)),
 .op 7 (.faddr 56 0 (.tmp 55)),
 .op 8 (.load 57 false 1 (.tmp 56)),
 .op 9 (.call 58 51 [.tmp 57]),
 .op 10 (.faddr 59 4 (.tmp 3)),
 .op 11 (.store false 1 (.tmp 59) (.tmp 53)),
 .op 12 (.faddr 60 1 (.tmp 3)),
 .op 13 (.store false 1 (.tmp 60) (.tmp 58))] [(8, 4)])
 (.seq (.region [.op 0 (.mov 61 (.tmp 0)),
 .op 1 (.call 62 53 [.tmp 61]),
 .op 2 (.faddr 63 7 (.tmp 3)),
 .op 3 (.store true 2 (.tmp 63) (.tmp 62))] [])
 (.seq (.region [.op 0 (.mov 64 (.tmp 0)),
 .op 1 (.nilchk 65 (.tmp 64)),
 .op 2 (.faddr 66 0 (.tmp 65)),
 .op 3 (.load 67 false 1 (.tmp 66)),
 .op 4 (.call 68 51 [.tmp 67]),
 .op 5 (.mov 69 (.tmp 0)),
 .op 6 (.call 70 54 [.tmp 69]),
 .op 7 (.mov 71 (.tmp 0)),
 .op 8 (.nilchk 72 (.tmp 71)),
 .op 9 (.faddr 73 0 (.tmp 72)),
 .op 10 (.load 74 false 1 (.tmp 73)),
 .op 11 (.call 75 52 [.tmp 74]),
 .op 12 (.mov 76 (.tmp 0)),
 .op 13 (.call 77 55 [.tmp 76]),
 .op 14 (.faddr 78 3 (.tmp 3)),
 .op 15 (.store false 1 (.tmp 78) (.tmp 68)),
 .op 16 (.faddr 79 9 (.tmp 3)),
 .op 17 (.store false 1 (.tmp 79) (.tmp 70)),
 .op 18 (.faddr 80 6 (.tmp 3)),
 .op 19 (.store false 1 (.tmp 80) (.tmp 75)),
 .op 20 (.faddr 81 10 (.tmp 3)),
 .op 21 (.store false 1 (.tmp 81) (.tmp 77))] [(10, 4), (10, 6)])
 (.region [.op 0 (.mov 82 (.tmp 0)),
 .op 1 (.call 83 56 [.tmp 82]),
 .op 2 (.faddr 84 11 (.tmp 3)),
 .op 3 (.store false 1 (.tmp 84) (.tmp 83))] []))))
 (.seq (.seq (.region [.op 0 (.bin 86 .eql .plain (.tmp 11) (.const (.int .i64 3))),
 .op 1 (.mov 85 (.tmp 86))] [])
 (.join [(.normal, ⟨[0, 11, 85], [2, 3]⟩)] (.cond (.tmp 85)
 .skip
 (.region [.op 0 (.bin 87 .eql .plain (.tmp 11) (.const (.int .i64 4))),
 .op 1 (.mov 85 (.tmp 87))] []))))
 (.join [(.normal, ⟨[], [2, 3]⟩)] (.cond (.tmp 85)
 (.region [.op 0 (.mov 88 (.tmp 0)),
 .op 1 (.call 89 56 [.tmp 88]),
 .op 2 (.faddr 90 11 (.tmp 3)),
 .op 3 (.store false 1 (.tmp 90) (.tmp 89))] [])
 (.seq (.region [.op 0 (.bin 92 .eql .plain (.tmp 11) (.const (.int .i64 5))),
 .op 1 (.mov 91 (.tmp 92))] [])
 (.join [(.normal, ⟨[], [2, 3]⟩)] (.cond (.tmp 91)
 (.region [.op 0 (.mov 93 (.tmp 0)),
 .op 1 (.call 94 57 [.tmp 93]),
 .op 2 (.faddr 95 12 (.tmp 3)),
 .op 3 (.store false 1 (.tmp 95) (.tmp 94))] [])
 .skip))))))))))))))
 (.seq (.region [.op 0 (.load 96 true 13 (.tmp 3)),
 .op 1 (.store true 13 (.tmp 2) (.tmp 96))] [])
 .ret)))),
 [.cell 2 true 13]⟩
theorem ok29 : funcOk Tryd.prog (drawOk Tryd.prog) Tryd.f29 A29 = true := by kernel_rfl
noncomputable def S29 (call : Go.Fw.Call) (a0 : AVal) (h : Heap) : Option J :=
 (aNilchk a0).bind fun v1 =>
 (aFaddr 0 v1).bind fun v2 =>
 (aLoad h 1 v2).bind fun c3 =>
 (fromCells false c3).bind fun v4 =>
 (call 51 [v4] h).bind fun r5 =>
 (aFill [.int .i64 0, .int .i64 0, .int .i64 0, .int .i64 0, .int .i64 0, .int .i64 0, .int .i64 0, .str [], .str [], .bool false, .int .u32 0, .nilSlice, .nilSlice] [(0, 1, r5.1)]).bind fun c6 =>
 (aCells 13 (.agg c6)).bind fun c7 =>
 bif Nat.ble ((0) + 13) (List.length (α := AVal) [.int .i64 0, .int .i64 0, .int .i64 0, .int .i64 0, .int .i64 0, .int .i64 0, .int .i64 0, .str [], .str [], .bool false, .int .u32 0, .nilSlice, .nilSlice]) then (rdL (splice [.int .i64 0, .int .i64 0, .int .i64 0, .int .i64 0, .int .i64 0, .int .i64 0, .int .i64 0, .str [], .str [], .bool false, .int .u32 0, .nilSlice, .nilSlice] (0) c7) 0 1).bind fun c8 =>
 (fromCells false c8).bind fun v9 =>
 (aBin .eql .plain v9 (.int .i64 1)).bind fun v10 =>
 (condV v10
 ((aNilchk a0).bind fun v11 =>
 (aFaddr 0 v11).bind fun v12 =>
 (aLoad r5.2 1 v12).bind fun c13 =>
 (fromCells false c13).bind fun v14 =>
 (call 52 [v14] r5.2).bind fun r15 =>
 (aNilchk a0).bind fun v16 =>
 (aFaddr 0 v16).bind fun v17 =>
 (aLoad r15.2 1 v17).bind fun c18 =>
 (fromCells false c18).bind fun v19 =>
 (call 51 [v19] r15.2).bind fun r20 =>
 (aCells 1 r15.1).bind fun c21 =>
 bif Nat.ble ((4) + 1) (List.length (α := AVal) (splice [.int .i64 0, .int .i64 0, .int .i64 0, .int .i64 0, .int .i64 0, .int .i64 0, .int .i64 0, .str [], .str [], .bool false, .int .u32 0, .nilSlice, .nilSlice] (0) c7)) then (aCells 1 r20.1).bind fun c22 =>
 bif Nat.ble ((1) + 1) (List.length (α := AVal) (splice (splice [.int .i64 0, .int .i64 0, .int .i64 0, .int .i64 0, .int .i64 0, .int .i64 0, .int .i64 0, .str [], .str [], .bool false, .int .u32 0, .nilSlice, .nilSlice] (0) c7) (4) c21)) then bif checkPairs [(8, logRd v17 1), (4, some (.ef [(3, (splice [.int .i64 0, .int .i64 0, .int .i64 0, .int .i64 0, .int .i64 0, .int .i64 0, .int .i64 0, .str [], .str [], .bool false, .int .u32 0, .nilSlice, .nilSlice] (0) c7)), (2, [.int .i64 0, .int .i64 0, .int .i64 0, .int .i64 0, .int .i64 0, .int .i64 0, .int .i64 0, .str [], .str [], .bool false, .int .u32 0, .nilSlice, .nilSlice])] r5.2 [(3, (splice [.int .i64 0, .int .i64 0, .int .i64 0, .int .i64 0, .int .i64 0, .int .i64 0, .int .i64 0, .str [], .str [], .bool false, .int .u32 0, .nilSlice, .nilSlice] (0) c7)), (2, [.int .i64 0, .int .i64 0, .int .i64 0, .int .i64 0, .int .i64 0, .int .i64 0, .int .i64 0, .str [], .str [], .bool false, .int .u32 0, .nilSlice, .nilSlice])] r15.2))] [(8, 4)] then (call 53 [a0] r20.2).bind fun r23 =>
 (aCells 2 r23.1).bind fun c24 =>
 bif Nat.ble ((7) + 2) (List.length (α := AVal) (splice (splice (splice [.int .i64 0, .int .i64 0, .int .i64 0, .int .i64 0, .int .i64 0, .int .i64 0, .int .i64 0, .str [], .str [], .bool false, .int .u32 0, .nilSlice, .nilSlice] (0) c7) (4) c21) (1) c22)) then (aNilchk a0).bind fun v25 =>
 (aFaddr 0 v25).bind fun v26 =>
 (aLoad r23.2 1 v26).bind fun c27 =>
 (fromCells false c27).bind fun v28 =>
 (call 52 [v28] r23.2).bind fun r29 =>
 (aNilchk a0).bind fun v30 =>
 (aFaddr 0 v30).bind fun v31 =>
 (aLoad r29.2 1 v31).bind fun c32 =>
 (fromCells false c32).bind fun v33 =>
 (call 51 [v33] r29.2).bind fun r34 =>
 (aNilchk a0).bind fun v35 =>
 (aFaddr 0 v35).bind fun v36 =>
 (aLoad r34.2 1 v36).bind fun c37 =>
 (fromCells false c37).bind fun v38 =>
 (call 52 [v38] r34.2).bind fun r39 =>
 (aCells 1 r29.1).bind fun c40 =>
 bif Nat.ble ((5) + 1) (List.length (α := AVal) (splice (splice (splice (splice [.int .i64 0, .int .i64 0, .int .i64 0, .int .i64 0, .int .i64 0, .int .i64 0, .int .i64 0, .str [], .str [], .bool false, .int .u32 0, .nilSlice, .nilSlice] (0) c7) (4) c21) (1) c22) (7) c24)) then (aCells 1 r34.1).bind fun c41 =>
 bif Nat.ble ((2) + 1) (List.length (α := AVal) (splice (splice (splice (splice (splice [.int .i64 0, .int .i64 0, .int .i64 0, .int .i64 0, .int .i64 0, .int .i64 0, .int .i64 0, .str [], .str [], .bool false, .int .u32 0, .nilSlice, .nilSlice] (0) c7) (4) c21) (1) c22) (7) c24) (5) c40)) then (aCells 1 r39.1).bind fun c42 =>
 bif Nat.ble ((6) + 1) (List.length (α := AVal) (splice (splice (splice (splice (splice (splice [.int .i64 0, .int .i64 0, .int .i64 0, .int .i64 0, .int .i64 0, .int .i64 0, .int .i64 0, .str [], .str [], .bool false, .int .u32 0, .nilSlice, .nilSlice] (0) c7) (4) c21) (1) c22) (7) c24) (5) c40) (2) c41)) then bif checkPairs [(13, logRd v36 1), (9, some (.ef [(3, (splice (splice (splice (splice [.int .i64 0, .int .i64 0, .int .i64 0, .int .i64 0, .int .i64 0, .int .i64 0, .int .i64 0, .str [], .str [], .bool false, .int .u32 0, .nilSlice, .nilSlice] (0) c7) (4) c21) (1) c22) (7) c24)), (2, [.int .i64 0, .int .i64 0, .int .i64 0, .int .i64 0, .int .i64 0, .int .i64 0, .int .i64 0, .str [], .str [], .bool false, .int .u32 0, .nilSlice, .nilSlice])] r29.2 [(3, (splice (splice (splice (splice [.int .i64 0, .int .i64 0, .int .i64 0, .int .i64 0, .int .i64 0, .int .i64 0, .int .i64 0, .str [], .str [], .bool false, .int .u32 0, .nilSlice, .nilSlice] (0) c7) (4) c21) (1) c22) (7) c24)), (2, [.int .i64 0, .int .i64 0, .int .i64 0, .int .i64 0, .int .i64 0, .int .i64 0, .int .i64 0, .str [], .str [], .bool false, .int .u32 0, .nilSlice, .nilSlice])] r34.2)), (8, logRd v31 1), (4, some (.ef [(3, (splice (splice (splice (splice [.int .i64 0, .int .i64 0, .int .i64 0, .int .i64 0, .int .i64 0, .int .i64 0, .int .i64 0, .str [], .str [], .bool false, .int .u32 0, .nilSlice, .nilSlice] (0) c7) (4) c21) (1) c22) (7) c24)), (2, [.int .i64 0, .int .i64 0, .int .i64 0, .int .i64 0, .int .i64 0, .int .i64 0, .int .i64 0, .str [], .str [], .bool false, .int .u32 0, .nilSlice, .nilSlice])] r23.2 [(3, (splice (splice (splice (splice [.int .i64 0, .int .i64 0, .int .i64 0, .int .i64 0, .int .i64 0, .int .i64 0, .int .i64 0, .str [], .str [], .bool false, .int .u32 0, .nilSlice, .nilSlice] (0) c7) (4) c21) (1) c22) (7) c24)), (2, [.int .i64 0, .int .i64 0, .int .i64 0, .int .i64 0, .int .i64 0, .int .i64 0, .int .i64 0, .str [], .str [], .bool false, .int .u32 0, .nilSlice, .nilSlice])] r29.2))] [(8, 4), (13, 4), (13, 9)] then some (0, [(.agg [.int .i64 0, .int .i64 0, .int .i64 0, .int .i64 0, .int .i64 0, .int .i64 0, .int .i64 0, .str [], .str [], .bool false, .int .u32 0, .nilSlice, .nilSlice]), (.agg (splice (splice (splice (splice (splice (splice (splice [.int .i64 0, .int .i64 0, .int .i64 0, .int .i64 0, .int .i64 0, .int .i64 0, .int .i64 0, .str [], .str [], .bool false, .int .u32 0, .nilSlice, .nilSlice] (0) c7) (4) c21) (1) c22) (7) c24) (5) c40) (2) c41) (6) c42))], r39.2) else none else none else none else none else none else none else none else none)
 ((aBin .eql .plain v9 (.int .i64 2)).bind fun v43 =>
 (condV v43
 ((aNilchk a0).bind fun v44 =>
 (aFaddr 0 v44).bind fun v45 =>
 (aLoad r5.2 1 v45).bind fun c46 =>
 (fromCells false c46).bind fun v47 =>
 (call 52 [v47] r5.2).bind fun r48 =>
 (aNilchk a0).bind fun v49 =>
 (aFaddr 0 v49).bind fun v50 =>
 (aLoad r48.2 1 v50).bind fun c51 =>
 (fromCells false c51).bind fun v52 =>
 (call 51 [v52] r48.2).bind fun r53 =>
 (aCells 1 r48.1).bind fun c54 =>
 bif Nat.ble ((4) + 1) (List.length (α := AVal) (splice [.int .i64 0, .int .i64 0, .int .i64 0, .int .i64 0, .int .i64 0, .int .i64 0, .int .i64 0, .str [], .str [], .bool false, .int .u32 0, .nilSlice, .nilSlice] (0) c7)) then (aCells 1 r53.1).bind fun c55 =>
 bif Nat.ble ((1) + 1) (List.length (α := AVal) (splice (splice [.int .i64 0, .int .i64 0, .int .i64 0, .int .i64 0, .int .i64 0, .int .i64 0, .int .i64 0, .str [], .str [], .bool false, .int .u32 0, .nilSlice, .nilSlice] (0) c7) (4) c54)) then bif checkPairs [(8, logRd v50 1), (4, some (.ef [(3, (splice [.int .i64 0, .int .i64 0, .int .i64 0, .int .i64 0, .int .i64 0, .int .i64 0, .int .i64 0, .str [], .str [], .bool false, .int .u32 0, .nilSlice, .nilSlice] (0) c7)), (2, [.int .i64 0, .int .i64 0, .int .i64 0, .int .i64 0, .int .i64 0, .int .i64 0, .int .i64 0, .str [], .str [], .bool false, .int .u32 0, .nilSlice, .nilSlice])] r5.2 [(3, (splice [.int .i64 0, .int .i64 0, .int .i64 0, .int .i64 0, .int .i64 0, .int .i64 0, .int .i64 0, .str [], .str [], .bool false, .int .u32 0, .nilSlice, .nilSlice] (0) c7)), (2, [.int .i64 0, .int .i64 0, .int .i64 0, .int .i64 0, .int .i64 0, .int .i64 0, .int .i64 0, .str [], .str [], .bool false, .int .u32 0, .nilSlice, .nilSlice])] r48.2))] [(8, 4)] then (call 53 [a0] r53.2).bind fun r56 =>
 (aCells 2 r56.1).bind fun c57 =>
 bif Nat.ble ((7) + 2) (List.length (α := AVal) (splice (splice (splice [.int .i64 0, .int .i64 0, .int .i64 0, .int .i64 0, .int .i64 0, .int .i64 0, .int .i64 0, .str [], .str [], .bool false, .int .u32 0, .nilSlice, .nilSlice] (0) c7) (4) c54) (1) c55)) then (aNilchk a0).bind fun v58 =>
 (aFaddr 0 v58).bind fun v59 =>
 (aLoad r56.2 1 v59).bind fun c60 =>
 (fromCells false c60).bind fun v61 =>
 (call 51 [v61] r56.2).bind fun r62 =>
 (call 54 [a0] r62.2).bind fun r63 =>
 (aNilchk a0).bind fun v64 =>
 (aFaddr 0 v64).bind fun v65 =>
 (aLoad r63.2 1 v65).bind fun c66 =>
 (fromCells false c66).bind fun v67 =>
 (call 52 [v67] r63.2).bind fun r68 =>
 (call 55 [a0] r68.2).bind fun r69 =>
 (aCells 1 r62.1).bind fun c70 =>
 bif Nat.ble ((3) + 1) (List.length (α := AVal) (splice (splice (splice (splice [.int .i64 0, .int .i64 0, .int .i64 0, .int .i64 0, .int .i64 0, .int .i64 0, .int .i64 0, .str [], .str [], .bool false, .int .u32 0, .nilSlice, .nilSlice] (0) c7) (4) c54) (1) c55) (7) c57)) then (aCells 1 r63.1).bind fun c71 =>
 bif Nat.ble ((9) + 1) (List.length (α := AVal) (splice (splice (splice (splice (splice [.int .i64 0, .int .i64 0, .int .i64 0, .int .i64 0, .int .i64 0, .int .i64 0, .int .i64 0, .str [], .str [], .bool false, .int .u32 0, .nilSlice, .nilSlice] (0) c7) (4) c54) (1) c55) (7) c57) (3) c70)) then (aCells 1 r68.1).bind fun c72 =>
 bif Nat.ble ((6) + 1) (List.length (α := AVal) (splice (splice (splice (splice (splice (splice [.int .i64 0, .int .i64 0, .int .i64 0, .int .i64 0, .int .i64 0, .int .i64 0, .int .i64 0, .str [], .str [], .bool false, .int .u32 0, .nilSlice, .nilSlice] (0) c7) (4) c54) (1) c55) (7) c57) (3) c70) (9) c71)) then (aCells 1 r69.1).bind fun c73 =>
 bif Nat.ble ((10) + 1) (List.length (α := AVal) (splice (splice (splice (splice (splice (splice (splice [.int .i64 0, .int .i64 0, .int .i64 0, .int .i64 0, .int .i64 0, .int .i64 0, .int .i64 0, .str [], .str [], .bool false, .int .u32 0, .nilSlice, .nilSlice] (0) c7) (4) c54) (1) c55) (7) c57) (3) c70) (9) c71) (6) c72)) then bif checkPairs [(10, logRd v65 1), (6, some (.ef [(3, (splice (splice (splice (splice [.int .i64 0, .int .i64 0, .int .i64 0, .int .i64 0, .int .i64 0, .int .i64 0, .int .i64 0, .str [], .str [], .bool false, .int .u32 0, .nilSlice, .nilSlice] (0) c7) (4) c54) (1) c55) (7) c57)), (2, [.int .i64 0, .int .i64 0, .int .i64 0, .int .i64 0, .int .i64 0, .int .i64 0, .int .i64 0, .str [], .str [], .bool false, .int .u32 0, .nilSlice, .nilSlice])] r62.2 [(3, (splice (splice (splice (splice [.int .i64 0, .int .i64 0, .int .i64 0, .int .i64 0, .int .i64 0, .int .i64 0, .int .i64 0, .str [], .str [], .bool false, .int .u32 0, .nilSlice, .nilSlice] (0) c7) (4) c54) (1) c55) (7) c57)), (2, [.int .i64 0, .int .i64 0, .int .i64 0, .int .i64 0, .int .i64 0, .int .i64 0, .int .i64 0, .str [], .str [], .bool false, .int .u32 0, .nilSlice, .nilSlice])] r63.2)), (4, some (.ef [(3, (splice (splice (splice (splice [.int .i64 0, .int .i64 0, .int .i64 0, .int .i64 0, .int .i64 0, .int .i64 0, .int .i64 0, .str [], .str [], .bool false, .int .u32 0, .nilSlice, .nilSlice] (0) c7) (4) c54) (1) c55) (7) c57)), (2, [.int .i64 0, .int .i64 0, .int .i64 0, .int .i64 0, .int .i64 0, .int .i64 0, .int .i64 0, .str [], .str [], .bool false, .int .u32 0, .nilSlice, .nilSlice])] r56.2 [(3, (splice (splice (splice (splice [.int .i64 0, .int .i64 0, .int .i64 0, .int .i64 0, .int .i64 0, .int .i64 0, .int .i64 0, .str [], .str [], .bool false, .int .u32 0, .nilSlice, .nilSlice] (0) c7) (4) c54) (1) c55) (7) c57)), (2, [.int .i64 0, .int .i64 0, .int .i64 0, .int .i64 0, .int .i64 0, .int .i64 0, .int .i64 0, .str [], .str [], .bool false, .int .u32 0, .nilSlice, .nilSlice])] r62.2))] [(10, 4), (10, 6)] then (call 56 [a0] r69.2).bind fun r74 =>
 (aCells 1 r74.1).bind fun c75 =>
 bif Nat.ble ((11) + 1) (List.length (α := AVal) (splice (splice (splice (splice (splice (splice (splice (splice [.int .i64 0, .int .i64 0, .int .i64 0, .int .i64 0, .int .i64 0, .int .i64 0, .int .i64 0, .str [], .str [], .bool false, .int .u32 0, .nilSlice, .nilSlice] (0) c7) (4) c54) (1) c55) (7) c57) (3) c70) (9) c71) (6) c72) (10) c73)) then some (0, [(.agg [.int .i64 0, .int .i64 0, .int .i64 0, .int .i64 0, .int .i64 0, .int .i64 0, .int .i64 0, .str [], .str [], .bool false, .int .u32 0, .nilSlice, .nilSlice]), (.agg (splice (splice (splice (splice (splice (splice (splice (splice (splice [.int .i64 0, .int .i64 0, .int .i64 0, .int .i64 0, .int .i64 0, .int .i64 0, .int .i64 0, .str [], .str [], .bool false, .int .u32 0, .nilSlice, .nilSlice] (0) c7) (4) c54) (1) c55) (7) c57) (3) c70) (9) c71) (6) c72) (10) c73) (11) c75))], r74.2) else none else none else none else none else none else none else none else none else none else none)
 ((aBin .eql .plain v9 (.int .i64 3)).bind fun v76 =>
 (condV v76
 (some (0, [a0, v9, v76, (.agg [.int .i64 0, .int .i64 0, .int .i64 0, .int .i64 0, .int .i64 0, .int .i64 0, .int .i64 0, .str [], .str [], .bool false, .int .u32 0, .nilSlice, .nilSlice]), (.agg (splice [.int .i64 0, .int .i64 0, .int .i64 0, .int .i64 0, .int .i64 0, .int .i64 0, .int .i64 0, .str [], .str [], .bool false, .int .u32 0, .nilSlice, .nilSlice] (0) c7))], r5.2))
 ((aBin .eql .plain v9 (.int .i64 4)).bind fun v77 =>
 some (0, [a0, v9, v77, (.agg [.int .i64 0, .int .i64 0, .int .i64 0, .int .i64 0, .int .i64 0, .int .i64 0, .int .i64 0, .str [], .str [], .bool false, .int .u32 0, .nilSlice, .nilSlice]), (.agg (splice [.int .i64 0, .int .i64 0, .int .i64 0, .int .i64 0, .int .i64 0, .int .i64 0, .int .i64 0, .str [], .str [], .bool false, .int .u32 0, .nilSlice, .nilSlice] (0) c7))], r5.2))).bind fun x78 =>
 bif Nat.beq x78.1 0 then (condV (x78.2.1.getD 2 .undef)
 ((call 56 [(x78.2.1.getD 0 .undef)] x78.2.2).bind fun r79 =>
 (aCells 1 r79.1).bind fun c80 =>
 bif Nat.ble ((11) + 1) (List.length (α := AVal) (AVal.aggCells (x78.2.1.getD 4 .undef))) then some (0, [(.agg (AVal.aggCells (x78.2.1.getD 3 .undef))), (.agg (splice (AVal.aggCells (x78.2.1.getD 4 .undef)) (11) c80))], r79.2) else none)
 ((aBin .eql .plain (x78.2.1.getD 1 .undef) (.int .i64 5)).bind fun v81 =>
 (condV v81
 ((call 57 [(x78.2.1.getD 0 .undef)] x78.2.2).bind fun r82 =>
 (aCells 1 r82.1).bind fun c83 =>
 bif Nat.ble ((12) + 1) (List.length (α := AVal) (AVal.aggCells (x78.2.1.getD 4 .undef))) then some (0, [(.agg (AVal.aggCells (x78.2.1.getD 3 .undef))), (.agg (splice (AVal.aggCells (x78.2.1.getD 4 .undef)) (12) c83))], r82.2) else none)
 (some (0, [(.agg (AVal.aggCells (x78.2.1.getD 3 .undef))), (.agg (AVal.aggCells (x78.2.1.getD 4 .undef)))], x78.2.2))).bind fun x84 =>
 bif Nat.beq x84.1 0 then some (0, [(.agg (AVal.aggCells (x84.2.1.getD 0 .undef))), (.agg (AVal.aggCells (x84.2.1.getD 1 .undef)))], x84.2.2) else
 none)).bind fun x85 =>
 bif Nat.beq x85.1 0 then some (0, [(.agg (AVal.aggCells (x85.2.1.getD 0 .undef))), (.agg (AVal.aggCells (x85.2.1.getD 1 .undef)))], x85.2.2) else
 none else
 none)).bind fun x86 =>
 bif Nat.beq x86.1 0 then some (0, [(.agg (AVal.aggCells (x86.2.1.getD 0 .undef))), (.agg (AVal.aggCells (x86.2.1.getD 1 .undef)))], x86.2.2) else
 none)).bind fun x87 =>
 bif Nat.beq x87.1 0 then (rdL (AVal.aggCells (x87.2.1.getD 1 .undef)) 0 13).bind fun c88 =>
 (fromCells true c88).bind fun v89 =>
 (aCells 13 v89).bind fun c90 =>
 bif Nat.ble ((0) + 13) (List.length (α := AVal) (AVal.aggCells (x87.2.1.getD 0 .undef))) then (((rdL (splice (AVal.aggCells (x87.2.1.getD 0 .undef)) (0) c90) (0) 13).bind fun cs => fromCells true cs).bind fun v => (some []).bind fun vs => some (v :: vs)).bind fun vs => some (0, [oneOr vs], x87.2.2) else none else
 none else none
theorem run29 (call : Go.Fw.Call) (a0 : AVal) (h : Heap) : runFn call (.code A29) [a0] h = (S29 call a0 h).bind ansOf := by kernel_rfl

/-- (*frankpledge/pack.Reader).Done -/
noncomputable def A30 : AFunc := ⟨1, (.seq (.region [.op 0 (.mov 2 (.const (.bool false)))] [])
 (.seq (.region [.op 0 (.mov 3 (.tmp 0)),
 .op 1 (.nilchk 4 (.tmp 3)),
 .op 2 (.faddr 5 1 (.tmp 4)),
 .op 3 (.load 6 false 1 (.tmp 5)),
 .op 4 (.un 7 .not (.tmp 6)),
 .op 5 (.mov 8 (.tmp 7)),
 .guard 8 true [.op 6 (.mov 9 (.tmp 0)),
 .op 7 (.nilchk 10 (.tmp 9)),
 .op 8 (.faddr 11 0 (.tmp 10)),
 .op 9 (.load 12 false 1 (.tmp 11)),
 .op 10 (.len 13 false (.tmp 12)),
 .op 11 (.bin 14 .eql .plain (.tmp 13) (.const (.int .i64 0)))] [] [14],
 .op 12 (.pick 15 (.tmp 8) (.tmp 14) (.const (.bool false))),
 .op 13 (.mov 2 (.tmp 15))] [])
 .ret)),
 [.tmp 2]⟩
theorem ok30 : funcOk Tryd.prog (drawOk Tryd.prog) Tryd.f30 A30 = true := by kernel_rfl
noncomputable def S30 (call : Go.Fw.Call) (a0 : AVal) (h : Heap) : Option J :=
 (aNilchk a0).bind fun v1 =>
 (aFaddr 1 v1).bind fun v2 =>
 (aLoad h 1 v2).bind fun c3 =>
 (fromCells false c3).bind fun v4 =>
 (aUn .not v4).bind fun v5 =>
 (guardV v5 true
 ((aNilchk a0).bind fun v6 =>
 (aFaddr 0 v6).bind fun v7 =>
 (aLoad h 1 v7).bind fun c8 =>
 (fromCells false c8).bind fun v9 =>
 (aLen false v9).bind fun v10 =>
 (aBin .eql .plain v10 (.int .i64 0)).bind fun v11 =>
 some (0, [v11], h))
 (some (0, [skipV], h))).bind fun g12 =>
 (aPick v5 (g12.2.1.getD 0 .undef) (.bool false)).bind fun v13 =>
 some (0, [v13], g12.2.2)
theorem run30 (call : Go.Fw.Call) (a0 : AVal) (h : Heap) : runFn call (.code A30) [a0] h = (S30 call a0 h).bind ansOf := by kernel_rfl

/-- frankpledge/fault.New -/
noncomputable def A31 : AFunc := ⟨2, (.seq (.region [.op 0 (.mov 4 (.const (.nilIface)))] [])
 (.seq (.seq (.region [.op 0 (.mov 5 (.tmp 1)),
 .op 1 (.bin 6 .eql .plain (.tmp 5) (.const (.int .i64 0)))] [])
 (.cond (.tmp 6)
 (.seq (.region [.op 0 (.mov 4 (.const (.nilIface)))] [])
 .ret)
 .skip))
 (.seq (.region [.op 0 (.mov 7 (.tmp 0)),
 .op 1 (.mov 8 (.tmp 1)),
 .op 2 (.mkIface 9 43 (.tmp 8)),
 .op 3 (.build 10 [.str [], .nilIface] [(0, 1, .tmp 7), (1, 1, .tmp 9)]),
 .op 4 (.box 11 false (.tmp 10)),
 .op 5 (.mkIface 12 86 (.tmp 11)),
 .op 6 (.mov 4 (.tmp 12))] [])
 .ret))),
 [.tmp 4]⟩
theorem ok31 : funcOk Tryd.prog (drawOk Tryd.prog) Tryd.f31 A31 = true := by kernel_rfl
noncomputable def S31 (call : Go.Fw.Call) (a0 a1 : AVal) (h : Heap) : Option J :=
 (aBin .eql .plain a1 (.int .i64 0)).bind fun v1 =>
 condV v1
 (some (0, [(.nilIface)], h))
 ((aFill [.str [], .nilIface] [(0, 1, a0), (1, 1, (.iface 43 a1))]).bind fun c2 =>
 (AVal.cells? (.agg c2)).bind fun c3 =>
 some (0, [(.iface 86 (.ptr h.next 0))], (h.alloc c3)))
theorem run31 (call : Go.Fw.Call) (a0 a1 : AVal) (h : Heap) : runFn call (.code A31) [a0, a1] h = (S31 call a0 a1 h).bind ansOf := by kernel_rfl

/-- frankpledge/frankpledgeref5.Same -/
noncomputable def A32 : AFunc := ⟨2, (.seq (.region [.op 0 (.mov 4 (.const (.bool false)))] [])
 (.seq (.seq (.region [.op 0 (.mov 6 (.tmp 0)),
 .op 1 (.len 7 false (.tmp 6)),
 .op 2 (.mov 8 (.tmp 1)),
 .op 3 (.len 9 false (.tmp 8)),
 .op 4 (.bin 10 .neq .plain (.tmp 7) (.tmp 9))] [])
 (.cond (.tmp 10)
 (.seq (.region [.op 0 (.mov 4 (.const (.bool false)))] [])
 .ret)
 .skip))
 (.seq (.seq (.region [.op 0 (.mov 11 (.tmp 0)),
 .op 1 (.len 12 false (.tmp 11)),
 .op 2 (.mov 13 (.const (.int .i64 0)))] [])
 (.block 0 (.loop ⟨[0, 1, 12, 13], []⟩ [((.exit 0), ⟨[], []⟩), (.ret, ⟨[4], []⟩)]
 (.seq (.region [.op 0 (.bin 14 .lss .plain (.tmp 13) (.tmp 12))] [])
 (.seq (.cond (.tmp 14)
 .skip
 (.exit 0))
 (.seq (.block 1 (.seq (.region [.op 0 (.mov 15 (.tmp 13)),
 .op 1 (.mov 5 (.tmp 15))] [])
 (.seq (.region [.op 0 (.mov 16 (.tmp 0)),
 .op 1 (.mov 17 (.tmp 5)),
 .op 2 (.iaddr 18 none 9 (.tmp 16) (.tmp 17)),
 .op 3 (.load 19 true 9 (.tmp 18)),
 .op 4 (.mov 20 (.tmp 1)),
 .op 5 (.mov 21 (.tmp 5)),
 .op 6 (.iaddr 22 none 9 (.tmp 20) (.tmp 21)),
 .op 7 (.load 23 true 9 (.tmp 22)),
 .op 8 (.bin 24 .neq (.cells [2, 2, 1, 1, 1, 1, 1, 1, 0]) (.tmp 19) (.tmp 23))] [])
 (.cond (.tmp 24)
 (.seq (.region [.op 0 (.mov 4 (.const (.bool false)))] [])
 .ret)
 .skip))))
 (.region [.op 0 (.bin 25 .add .plain (.tmp 13) (.const (.int .i64 1))),
 .op 1 (.mov 13 (.tmp 25))] [])))))))
 (.seq (.region [.op 0 (.mov 4 (.const (.bool true)))] [])
 .ret)))),
 [.tmp 4]⟩
theorem ok32 : funcOk Tryd.prog (drawOk Tryd.prog) Tryd.f32 A32 = true := by kernel_rfl
/-- xs: t0, t1, t12, t13 -/
noncomputable def L32_0 (call : Go.Fw.Call) (xs : List AVal) (h : Heap) : Option J :=
 (aBin .lss .plain (xs.getD 3 .undef) (xs.getD 2 .undef)).bind fun v5 =>
 condV v5
 ((aIaddr 9 (xs.getD 0 .undef) (xs.getD 3 .undef)).bind fun v6 =>
 (aLoad h 9 v6).bind fun c7 =>
 (fromCells true c7).bind fun v8 =>
 (aIaddr 9 (xs.getD 1 .undef) (xs.getD 3 .undef)).bind fun v9 =>
 (aLoad h 9 v9).bind fun c10 =>
 (fromCells true c10).bind fun v11 =>
 (aBin .neq (.cells [2, 2, 1, 1, 1, 1, 1, 1, 0]) v8 v11).bind fun v12 =>
 condV v12
 (some (2, [(.bool false)], h))
 ((aBin .add .plain (xs.getD 3 .undef) (.int .i64 1)).bind fun v13 =>
 some (0, [(xs.getD 0 .undef), (xs.getD 1 .undef), (xs.getD 2 .undef), v13], h)))
 (some (1, [], h))
noncomputable def S32 (call : Go.Fw.Call) (a0 a1 : AVal) (h : Heap) : Option J :=
 (aLen false a0).bind fun v1 =>
 (aLen false a1).bind fun v2 =>
 (aBin .neq .plain v1 v2).bind fun v3 =>
 condV v3
 (some (0, [(.bool false)], h))
 ((aLen false a0).bind fun v4 =>
 (loop (L32_0 call) [a0, a1, v4, (.int .i64 0)] h).bind fun x14 =>
 bif Nat.beq x14.1 1 then some (0, [(.bool true)], x14.2.2) else
 bif Nat.beq x14.1 2 then some (0, [(x14.2.1.getD 0 .undef)], x14.2.2) else
 none)
theorem run32 (call : Go.Fw.Call) (a0 a1 : AVal) (h : Heap) : runFn call (.code A32) [a0, a1] h = (S32 call a0 a1 h).bind ansOf := by kernel_rfl

/-- frankpledge/frankpledgeref5.Keys -/
noncomputable def A33 : AFunc := ⟨2, (.seq (.region [.op 0 (.mov 4 (.const (.bool false)))] [])
 (.seq (.seq (.region [.op 0 (.mov 6 (.tmp 0)),
 .op 1 (.len 7 false (.tmp 6)),
 .op 2 (.mov 8 (.tmp 1)),
 .op 3 (.len 9 false (.tmp 8)),
 .op 4 (.bin 10 .neq .plain (.tmp 7) (.tmp 9))] [])
 (.cond (.tmp 10)
 (.seq (.region [.op 0 (.mov 4 (.const (.bool false)))] [])
 .ret)
 .skip))
 (.seq (.seq (.region [.op 0 (.mov 11 (.tmp 0)),
 .op 1 (.len 12 false (.tmp 11)),
 .op 2 (.mov 13 (.const (.int .i64 0)))] [])
 (.block 0 (.loop ⟨[0, 1, 12, 13], []⟩ [((.exit 0), ⟨[], []⟩), (.ret, ⟨[4], []⟩)]
 (.seq (.region [.op 0 (.bin 14 .lss .plain (.tmp 13) (.tmp 12))] [])
 (.seq (.cond (.tmp 14)
 .skip
 (.exit 0))
 (.seq (.block 1 (.seq (.region [.op 0 (.mov 15 (.tmp 13)),
 .op 1 (.mov 5 (.tmp 15))] [])
 (.seq (.region [.op 0 (.mov 16 (.tmp 0)),
 .op 1 (.mov 17 (.tmp 5)),
 .op 2 (.iaddr 18 none 2 (.tmp 16) (.tmp 17)),
 .op 3 (.load 19 true 2 (.tmp 18)),
 .op 4 (.mov 20 (.tmp 1)),
 .op 5 (.mov 21 (.tmp 5)),
 .op 6 (.iaddr 22 none 2 (.tmp 20) (.tmp 21)),
 .op 7 (.load 23 true 2 (.tmp 22)),
 .op 8 (.bin 24 .neq (.cells [2, 2]) (.tmp 19) (.tmp 23))] [])
 (.cond (.tmp 24)
 (.seq (.region [.op 0 (.mov 4 (.const (.bool false)))] [])
 .ret)
 .skip))))
 (.region [.op 0 (.bin 25 .add .plain (.tmp 13) (.const (.int .i64 1))),
 .op 1 (.mov 13 (.tmp 25))] [])))))))
 (.seq (.region [.op 0 (.mov 4 (.const (.bool true)))] [])
 .ret)))),
 [.tmp 4]⟩
theorem ok33 : funcOk Tryd.prog (drawOk Tryd.prog) Tryd.f33 A33 = true := by kernel_rfl
/-- xs: t0, t1, t12, t13 -/
noncomputable def L33_0 (call : Go.Fw.Call) (xs : List AVal) (h : Heap) : Option J :=
 (aBin .lss .plain (xs.getD 3 .undef) (xs.getD 2 .undef)).bind fun v5 =>
 condV v5
 ((aIaddr 2 (xs.getD 0 .undef) (xs.getD 3 .undef)).bind fun v6 =>
 (aLoad h 2 v6).bind fun c7 =>
 (fromCells true c7).bind fun v8 =>
 (aIaddr 2 (xs.getD 1 .undef) (xs.getD 3 .undef)).bind fun v9 =>
 (aLoad h 2 v9).bind fun c10 =>
 (fromCells true c10).bind fun v11 =>
 (aBin .neq (.cells [2, 2]) v8 v11).bind fun v12 =>
 condV v12
 (some (2, [(.bool false)], h))
 ((aBin .add .plain (xs.getD 3 .undef) (.int .i64 1)).bind fun v13 =>
 some (0, [(xs.getD 0 .undef), (xs.getD 1 .undef), (xs.getD 2 .undef), v13], h)))
 (some (1, [], h))
noncomputable def S33 (call : Go.Fw.Call) (a0 a1 : AVal) (h : Heap) : Option J :=
 (aLen false a0).bind fun v1 =>
 (aLen false a1).bind fun v2 =>
 (aBin .neq .plain v1 v2).bind fun v3 =>
 condV v3
 (some (0, [(.bool false)], h))
 ((aLen false a0).bind fun v4 =>
 (loop (L33_0 call) [a0, a1, v4, (.int .i64 0)] h).bind fun x14 =>
 bif Nat.beq x14.1 1 then some (0, [(.bool true)], x14.2.2) else
 bif Nat.beq x14.1 2 then some (0, [(x14.2.1.getD 0 .undef)], x14.2.2) else
 none)
theorem run33 (call : Go.Fw.Call) (a0 a1 : AVal) (h : Heap) : runFn call (.code A33) [a0, a1] h = (S33 call a0 a1 h).bind ansOf := by kernel_rfl

/-- errors.As -/
noncomputable def A34 : AFunc := ⟨2, (.seq (.region [.op 0 (.mov 4 (.const (.bool false)))] [])
 (.seq (.seq (.region [.op 0 (.mov 8 (.tmp 0)),
 .op 1 (.bin 9 .eql (.iface true []) (.tmp 8) (.const (.nilIface)))] [])
 (.cond (.tmp 9)
 (.seq (.region [.op 0 (.mov 4 (.const (.bool false)))] [])
 .ret)
 .skip))
 (.seq (.seq (.region [.op 0 (.mov 10 (.tmp 1)),
 .op 1 (.bin 11 .eql (.iface true []) (.tmp 10) (.const (.nilIface)))] [])
 (.cond (.tmp 11)
 .dead
 .skip))
 (.seq (.region [.op 0 (.mov 13 (.tmp 1)),
 .op 1 (.call 14 58 [.tmp 13]),
 .op 2 (.alloc 5 true [.nilPtr, .nilPtr, .int .u64 0]),
 .op 3 (.store true 3 (.tmp 5) (.tmp 14))] [])
 (.seq (.region [.op 0 (.load 15 true 3 (.tmp 5)),
 .op 1 (.call 16 59 [.tmp 15]),
 .op 2 (.mov 6 (.tmp 16))] [])
 (.seq (.seq (.region [.op 0 (.mov 17 (.tmp 6)),
 .op 1 (.invoke 18 [(17, 86, none), (117, 86, some (0, 1, false)), (118, 86, some (0, 1, false))] (.tmp 17) []),
 .op 2 (.bin 19 .neq .plain (.tmp 18) (.const (.int .u8 22))),
 .op 3 (.mov 20 (.tmp 19)),
 .guard 20 false [.op 4 (.load 21 true 3 (.tmp 5)),
 .op 5 (.call 22 60 [.tmp 21])] [] [22],
 .op 6 (.pick 23 (.tmp 20) (.const (.bool true)) (.tmp 22))] [])
 (.cond (.tmp 23)
 .dead
 .skip))
 (.seq (.region [.op 0 (.mov 25 (.tmp 6)),
 .op 1 (.invoke 26 [(100, 70, none), (118, 99, none)] (.tmp 25) []),
 .op 2 (.mov 7 (.tmp 26))] [])
 (.seq (.seq (.region [.op 0 (.mov 27 (.tmp 7)),
 .op 1 (.invoke 28 [(17, 86, none), (117, 86, some (0, 1, false)), (118, 86, some (0, 1, false))] (.tmp 27) []),
 .op 2 (.bin 29 .neq .plain (.tmp 28) (.const (.int .u8 20))),
 .op 3 (.mov 30 (.tmp 29)),
 .guard 30 true [.op 4 (.mov 31 (.tmp 7)),
 .op 5 (.load 32 false 1 (.const (.ptr 0 0))),
 .op 6 (.invoke 33 [(118, 100, none)] (.tmp 31) [.tmp 32]),
 .op 7 (.un 34 .not (.tmp 33))] [] [34],
 .op 8 (.pick 35 (.tmp 30) (.tmp 34) (.const (.bool false)))] [])
 (.cond (.tmp 35)
 .dead
 .skip))
 (.seq (.region [.op 0 (.mov 37 (.tmp 0)),
 .op 1 (.mov 38 (.tmp 1)),
 .op 2 (.load 39 true 3 (.tmp 5)),
 .op 3 (.mov 40 (.tmp 7)),
 .op 4 (.call 41 61 [.tmp 37, .tmp 38, .tmp 39, .tmp 40]),
 .op 5 (.mov 4 (.tmp 41))] [])
 .ret))))))))),
 [.tmp 4]⟩
theorem ok34 : funcOk Tryd.prog (drawOk Tryd.prog) Tryd.f34 A34 = true := by kernel_rfl
noncomputable def S34 (call : Go.Fw.Call) (a0 a1 : AVal) (h : Heap) : Option J :=
 (aBin .eql (.iface true []) a0 (.nilIface)).bind fun v1 =>
 condV v1
 (some (0, [(.bool false)], h))
 ((aBin .eql (.iface true []) a1 (.nilIface)).bind fun v2 =>
 condV v2
 (none)
 ((call 58 [a1] h).bind fun r3 =>
 (aCells 3 r3.1).bind fun c4 =>
 bif Nat.ble ((0) + 3) (List.length (α := AVal) [.nilPtr, .nilPtr, .int .u64 0]) then (rdL (splice [.nilPtr, .nilPtr, .int .u64 0] (0) c4) 0 3).bind fun c5 =>
 (fromCells true c5).bind fun v6 =>
 (call 59 [v6] r3.2).bind fun r7 =>
 (aMeth [(17, 86, none), (117, 86, some (0, 1, false)), (118, 86, some (0, 1, false))] r7.1).bind fun q8 =>
 (call q8.1 (q8.2 :: []) r7.2).bind fun r9 =>
 (aBin .neq .plain r9.1 (.int .u8 22)).bind fun v10 =>
 (guardV v10 false
 ((rdL (splice [.nilPtr, .nilPtr, .int .u64 0] (0) c4) 0 3).bind fun c11 =>
 (fromCells true c11).bind fun v12 =>
 (call 60 [v12] r9.2).bind fun r13 =>
 some (0, [r13.1], r13.2))
 (some (0, [skipV], r9.2))).bind fun g14 =>
 (aPick v10 (.bool true) (g14.2.1.getD 0 .undef)).bind fun v15 =>
 condV v15
 (none)
 ((aMeth [(100, 70, none), (118, 99, none)] r7.1).bind fun q16 =>
 (call q16.1 (q16.2 :: []) g14.2.2).bind fun r17 =>
 (aMeth [(17, 86, none), (117, 86, some (0, 1, false)), (118, 86, some (0, 1, false))] r17.1).bind fun q18 =>
 (call q18.1 (q18.2 :: []) r17.2).bind fun r19 =>
 (aBin .neq .plain r19.1 (.int .u8 20)).bind fun v20 =>
 (guardV v20 true
 ((aLoad r19.2 1 (.ptr 0 0)).bind fun c21 =>
 (fromCells false c21).bind fun v22 =>
 (aMeth [(118, 100, none)] r17.1).bind fun q23 =>
 (call q23.1 (q23.2 :: [v22]) r19.2).bind fun r24 =>
 (aUn .not r24.1).bind fun v25 =>
 some (0, [v25], r24.2))
 (some (0, [skipV], r19.2))).bind fun g26 =>
 (aPick v20 (g26.2.1.getD 0 .undef) (.bool false)).bind fun v27 =>
 condV v27
 (none)
 ((rdL (splice [.nilPtr, .nilPtr, .int .u64 0] (0) c4) 0 3).bind fun c28 =>
 (fromCells true c28).bind fun v29 =>
 (call 61 [a0, a1, v29, r17.1] g26.2.2).bind fun r30 =>
 some (0, [r30.1], r30.2))) else none))
theorem run34 (call : Go.Fw.Call) (a0 a1 : AVal) (h : Heap) : runFn call (.code A34) [a0, a1] h = (S34 call a0 a1 h).bind ansOf := by kernel_rfl

/-- (*frankpledge/frankpledgekeep.Tape).Stamp -/
noncomputable def A35 : AFunc := ⟨1, (.seq (.region [.op 0 (.alloc 2 true [.int .i64 0, .int .i64 0, .int .i64 0])] [])
 (.seq (.region [.op 0 (.mov 3 (.tmp 0)),
 .op 1 (.call 4 17 [.tmp 3, .const (.int .i64 40)]),
 .op 2 (.mov 5 (.tmp 0)),
 .op 3 (.call 6 17 [.tmp 5, .const (.int .i64 6)]),
 .op 4 (.mov 7 (.tmp 0)),
 .op 5 (.call 8 17 [.tmp 7, .const (.int .i64 9)]),
 .op 6 (.build 9 [.int .i64 0, .int .i64 0, .int .i64 0] [(0, 1, .tmp 4), (1, 1, .tmp 6), (2, 1, .tmp 8)]),
 .op 7 (.store true 3 (.tmp 2) (.tmp 9))] [])
 .ret)),
 [.cell 2 true 3]⟩
theorem ok35 : funcOk Tryd.prog (drawOk Tryd.prog) Tryd.f35 A35 = true := by kernel_rfl
noncomputable def S35 (call : Go.Fw.Call) (a0 : AVal) (h : Heap) : Option J :=
 (call 17 [a0, (.int .i64 40)] h).bind fun r1 =>
 (call 17 [a0, (.int .i64 6)] r1.2).bind fun r2 =>
 (call 17 [a0, (.int .i64 9)] r2.2).bind fun r3 =>
 (aFill [.int .i64 0, .int .i64 0, .int .i64 0] [(0, 1, r1.1), (1, 1, r2.1), (2, 1, r3.1)]).bind fun c4 =>
 (aCells 3 (.agg c4)).bind fun c5 =>
 bif Nat.ble ((0) + 3) (List.length (α := AVal) [.int .i64 0, .int .i64 0, .int .i64 0]) then (((rdL (splice [.int .i64 0, .int .i64 0, .int .i64 0] (0) c5) (0) 3).bind fun cs => fromCells true cs).bind fun v => (some []).bind fun vs => some (v :: vs)).bind fun vs => some (0, [oneOr vs], r3.2) else none
theorem run35 (call : Go.Fw.Call) (a0 : AVal) (h : Heap) : runFn call (.code A35) [a0] h = (S35 call a0 h).bind ansOf := by kernel_rfl

/-- frankpledge/frankpledgebook.Same[string] -/
noncomputable def A36 : AFunc := ⟨2, (.seq (.region [.op 0 (.mov 4 (.const (.bool false)))] [])
 (.seq (.seq (.region [.op 0 (.mov 6 (.tmp 0)),
 .op 1 (.len 7 false (.tmp 6)),
 .op 2 (.mov 8 (.tmp 1)),
 .op 3 (.len 9 false (.tmp 8)),
 .op 4 (.bin 10 .neq .plain (.tmp 7) (.tmp 9))] [])
 (.cond (.tmp 10)
 (.seq (.region [.op 0 (.mov 4 (.const (.bool false)))] [])
 .ret)
 .skip))
 (.seq (.seq (.region [.op 0 (.mov 5 (.const (.int .i64 0)))] [])
 (.block 0 (.loop ⟨[0, 1, 5], []⟩ [((.exit 0), ⟨[], []⟩), (.ret, ⟨[4], []⟩)]
 (.seq (.seq (.region [.op 0 (.mov 11 (.tmp 5)),
 .op 1 (.mov 12 (.tmp 0)),
 .op 2 (.len 13 false (.tmp 12)),
 .op 3 (.bin 14 .lss .plain (.tmp 11) (.tmp 13))] [])
 (.cond (.tmp 14)
 .skip
 (.exit 0)))
 (.seq (.block 1 (.seq (.region [.op 0 (.mov 17 (.tmp 0)),
 .op 1 (.mov 18 (.tmp 5)),
 .op 2 (.iaddr 19 none 1 (.tmp 17) (.tmp 18)),
 .op 3 (.load 20 false 1 (.tmp 19)),
 .op 4 (.mov 21 (.tmp 1)),
 .op 5 (.mov 22 (.tmp 5)),
 .op 6 (.iaddr 23 none 1 (.tmp 21) (.tmp 22)),
 .op 7 (.load 24 false 1 (.tmp 23)),
 .op 8 (.bin 25 .neq .plain (.tmp 20) (.tmp 24))] [])
 (.cond (.tmp 25)
 (.seq (.region [.op 0 (.mov 4 (.const (.bool false)))] [])
 .ret)
 .skip)))
 (.region [.op 0 (.mov 15 (.tmp 5)),
 .op 1 (.bin 16 .add .plain (.tmp 15) (.const (.int .i64 1))),
 .op 2 (.mov 5 (.tmp 16))] []))))))
 (.seq (.region [.op 0 (.mov 4 (.const (.bool true)))] [])
 .ret)))),
 [.tmp 4]⟩
theorem ok36 : funcOk Tryd.prog (drawOk Tryd.prog) Tryd.f36 A36 = true := by kernel_rfl
/-- xs: t0, t1, t5 -/
noncomputable def L36_0 (call : Go.Fw.Call) (xs : List AVal) (h : Heap) : Option J :=
 (aLen false (xs.getD 0 .undef)).bind fun v4 =>
 (aBin .lss .plain (xs.getD 2 .undef) v4).bind fun v5 =>
 condV v5
 ((aIaddr 1 (xs.getD 0 .undef) (xs.getD 2 .undef)).bind fun v6 =>
 (aLoad h 1 v6).bind fun c7 =>
 (fromCells false c7).bind fun v8 =>
 (aIaddr 1 (xs.getD 1 .undef) (xs.getD 2 .undef)).bind fun v9 =>
 (aLoad h 1 v9).bind fun c10 =>
 (fromCells false c10).bind fun v11 =>
 (aBin .neq .plain v8 v11).bind fun v12 =>
 condV v12
 (some (2, [(.bool false)], h))
 ((aBin .add .plain (xs.getD 2 .undef) (.int .i64 1)).bind fun v13 =>
 some (0, [(xs.getD 0 .undef), (xs.getD 1 .undef), v13], h)))
 (some (1, [], h))
noncomputable def S36 (call : Go.Fw.Call) (a0 a1 : AVal) (h : Heap) : Option J :=
 (aLen false a0).bind fun v1 =>
 (aLen false a1).bind fun v2 =>
 (aBin .neq .plain v1 v2).bind fun v3 =>
 condV v3
 (some (0, [(.bool false)], h))
 ((loop (L36_0 call) [a0, a1, (.int .i64 0)] h).bind fun x14 =>
 bif Nat.beq x14.1 1 then some (0, [(.bool true)], x14.2.2) else
 bif Nat.beq x14.1 2 then some (0, [(x14.2.1.getD 0 .undef)], x14.2.2) else
 none)
theorem run36 (call : Go.Fw.Call) (a0 a1 : AVal) (h : Heap) : runFn call (.code A36) [a0, a1] h = (S36 call a0 a1 h).bind ansOf := by kernel_rfl

/-- frankpledge/fault.Path -/
noncomputable def A37 : AFunc := ⟨1, (.seq (.region [.op 0 (.mov 2 (.const (.nilSlice)))] [])
 (.seq (.region [.op 0 (.mov 3 (.const (.nilSlice)))] [])
 (.seq (.region [.op 0 (.alloc 4 false [.nilPtr])] [])
 (.seq (.block 0 (.loop ⟨[0, 3, 4], []⟩ [((.exit 0), ⟨[3], []⟩)]
 (.seq (.seq (.region [.op 0 (.mov 5 (.tmp 0)),
 .op 1 (.mkIface 6 109 (.tmp 4)),
 .op 2 (.call 7 34 [.tmp 5, .tmp 6])] [])
 (.cond (.tmp 7)
 .skip
 (.exit 0)))
 (.block 1 (.seq (.region [.op 0 (.mov 8 (.tmp 3)),
 .op 1 (.load 9 false 1 (.tmp 4)),
 .op 2 (.nilchk 10 (.tmp 9)),
 .op 3 (.faddr 11 0 (.tmp 10)),
 .op 4 (.load 12 false 1 (.tmp 11)),
 .op 5 (.buildSl 13 [.str []] 1 1 [(0, .tmp 12)]),
 .op 6 (.append 14 1 16 [.str []] false (.tmp 8) (.tmp 13)),
 .op 7 (.mov 3 (.tmp 14))] [])
 (.region [.op 0 (.load 15 false 1 (.tmp 4)),
 .op 1 (.nilchk 16 (.tmp 15)),
 .op 2 (.faddr 17 1 (.tmp 16)),
 .op 3 (.load 18 false 1 (.tmp 17)),
 .op 4 (.mov 0 (.tmp 18))] []))))))
 (.seq (.region [.op 0 (.mov 19 (.tmp 3)),
 .op 1 (.mov 2 (.tmp 19))] [])
 .ret))))),
 [.tmp 2]⟩
theorem ok37 : funcOk Tryd.prog (drawOk Tryd.prog) Tryd.f37 A37 = true := by kernel_rfl
/-- xs: t0, t3, t4 -/
noncomputable def L37_0 (call : Go.Fw.Call) (xs : List AVal) (h : Heap) : Option J :=
 (call 34 [(xs.getD 0 .undef), (.iface 109 (xs.getD 2 .undef))] h).bind fun r1 =>
 condV r1.1
 ((aLoad r1.2 1 (xs.getD 2 .undef)).bind fun c2 =>
 (fromCells false c2).bind fun v3 =>
 (aNilchk v3).bind fun v4 =>
 (aFaddr 0 v4).bind fun v5 =>
 (aLoad r1.2 1 v5).bind fun c6 =>
 (fromCells false c6).bind fun v7 =>
 (aFill (reps [.str []] 1) [(0, 1, v7)]).bind fun c8 =>
 (aAppend 1 16 [.str []] false (xs.getD 1 .undef) (.slice r1.2.next 0 1 1 1 true) (r1.2.alloc c8)).bind fun r9 =>
 (aLoad r9.2 1 (xs.getD 2 .undef)).bind fun c10 =>
 (fromCells false c10).bind fun v11 =>
 (aNilchk v11).bind fun v12 =>
 (aFaddr 1 v12).bind fun v13 =>
 (aLoad r9.2 1 v13).bind fun c14 =>
 (fromCells false c14).bind fun v15 =>
 some (0, [v15, r9.1, (xs.getD 2 .undef)], r9.2))
 (some (1, [(xs.getD 1 .undef)], r1.2))
noncomputable def S37 (call : Go.Fw.Call) (a0 : AVal) (h : Heap) : Option J :=
 (loop (L37_0 call) [a0, (.nilSlice), (.ptr h.next 0)] (h.alloc [.nilPtr])).bind fun x16 =>
 bif Nat.beq x16.1 1 then some (0, [(x16.2.1.getD 0 .undef)], x16.2.2) else
 none
theorem run37 (call : Go.Fw.Call) (a0 : AVal) (h : Heap) : runFn call (.code A37) [a0] h = (S37 call a0 h).bind ansOf := by kernel_rfl

/-- slices.Equal[[]frankpledge/api.Card,frankpledge/api.Card] -/
noncomputable def A38 : AFunc := ⟨2, (.seq (.region [.op 0 (.mov 4 (.const (.bool false)))] [])
 (.seq (.seq (.region [.op 0 (.mov 6 (.tmp 0)),
 .op 1 (.len 7 false (.tmp 6)),
 .op 2 (.mov 8 (.tmp 1)),
 .op 3 (.len 9 false (.tmp 8)),
 .op 4 (.bin 10 .neq .plain (.tmp 7) (.tmp 9))] [])
 (.cond (.tmp 10)
 (.seq (.region [.op 0 (.mov 4 (.const (.bool false)))] [])
 .ret)
 .skip))
 (.seq (.seq (.region [.op 0 (.mov 11 (.tmp 0)),
 .op 1 (.len 12 false (.tmp 11)),
 .op 2 (.mov 13 (.const (.int .i64 0)))] [])
 (.block 0 (.loop ⟨[0, 1, 12, 13], []⟩ [((.exit 0), ⟨[], []⟩), (.ret, ⟨[4], []⟩)]
 (.seq (.region [.op 0 (.bin 14 .lss .plain (.tmp 13) (.tmp 12))] [])
 (.seq (.cond (.tmp 14)
 .skip
 (.exit 0))
 (.seq (.block 1 (.seq (.region [.op 0 (.mov 15 (.tmp 13)),
 .op 1 (.mov 5 (.tmp 15))] [])
 (.seq (.region [.op 0 (.mov 16 (.tmp 0)),
 .op 1 (.mov 17 (.tmp 5)),
 .op 2 (.iaddr 18 none 9 (.tmp 16) (.tmp 17)),
 .op 3 (.load 19 true 9 (.tmp 18)),
 .op 4 (.mov 20 (.tmp 1)),
 .op 5 (.mov 21 (.tmp 5)),
 .op 6 (.iaddr 22 none 9 (.tmp 20) (.tmp 21)),
 .op 7 (.load 23 true 9 (.tmp 22)),
 .op 8 (.bin 24 .neq (.cells [2, 2, 1, 1, 1, 1, 1, 1, 0]) (.tmp 19) (.tmp 23))] [])
 (.cond (.tmp 24)
 (.seq (.region [.op 0 (.mov 4 (.const (.bool false)))] [])
 .ret)
 .skip))))
 (.region [.op 0 (.bin 25 .add .plain (.tmp 13) (.const (.int .i64 1))),
 .op 1 (.mov 13 (.tmp 25))] [])))))))
 (.seq (.region [.op 0 (.mov 4 (.const (.bool true)))] [])
 .ret)))),
 [.tmp 4]⟩
theorem ok38 : funcOk Tryd.prog (drawOk Tryd.prog) Tryd.f38 A38 = true := by kernel_rfl
/-- xs: t0, t1, t12, t13 -/
noncomputable def L38_0 (call : Go.Fw.Call) (xs : List AVal) (h : Heap) : Option J :=
 (aBin .lss .plain (xs.getD 3 .undef) (xs.getD 2 .undef)).bind fun v5 =>
 condV v5
 ((aIaddr 9 (xs.getD 0 .undef) (xs.getD 3 .undef)).bind fun v6 =>
 (aLoad h 9 v6).bind fun c7 =>
 (fromCells true c7).bind fun v8 =>
 (aIaddr 9 (xs.getD 1 .undef) (xs.getD 3 .undef)).bind fun v9 =>
 (aLoad h 9 v9).bind fun c10 =>
 (fromCells true c10).bind fun v11 =>
 (aBin .neq (.cells [2, 2, 1, 1, 1, 1, 1, 1, 0]) v8 v11).bind fun v12 =>
 condV v12
 (some (2, [(.bool false)], h))
 ((aBin .add .plain (xs.getD 3 .undef) (.int .i64 1)).bind fun v13 =>
 some (0, [(xs.getD 0 .undef), (xs.getD 1 .undef), (xs.getD 2 .undef), v13], h)))
 (some (1, [], h))
noncomputable def S38 (call : Go.Fw.Call) (a0 a1 : AVal) (h : Heap) : Option J :=
 (aLen false a0).bind fun v1 =>
 (aLen false a1).bind fun v2 =>
 (aBin .neq .plain v1 v2).bind fun v3 =>
 condV v3
 (some (0, [(.bool false)], h))
 ((aLen false a0).bind fun v4 =>
 (loop (L38_0 call) [a0, a1, v4, (.int .i64 0)] h).bind fun x14 =>
 bif Nat.beq x14.1 1 then some (0, [(.bool true)], x14.2.2) else
 bif Nat.beq x14.1 2 then some (0, [(x14.2.1.getD 0 .undef)], x14.2.2) else
 none)
theorem run38 (call : Go.Fw.Call) (a0 a1 : AVal) (h : Heap) : runFn call (.code A38) [a0, a1] h = (S38 call a0 a1 h).bind ansOf := by kernel_rfl

/-- slices.Equal[[]frankpledge/api.Key,frankpledge/api.Key] -/
noncomputable def A39 : AFunc := ⟨2, (.seq (.region [.op 0 (.mov 4 (.const (.bool false)))] [])
 (.seq (.seq (.region [.op 0 (.mov 6 (.tmp 0)),
 .op 1 (.len 7 false (.tmp 6)),
 .op 2 (.mov 8 (.tmp 1)),
 .op 3 (.len 9 false (.tmp 8)),
 .op 4 (.bin 10 .neq .plain (.tmp 7) (.tmp 9))] [])
 (.cond (.tmp 10)
 (.seq (.region [.op 0 (.mov 4 (.const (.bool false)))] [])
 .ret)
 .skip))
 (.seq (.seq (.region [.op 0 (.mov 11 (.tmp 0)),
 .op 1 (.len 12 false (.tmp 11)),
 .op 2 (.mov 13 (.const (.int .i64 0)))] [])
 (.block 0 (.loop ⟨[0, 1, 12, 13], []⟩ [((.exit 0), ⟨[], []⟩), (.ret, ⟨[4], []⟩)]
 (.seq (.region [.op 0 (.bin 14 .lss .plain (.tmp 13) (.tmp 12))] [])
 (.seq (.cond (.tmp 14)
 .skip
 (.exit 0))
 (.seq (.block 1 (.seq (.region [.op 0 (.mov 15 (.tmp 13)),
 .op 1 (.mov 5 (.tmp 15))] [])
 (.seq (.region [.op 0 (.mov 16 (.tmp 0)),
 .op 1 (.mov 17 (.tmp 5)),
 .op 2 (.iaddr 18 none 2 (.tmp 16) (.tmp 17)),
 .op 3 (.load 19 true 2 (.tmp 18)),
 .op 4 (.mov 20 (.tmp 1)),
 .op 5 (.mov 21 (.tmp 5)),
 .op 6 (.iaddr 22 none 2 (.tmp 20) (.tmp 21)),
 .op 7 (.load 23 true 2 (.tmp 22)),
 .op 8 (.bin 24 .neq (.cells [2, 2]) (.tmp 19) (.tmp 23))] [])
 (.cond (.tmp 24)
 (.seq (.region [.op 0 (.mov 4 (.const (.bool false)))] [])
 .ret)
 .skip))))
 (.region [.op 0 (.bin 25 .add .plain (.tmp 13) (.const (.int .i64 1))),
 .op 1 (.mov 13 (.tmp 25))] [])))))))
 (.seq (.region [.op 0 (.mov 4 (.const (.bool true)))] [])
 .ret)))),
 [.tmp 4]⟩
theorem ok39 : funcOk Tryd.prog (drawOk Tryd.prog) Tryd.f39 A39 = true := by kernel_rfl
/-- xs: t0, t1, t12, t13 -/
noncomputable def L39_0 (call : Go.Fw.Call) (xs : List AVal) (h : Heap) : Option J :=
 (aBin .lss .plain (xs.getD 3 .undef) (xs.getD 2 .undef)).bind fun v5 =>
 condV v5
 ((aIaddr 2 (xs.getD 0 .undef) (xs.getD 3 .undef)).bind fun v6 =>
 (aLoad h 2 v6).bind fun c7 =>
 (fromCells true c7).bind fun v8 =>
 (aIaddr 2 (xs.getD 1 .undef) (xs.getD 3 .undef)).bind fun v9 =>
 (aLoad h 2 v9).bind fun c10 =>
 (fromCells true c10).bind fun v11 =>
 (aBin .neq (.cells [2, 2]) v8 v11).bind fun v12 =>
 condV v12
 (some (2, [(.bool false)], h))
 ((aBin .add .plain (xs.getD 3 .undef) (.int .i64 1)).bind fun v13 =>
 some (0, [(xs.getD 0 .undef), (xs.getD 1 .undef), (xs.getD 2 .undef), v13], h)))
 (some (1, [], h))
noncomputable def S39 (call : Go.Fw.Call) (a0 a1 : AVal) (h : Heap) : Option J :=
 (aLen false a0).bind fun v1 =>
 (aLen false a1).bind fun v2 =>
 (aBin .neq .plain v1 v2).bind fun v3 =>
 condV v3
 (some (0, [(.bool false)], h))
 ((aLen false a0).bind fun v4 =>
 (loop (L39_0 call) [a0, a1, v4, (.int .i64 0)] h).bind fun x14 =>
 bif Nat.beq x14.1 1 then some (0, [(.bool true)], x14.2.2) else
 bif Nat.beq x14.1 2 then some (0, [(x14.2.1.getD 0 .undef)], x14.2.2) else
 none)
theorem run39 (call : Go.Fw.Call) (a0 a1 : AVal) (h : Heap) : runFn call (.code A39) [a0, a1] h = (S39 call a0 a1 h).bind ansOf := by kernel_rfl

/-- frankpledge/mail.zero -/
noncomputable def A40 : AFunc := ⟨1, (.seq (.region [.op 0 (.box 1 true (.tmp 0)),
 .op 1 (.mov 2 (.const (.bool false)))] [])
 (.seq (.seq (.region [.op 0 (.faddr 3 0 (.tmp 1)),
 .op 1 (.load 4 false 1 (.tmp 3))] [])
 (.block 0 (.seq (.region [.op 0 (.bin 6 .eql .plain (.tmp 4) (.const (.int .i64 1))),
 .op 1 (.mov 5 (.tmp 6))] [])
 (.join [(.normal, ⟨[], [1]⟩)] (.cond (.tmp 5)
 (.region [.op 0 (.build 7 [.str [], .str []] []),
 .op 1 (.faddr 8 4 (.tmp 1)),
 .op 2 (.store false 1 (.tmp 8) (.const (.int .i64 0))),
 .op 3 (.faddr 9 1 (.tmp 1)),
 .op 4 (.store false 1 (.tmp 9) (.const (.int .i64 0))),
 .op 5 (.faddr 10 7 (.tmp 1)),
 .op 6 (.store true 2 (.tmp 10) (.tmp 7)),
 .op 7 (.faddr 11 5 (.tmp 1)),
 .op 8 (.store false 1 (.tmp 11) (.const (.int .i64 0))),
 .op 9 (.faddr 12 2 (.tmp 1)),
 .op 10 (.store false 1 (.tmp 12) (.const (.int .i64 0))),
 .op 11 (.faddr 13 6 (.tmp 1)),
 .op 12 (.store false 1 (.tmp 13) (.const (.int .i64 0)))] [])
 (.seq (.region [.op 0 (.bin 15 .eql .plain (.tmp 4) (.const (.int .i64 2))),
 .op 1 (.mov 14 (.tmp 15))] [])
 (.join [(.normal, ⟨[], [1]⟩)] (.cond (.tmp 14)
 (.region [.op 0 (.build 16 [.str [], .str []] []),
 .op 1 (.faddr 17 4 (.tmp 1)),
 .op 2 (.store false 1 (.tmp 17) (.const (.int .i64 0))),
 .op 3 (.faddr 18 1 (.tmp 1)),
 .op 4 (.store false 1 (.tmp 18) (.const (.int .i64 0))),
 .op 5 (.faddr 19 7 (.tmp 1)),
 .op 6 (.store true 2 (.tmp 19) (.tmp 16)),
 .op 7 (.faddr 20 3 (.tmp 1)),
 .op 8 (.store false 1 (.tmp 20) (.const (.int .i64 0))),
 .op 9 (.faddr 21 9 (.tmp 1)),
 .op 10 (.store false 1 (.tmp 21) (.const (.bool false))),
 .op 11 (.faddr 22 6 (.tmp 1)),
 .op 12 (.store false 1 (.tmp 22) (.const (.int .i64 0))),
 .op 13 (.faddr 23 10 (.tmp 1)),
 .op 14 (.store false 1 (.tmp 23) (.const (.int .u32 0))),
 .op 15 (.faddr 24 11 (.tmp 1)),
 .op 16 (.store false 1 (.tmp 24) (.const (.nilSlice)))] [])
 (.seq (.seq (.region [.op 0 (.bin 26 .eql .plain (.tmp 4) (.const (.int .i64 3))),
 .op 1 (.mov 25 (.tmp 26))] [])
 (.join [(.normal, ⟨[4, 25], [1]⟩)] (.cond (.tmp 25)
 .skip
 (.region [.op 0 (.bin 27 .eql .plain (.tmp 4) (.const (.int .i64 4))),
 .op 1 (.mov 25 (.tmp 27))] []))))
 (.join [(.normal, ⟨[], [1]⟩)] (.cond (.tmp 25)
 (.region [.op 0 (.faddr 28 11 (.tmp 1)),
 .op 1 (.store false 1 (.tmp 28) (.const (.nilSlice)))] [])
 (.seq (.region [.op 0 (.bin 30 .eql .plain (.tmp 4) (.const (.int .i64 5))),
 .op 1 (.mov 29 (.tmp 30))] [])
 (.join [(.normal, ⟨[], [1]⟩)] (.cond (.tmp 29)
 (.region [.op 0 (.faddr 31 12 (.tmp 1)),
 .op 1 (.store false 1 (.tmp 31) (.const (.nilSlice)))] [])
 .skip))))))))))))))
 (.seq (.region [.op 0 (.faddr 32 0 (.tmp 1)),
 .op 1 (.store false 1 (.tmp 32) (.const (.int .i64 0)))] [])
 (.seq (.region [.op 0 (.load 33 true 13 (.tmp 1)),
 .op 1 (.build 34 [.int .i64 0, .int .i64 0, .int .i64 0, .int .i64 0, .int .i64 0, .int .i64 0, .int .i64 0, .str [], .str [], .bool false, .int .u32 0, .nilSlice, .nilSlice] []),
 .op 2 (.call 35 16 [.tmp 33, .tmp 34]),
 .op 3 (.mov 2 (.tmp 35))] [])
 .ret)))),
 [.tmp 2]⟩
theorem ok40 : funcOk Tryd.prog (drawOk Tryd.prog) Tryd.f40 A40 = true := by kernel_rfl
noncomputable def S40 (call : Go.Fw.Call) (a0 : AVal) (h : Heap) : Option J :=
 (AVal.cells? a0).bind fun c1 =>
 (rdL c1 0 1).bind fun c2 =>
 (fromCells false c2).bind fun v3 =>
 (aBin .eql .plain v3 (.int .i64 1)).bind fun v4 =>
 (condV v4
 ((aFill [.str [], .str []] []).bind fun c5 =>
 (aCells 1 (.int .i64 0)).bind fun c6 =>
 bif Nat.ble ((4) + 1) (List.length (α := AVal) c1) then (aCells 1 (.int .i64 0)).bind fun c7 =>
 bif Nat.ble ((1) + 1) (List.length (α := AVal) (splice c1 (4) c6)) then (aCells 2 (.agg c5)).bind fun c8 =>
 bif Nat.ble ((7) + 2) (List.length (α := AVal) (splice (splice c1 (4) c6) (1) c7)) then (aCells 1 (.int .i64 0)).bind fun c9 =>
 bif Nat.ble ((5) + 1) (List.length (α := AVal) (splice (splice (splice c1 (4) c6) (1) c7) (7) c8)) then (aCells 1 (.int .i64 0)).bind fun c10 =>
 bif Nat.ble ((2) + 1) (List.length (α := AVal) (splice (splice (splice (splice c1 (4) c6) (1) c7) (7) c8) (5) c9)) then (aCells 1 (.int .i64 0)).bind fun c11 =>
 bif Nat.ble ((6) + 1) (List.length (α := AVal) (splice (splice (splice (splice (splice c1 (4) c6) (1) c7) (7) c8) (5) c9) (2) c10)) then some (0, [(.agg (splice (splice (splice (splice (splice (splice c1 (4) c6) (1) c7) (7) c8) (5) c9) (2) c10) (6) c11))], h) else none else none else none else none else none else none)
 ((aBin .eql .plain v3 (.int .i64 2)).bind fun v12 =>
 (condV v12
 ((aFill [.str [], .str []] []).bind fun c13 =>
 (aCells 1 (.int .i64 0)).bind fun c14 =>
 bif Nat.ble ((4) + 1) (List.length (α := AVal) c1) then (aCells 1 (.int .i64 0)).bind fun c15 =>
 bif Nat.ble ((1) + 1) (List.length (α := AVal) (splice c1 (4) c14)) then (aCells 2 (.agg c13)).bind fun c16 =>
 bif Nat.ble ((7) + 2) (List.length (α := AVal) (splice (splice c1 (4) c14) (1) c15)) then (aCells 1 (.int .i64 0)).bind fun c17 =>
 bif Nat.ble ((3) + 1) (List.length (α := AVal) (splice (splice (splice c1 (4) c14) (1) c15) (7) c16)) then (aCells 1 (.bool false)).bind fun c18 =>
 bif Nat.ble ((9) + 1) (List.length (α := AVal) (splice (splice (splice (splice c1 (4) c14) (1) c15) (7) c16) (3) c17)) then (aCells 1 (.int .i64 0)).bind fun c19 =>
 bif Nat.ble ((6) + 1) (List.length (α := AVal) (splice (splice (splice (splice (splice c1 (4) c14) (1) c15) (7) c16) (3) c17) (9) c18)) then (aCells 1 (.int .u32 0)).bind fun c20 =>
 bif Nat.ble ((10) + 1) (List.length (α := AVal) (splice (splice (splice (splice (splice (splice c1 (4) c14) (1) c15) (7) c16) (3) c17) (9) c18) (6) c19)) then (aCells 1 (.nilSlice)).bind fun c21 =>
 bif Nat.ble ((11) + 1) (List.length (α := AVal) (splice (splice (splice (splice (splice (splice (splice c1 (4) c14) (1) c15) (7) c16) (3) c17) (9) c18) (6) c19) (10) c20)) then some (0, [(.agg (splice (splice (splice (splice (splice (splice (splice (splice c1 (4) c14) (1) c15) (7) c16) (3) c17) (9) c18) (6) c19) (10) c20) (11) c21))], h) else none else none else none else none else none else none else none else none)
 ((aBin .eql .plain v3 (.int .i64 3)).bind fun v22 =>
 (condV v22
 (some (0, [v3, v22, (.agg c1)], h))
 ((aBin .eql .plain v3 (.int .i64 4)).bind fun v23 =>
 some (0, [v3, v23, (.agg c1)], h))).bind fun x24 =>
 bif Nat.beq x24.1 0 then (condV (x24.2.1.getD 1 .undef)
 ((aCells 1 (.nilSlice)).bind fun c25 =>
 bif Nat.ble ((11) + 1) (List.length (α := AVal) (AVal.aggCells (x24.2.1.getD 2 .undef))) then some (0, [(.agg (splice (AVal.aggCells (x24.2.1.getD 2 .undef)) (11) c25))], x24.2.2) else none)
 ((aBin .eql .plain (x24.2.1.getD 0 .undef) (.int .i64 5)).bind fun v26 =>
 (condV v26
 ((aCells 1 (.nilSlice)).bind fun c27 =>
 bif Nat.ble ((12) + 1) (List.length (α := AVal) (AVal.aggCells (x24.2.1.getD 2 .undef))) then some (0, [(.agg (splice (AVal.aggCells (x24.2.1.getD 2 .undef)) (12) c27))], x24.2.2) else none)
 (some (0, [(.agg (AVal.aggCells (x24.2.1.getD 2 .undef)))], x24.2.2))).bind fun x28 =>
 bif Nat.beq x28.1 0 then some (0, [(.agg (AVal.aggCells (x28.2.1.getD 0 .undef)))], x28.2.2) else
 none)).bind fun x29 =>
 bif Nat.beq x29.1 0 then some (0, [(.agg (AVal.aggCells (x29.2.1.getD 0 .undef)))], x29.2.2) else
 none else
 none)).bind fun x30 =>
 bif Nat.beq x30.1 0 then some (0, [(.agg (AVal.aggCells (x30.2.1.getD 0 .undef)))], x30.2.2) else
 none)).bind fun x31 =>
 bif Nat.beq x31.1 0 then (aCells 1 (.int .i64 0)).bind fun c32 =>
 bif Nat.ble ((0) + 1) (List.length (α := AVal) (AVal.aggCells (x31.2.1.getD 0 .undef))) then (rdL (splice (AVal.aggCells (x31.2.1.getD 0 .undef)) (0) c32) 0 13).bind fun c33 =>
 (fromCells true c33).bind fun v34 =>
 (aFill [.int .i64 0, .int .i64 0, .int .i64 0, .int .i64 0, .int .i64 0, .int .i64 0, .int .i64 0, .str [], .str [], .bool false, .int .u32 0, .nilSlice, .nilSlice] []).bind fun c35 =>
 (call 16 [v34, (.agg c35)] x31.2.2).bind fun r36 =>
 some (0, [r36.1], r36.2) else none else
 none
theorem run40 (call : Go.Fw.Call) (a0 : AVal) (h : Heap) : runFn call (.code A40) [a0] h = (S40 call a0 h).bind ansOf := by kernel_rfl

/-- frankpledge/mail.op -/
noncomputable def A41 : AFunc := ⟨1, (.seq (.region [.op 0 (.box 1 true (.tmp 0)),
 .op 1 (.mov 2 (.const (.bool false)))] [])
 (.seq (.block 0 (.seq (.region [.op 0 (.load 4 true 13 (.tmp 1)),
 .op 1 (.call 5 62 [.tmp 4]),
 .op 2 (.un 6 .not (.tmp 5)),
 .op 3 (.mov 3 (.tmp 6))] [])
 (.cond (.tmp 3)
 (.seq (.region [.op 0 (.mov 2 (.const (.bool true)))] [])
 .ret)
 (.seq (.region [.op 0 (.faddr 8 1 (.tmp 1)),
 .op 1 (.load 9 false 1 (.tmp 8)),
 .op 2 (.bin 10 .eql .plain (.tmp 9) (.const (.int .i64 5))),
 .op 3 (.mov 7 (.tmp 10))] [])
 (.cond (.tmp 7)
 (.seq (.region [.op 0 (.faddr 11 7 (.tmp 1)),
 .op 1 (.load 12 true 2 (.tmp 11)),
 .op 2 (.build 13 [.str [], .str []] []),
 .op 3 (.bin 14 .eql (.cells [2, 2]) (.tmp 12) (.tmp 13)),
 .op 4 (.mov 2 (.tmp 14))] [])
 .ret)
 .skip)))))
 (.seq (.region [.op 0 (.faddr 15 1 (.tmp 1)),
 .op 1 (.load 16 false 1 (.tmp 15)),
 .op 2 (.bin 17 .geq .plain (.tmp 16) (.const (.int .i64 1))),
 .op 3 (.mov 18 (.tmp 17)),
 .guard 18 true [.op 4 (.faddr 19 1 (.tmp 1)),
 .op 5 (.load 20 false 1 (.tmp 19)),
 .op 6 (.bin 21 .lss .plain (.tmp 20) (.const (.int .i64 5)))] [] [21],
 .op 7 (.pick 22 (.tmp 18) (.tmp 21) (.const (.bool false))),
 .op 8 (.mov 23 (.tmp 22)),
 .guard 23 true [.op 9 (.faddr 24 7 (.tmp 1)),
 .op 10 (.load 25 true 2 (.tmp 24)),
 .op 11 (.call 26 48 [.tmp 25])] [] [26],
 .op 12 (.pick 27 (.tmp 23) (.tmp 26) (.const (.bool false))),
 .op 13 (.mov 2 (.tmp 27))] [])
 .ret))),
 [.tmp 2]⟩
theorem ok41 : funcOk Tryd.prog (drawOk Tryd.prog) Tryd.f41 A41 = true := by kernel_rfl
noncomputable def S41 (call : Go.Fw.Call) (a0 : AVal) (h : Heap) : Option J :=
 (AVal.cells? a0).bind fun c1 =>
 (rdL c1 0 13).bind fun c2 =>
 (fromCells true c2).bind fun v3 =>
 (call 62 [v3] h).bind fun r4 =>
 (aUn .not r4.1).bind fun v5 =>
 condV v5
 (some (0, [(.bool true)], r4.2))
 ((rdL c1 1 1).bind fun c6 =>
 (fromCells false c6).bind fun v7 =>
 (aBin .eql .plain v7 (.int .i64 5)).bind fun v8 =>
 condV v8
 ((rdL c1 7 2).bind fun c9 =>
 (fromCells true c9).bind fun v10 =>
 (aFill [.str [], .str []] []).bind fun c11 =>
 (aBin .eql (.cells [2, 2]) v10 (.agg c11)).bind fun v12 =>
 some (0, [v12], r4.2))
 ((rdL c1 1 1).bind fun c13 =>
 (fromCells false c13).bind fun v14 =>
 (aBin .geq .plain v14 (.int .i64 1)).bind fun v15 =>
 (guardV v15 true
 ((rdL c1 1 1).bind fun c16 =>
 (fromCells false c16).bind fun v17 =>
 (aBin .lss .plain v17 (.int .i64 5)).bind fun v18 =>
 some (0, [v18], r4.2))
 (some (0, [skipV], r4.2))).bind fun g19 =>
 (aPick v15 (g19.2.1.getD 0 .undef) (.bool false)).bind fun v20 =>
 (guardV v20 true
 ((rdL c1 7 2).bind fun c21 =>
 (fromCells true c21).bind fun v22 =>
 (call 48 [v22] g19.2.2).bind fun r23 =>
 some (0, [r23.1], r23.2))
 (some (0, [skipV], g19.2.2))).bind fun g24 =>
 (aPick v20 (g24.2.1.getD 0 .undef) (.bool false)).bind fun v25 =>
 some (0, [v25], g24.2.2)))
theorem run41 (call : Go.Fw.Call) (a0 : AVal) (h : Heap) : runFn call (.code A41) [a0] h = (S41 call a0 h).bind ansOf := by kernel_rfl

/-- frankpledge/mail.within -/
noncomputable def A42 : AFunc := ⟨1, (.seq (.region [.op 0 (.mov 2 (.const (.bool false)))] [])
 (.seq (.region [.op 0 (.mov 3 (.tmp 0)),
 .op 1 (.bin 4 .geq .plain (.tmp 3) (.const (.int .i64 0))),
 .op 2 (.mov 5 (.tmp 4)),
 .guard 5 true [.op 3 (.mov 6 (.tmp 0)),
 .op 4 (.bin 7 .leq .plain (.tmp 6) (.const (.int .i64 255)))] [] [7],
 .op 5 (.pick 8 (.tmp 5) (.tmp 7) (.const (.bool false))),
 .op 6 (.mov 2 (.tmp 8))] [])
 .ret)),
 [.tmp 2]⟩
theorem ok42 : funcOk Tryd.prog (drawOk Tryd.prog) Tryd.f42 A42 = true := by kernel_rfl
noncomputable def S42 (call : Go.Fw.Call) (a0 : AVal) (h : Heap) : Option J :=
 (aBin .geq .plain a0 (.int .i64 0)).bind fun v1 =>
 (guardV v1 true
 ((aBin .leq .plain a0 (.int .i64 255)).bind fun v2 =>
 some (0, [v2], h))
 (some (0, [skipV], h))).bind fun g3 =>
 (aPick v1 (g3.2.1.getD 0 .undef) (.bool false)).bind fun v4 =>
 some (0, [v4], g3.2.2)
theorem run42 (call : Go.Fw.Call) (a0 : AVal) (h : Heap) : runFn call (.code A42) [a0] h = (S42 call a0 h).bind ansOf := by kernel_rfl

/-- slices.ContainsFunc[[]frankpledge/api.Card,frankpledge/api.Card] -/
noncomputable def A43 : AFunc := ⟨2, (.seq (.region [.op 0 (.mov 4 (.const (.bool false)))] [])
 (.seq (.region [.op 0 (.mov 5 (.tmp 0)),
 .op 1 (.mov 6 (.tmp 1)),
 .op 2 (.call 7 63 [.tmp 5, .tmp 6]),
 .op 3 (.bin 8 .geq .plain (.tmp 7) (.const (.int .i64 0))),
 .op 4 (.mov 4 (.tmp 8))] [])
 .ret)),
 [.tmp 4]⟩
theorem ok43 : funcOk Tryd.prog (drawOk Tryd.prog) Tryd.f43 A43 = true := by kernel_rfl
noncomputable def S43 (call : Go.Fw.Call) (a0 a1 : AVal) (h : Heap) : Option J :=
 (call 63 [a0, a1] h).bind fun r1 =>
 (aBin .geq .plain r1.1 (.int .i64 0)).bind fun v2 =>
 some (0, [v2], r1.2)
theorem run43 (call : Go.Fw.Call) (a0 a1 : AVal) (h : Heap) : runFn call (.code A43) [a0, a1] h = (S43 call a0 a1 h).bind ansOf := by kernel_rfl

/-- frankpledge/mail.Right$1 -/
noncomputable def A44 : AFunc := ⟨1, (.seq (.region [.op 0 (.box 1 true (.tmp 0)),
 .op 1 (.mov 2 (.const (.bool false)))] [])
 (.seq (.region [.op 0 (.load 3 true 9 (.tmp 1)),
 .op 1 (.call 4 45 [.tmp 3]),
 .op 2 (.un 5 .not (.tmp 4)),
 .op 3 (.mov 2 (.tmp 5))] [])
 .ret)),
 [.tmp 2]⟩
theorem ok44 : funcOk Tryd.prog (drawOk Tryd.prog) Tryd.f44 A44 = true := by kernel_rfl
noncomputable def S44 (call : Go.Fw.Call) (a0 : AVal) (h : Heap) : Option J :=
 (AVal.cells? a0).bind fun c1 =>
 (rdL c1 0 9).bind fun c2 =>
 (fromCells true c2).bind fun v3 =>
 (call 45 [v3] h).bind fun r4 =>
 (aUn .not r4.1).bind fun v5 =>
 some (0, [v5], r4.2)
theorem run44 (call : Go.Fw.Call) (a0 : AVal) (h : Heap) : runFn call (.code A44) [a0] h = (S44 call a0 h).bind ansOf := by kernel_rfl

/-- frankpledge/card.Right -/
noncomputable def A45 : AFunc := ⟨1, (.seq (.region [.op 0 (.box 1 true (.tmp 0)),
 .op 1 (.mov 2 (.const (.bool false)))] [])
 (.seq (.block 0 (.seq (.region [.op 0 (.faddr 4 0 (.tmp 1)),
 .op 1 (.faddr 5 0 (.tmp 4)),
 .op 2 (.load 6 false 1 (.tmp 5)),
 .op 3 (.call 7 64 [.tmp 6]),
 .op 4 (.un 8 .not (.tmp 7)),
 .op 5 (.mov 9 (.tmp 8)),
 .guard 9 false [.op 6 (.faddr 10 0 (.tmp 1)),
 .op 7 (.faddr 11 1 (.tmp 10)),
 .op 8 (.load 12 false 1 (.tmp 11)),
 .op 9 (.call 13 64 [.tmp 12]),
 .op 10 (.un 14 .not (.tmp 13))] [] [14],
 .op 11 (.pick 15 (.tmp 9) (.const (.bool true)) (.tmp 14)),
 .op 12 (.mov 3 (.tmp 15))] [])
 (.cond (.tmp 3)
 (.seq (.region [.op 0 (.mov 2 (.const (.bool false)))] [])
 .ret)
 (.seq (.region [.op 0 (.faddr 17 2 (.tmp 1)),
 .op 1 (.load 18 false 1 (.tmp 17)),
 .op 2 (.bin 19 .neq .plain (.tmp 18) (.const (.int .i64 1))),
 .op 3 (.mov 20 (.tmp 19)),
 .guard 20 true [.op 4 (.faddr 21 2 (.tmp 1)),
 .op 5 (.load 22 false 1 (.tmp 21)),
 .op 6 (.bin 23 .neq .plain (.tmp 22) (.const (.int .i64 2)))] [] [23],
 .op 7 (.pick 24 (.tmp 20) (.tmp 23) (.const (.bool false))),
 .op 8 (.mov 16 (.tmp 24))] [])
 (.cond (.tmp 16)
 (.seq (.region [.op 0 (.mov 2 (.const (.bool false)))] [])
 .ret)
 (.seq (.region [.op 0 (.faddr 26 3 (.tmp 1)),
 .op 1 (.load 27 false 1 (.tmp 26)),
 .op 2 (.bin 28 .lss .plain (.tmp 27) (.const (.int .i64 0))),
 .op 3 (.mov 29 (.tmp 28)),
 .guard 29 false [.op 4 (.faddr 30 3 (.tmp 1)),
 .op 5 (.load 31 false 1 (.tmp 30)),
 .op 6 (.bin 32 .gtr .plain (.tmp 31) (.const (.int .i64 3)))] [] [32],
 .op 7 (.pick 33 (.tmp 29) (.const (.bool true)) (.tmp 32)),
 .op 8 (.mov 25 (.tmp 33))] [])
 (.cond (.tmp 25)
 (.seq (.region [.op 0 (.mov 2 (.const (.bool false)))] [])
 .ret)
 .skip)))))))
 (.seq (.region [.op 0 (.faddr 34 4 (.tmp 1)),
 .op 1 (.load 35 false 1 (.tmp 34)),
 .op 2 (.bin 36 .geq .plain (.tmp 35) (.const (.int .i64 1))),
 .op 3 (.mov 37 (.tmp 36)),
 .guard 37 true [.op 4 (.faddr 38 4 (.tmp 1)),
 .op 5 (.load 39 false 1 (.tmp 38)),
 .op 6 (.bin 40 .leq .plain (.tmp 39) (.const (.int .i64 1048576)))] [] [40],
 .op 7 (.pick 41 (.tmp 37) (.tmp 40) (.const (.bool false))),
 .op 8 (.mov 42 (.tmp 41)),
 .guard 42 true [.op 9 (.faddr 43 5 (.tmp 1)),
 .op 10 (.load 44 true 3 (.tmp 43)),
 .op 11 (.call 45 65 [.tmp 44])] [] [45],
 .op 12 (.pick 46 (.tmp 42) (.tmp 45) (.const (.bool false))),
 .op 13 (.mov 2 (.tmp 46))] [])
 .ret))),
 [.tmp 2]⟩
theorem ok45 : funcOk Tryd.prog (drawOk Tryd.prog) Tryd.f45 A45 = true := by kernel_rfl
noncomputable def S45 (call : Go.Fw.Call) (a0 : AVal) (h : Heap) : Option J :=
 (AVal.cells? a0).bind fun c1 =>
 (rdL c1 0 1).bind fun c2 =>
 (fromCells false c2).bind fun v3 =>
 (call 64 [v3] h).bind fun r4 =>
 (aUn .not r4.1).bind fun v5 =>
 (guardV v5 false
 ((rdL c1 1 1).bind fun c6 =>
 (fromCells false c6).bind fun v7 =>
 (call 64 [v7] r4.2).bind fun r8 =>
 (aUn .not r8.1).bind fun v9 =>
 some (0, [v9], r8.2))
 (some (0, [skipV], r4.2))).bind fun g10 =>
 (aPick v5 (.bool true) (g10.2.1.getD 0 .undef)).bind fun v11 =>
 condV v11
 (some (0, [(.bool false)], g10.2.2))
 ((rdL c1 2 1).bind fun c12 =>
 (fromCells false c12).bind fun v13 =>
 (aBin .neq .plain v13 (.int .i64 1)).bind fun v14 =>
 (guardV v14 true
 ((rdL c1 2 1).bind fun c15 =>
 (fromCells false c15).bind fun v16 =>
 (aBin .neq .plain v16 (.int .i64 2)).bind fun v17 =>
 some (0, [v17], g10.2.2))
 (some (0, [skipV], g10.2.2))).bind fun g18 =>
 (aPick v14 (g18.2.1.getD 0 .undef) (.bool false)).bind fun v19 =>
 condV v19
 (some (0, [(.bool false)], g18.2.2))
 ((rdL c1 3 1).bind fun c20 =>
 (fromCells false c20).bind fun v21 =>
 (aBin .lss .plain v21 (.int .i64 0)).bind fun v22 =>
 (guardV v22 false
 ((rdL c1 3 1).bind fun c23 =>
 (fromCells false c23).bind fun v24 =>
 (aBin .gtr .plain v24 (.int .i64 3)).bind fun v25 =>
 some (0, [v25], g18.2.2))
 (some (0, [skipV], g18.2.2))).bind fun g26 =>
 (aPick v22 (.bool true) (g26.2.1.getD 0 .undef)).bind fun v27 =>
 condV v27
 (some (0, [(.bool false)], g26.2.2))
 ((rdL c1 4 1).bind fun c28 =>
 (fromCells false c28).bind fun v29 =>
 (aBin .geq .plain v29 (.int .i64 1)).bind fun v30 =>
 (guardV v30 true
 ((rdL c1 4 1).bind fun c31 =>
 (fromCells false c31).bind fun v32 =>
 (aBin .leq .plain v32 (.int .i64 1048576)).bind fun v33 =>
 some (0, [v33], g26.2.2))
 (some (0, [skipV], g26.2.2))).bind fun g34 =>
 (aPick v30 (g34.2.1.getD 0 .undef) (.bool false)).bind fun v35 =>
 (guardV v35 true
 ((rdL c1 5 3).bind fun c36 =>
 (fromCells true c36).bind fun v37 =>
 (call 65 [v37] g34.2.2).bind fun r38 =>
 some (0, [r38.1], r38.2))
 (some (0, [skipV], g34.2.2))).bind fun g39 =>
 (aPick v35 (g39.2.1.getD 0 .undef) (.bool false)).bind fun v40 =>
 some (0, [v40], g39.2.2))))
theorem run45 (call : Go.Fw.Call) (a0 : AVal) (h : Heap) : runFn call (.code A45) [a0] h = (S45 call a0 h).bind ansOf := by kernel_rfl

/-- slices.ContainsFunc[[]frankpledge/api.Key,frankpledge/api.Key] -/
noncomputable def A46 : AFunc := ⟨2, (.seq (.region [.op 0 (.mov 4 (.const (.bool false)))] [])
 (.seq (.region [.op 0 (.mov 5 (.tmp 0)),
 .op 1 (.mov 6 (.tmp 1)),
 .op 2 (.call 7 66 [.tmp 5, .tmp 6]),
 .op 3 (.bin 8 .geq .plain (.tmp 7) (.const (.int .i64 0))),
 .op 4 (.mov 4 (.tmp 8))] [])
 .ret)),
 [.tmp 4]⟩
theorem ok46 : funcOk Tryd.prog (drawOk Tryd.prog) Tryd.f46 A46 = true := by kernel_rfl
noncomputable def S46 (call : Go.Fw.Call) (a0 a1 : AVal) (h : Heap) : Option J :=
 (call 66 [a0, a1] h).bind fun r1 =>
 (aBin .geq .plain r1.1 (.int .i64 0)).bind fun v2 =>
 some (0, [v2], r1.2)
theorem run46 (call : Go.Fw.Call) (a0 a1 : AVal) (h : Heap) : runFn call (.code A46) [a0, a1] h = (S46 call a0 a1 h).bind ansOf := by kernel_rfl

/-- frankpledge/mail.Right$2 -/
noncomputable def A47 : AFunc := ⟨1, (.seq (.region [.op 0 (.box 1 true (.tmp 0)),
 .op 1 (.mov 2 (.const (.bool false)))] [])
 (.seq (.region [.op 0 (.load 3 true 2 (.tmp 1)),
 .op 1 (.call 4 48 [.tmp 3]),
 .op 2 (.un 5 .not (.tmp 4)),
 .op 3 (.mov 2 (.tmp 5))] [])
 .ret)),
 [.tmp 2]⟩
theorem ok47 : funcOk Tryd.prog (drawOk Tryd.prog) Tryd.f47 A47 = true := by kernel_rfl
noncomputable def S47 (call : Go.Fw.Call) (a0 : AVal) (h : Heap) : Option J :=
 (AVal.cells? a0).bind fun c1 =>
 (rdL c1 0 2).bind fun c2 =>
 (fromCells true c2).bind fun v3 =>
 (call 48 [v3] h).bind fun r4 =>
 (aUn .not r4.1).bind fun v5 =>
 some (0, [v5], r4.2)
theorem run47 (call : Go.Fw.Call) (a0 : AVal) (h : Heap) : runFn call (.code A47) [a0] h = (S47 call a0 h).bind ansOf := by kernel_rfl

/-- frankpledge/mail.names -/
noncomputable def A48 : AFunc := ⟨1, (.seq (.region [.op 0 (.box 1 true (.tmp 0)),
 .op 1 (.mov 2 (.const (.bool false)))] [])
 (.seq (.region [.op 0 (.faddr 3 0 (.tmp 1)),
 .op 1 (.load 4 false 1 (.tmp 3)),
 .op 2 (.call 5 64 [.tmp 4]),
 .op 3 (.mov 6 (.tmp 5)),
 .guard 6 true [.op 4 (.faddr 7 1 (.tmp 1)),
 .op 5 (.load 8 false 1 (.tmp 7)),
 .op 6 (.call 9 64 [.tmp 8])] [] [9],
 .op 7 (.pick 10 (.tmp 6) (.tmp 9) (.const (.bool false))),
 .op 8 (.mov 2 (.tmp 10))] [])
 .ret)),
 [.tmp 2]⟩
theorem ok48 : funcOk Tryd.prog (drawOk Tryd.prog) Tryd.f48 A48 = true := by kernel_rfl
noncomputable def S48 (call : Go.Fw.Call) (a0 : AVal) (h : Heap) : Option J :=
 (AVal.cells? a0).bind fun c1 =>
 (rdL c1 0 1).bind fun c2 =>
 (fromCells false c2).bind fun v3 =>
 (call 64 [v3] h).bind fun r4 =>
 (guardV r4.1 true
 ((rdL c1 1 1).bind fun c5 =>
 (fromCells false c5).bind fun v6 =>
 (call 64 [v6] r4.2).bind fun r7 =>
 some (0, [r7.1], r7.2))
 (some (0, [skipV], r4.2))).bind fun g8 =>
 (aPick r4.1 (g8.2.1.getD 0 .undef) (.bool false)).bind fun v9 =>
 some (0, [v9], g8.2.2)
theorem run48 (call : Go.Fw.Call) (a0 : AVal) (h : Heap) : runFn call (.code A48) [a0] h = (S48 call a0 h).bind ansOf := by kernel_rfl

/-- slices.Clone[[]byte,byte] -/
noncomputable def A49 : AFunc := ⟨1, (.seq (.region [.op 0 (.mov 2 (.const (.nilSlice)))] [])
 (.seq (.seq (.region [.op 0 (.mov 3 (.tmp 0)),
 .op 1 (.bin 4 .eql .slice (.tmp 3) (.const (.nilSlice)))] [])
 (.cond (.tmp 4)
 (.seq (.region [.op 0 (.mov 2 (.const (.nilSlice)))] [])
 .ret)
 .skip))
 (.seq (.region [.op 0 (.buildSl 5 [.int .u8 0] 1 0 []),
 .op 1 (.mov 6 (.tmp 0)),
 .op 2 (.append 7 1 1 [.int .u8 0] false (.tmp 5) (.tmp 6)),
 .op 3 (.mov 2 (.tmp 7))] [])
 .ret))),
 [.tmp 2]⟩
theorem ok49 : funcOk Tryd.prog (drawOk Tryd.prog) Tryd.f49 A49 = true := by kernel_rfl
noncomputable def S49 (call : Go.Fw.Call) (a0 : AVal) (h : Heap) : Option J :=
 (aBin .eql .slice a0 (.nilSlice)).bind fun v1 =>
 condV v1
 (some (0, [(.nilSlice)], h))
 ((aFill (reps [.int .u8 0] 0) []).bind fun c2 =>
 (aAppend 1 1 [.int .u8 0] false (.slice h.next 0 0 0 1 true) a0 (h.alloc c2)).bind fun r3 =>
 some (0, [r3.1], r3.2))
theorem run49 (call : Go.Fw.Call) (a0 : AVal) (h : Heap) : runFn call (.code A49) [a0] h = (S49 call a0 h).bind ansOf := by kernel_rfl

/-- frankpledge/pack.Text -/
noncomputable def A50 : AFunc := ⟨2, (.seq (.region [.op 0 (.mov 4 (.const (.nilSlice)))] [])
 (.seq (.region [.op 0 (.mov 5 (.tmp 1)),
 .op 1 (.mov 6 (.tmp 1)),
 .op 2 (.len 7 true (.tmp 6)),
 .op 3 (.minmax 8 false [.tmp 7, .const (.int .i64 255)]),
 .op 4 (.slice 9 .str (.tmp 5) none (some (.tmp 8)) none),
 .op 5 (.mov 1 (.tmp 9))] [])
 (.seq (.region [.op 0 (.mov 10 (.tmp 0)),
 .op 1 (.mov 11 (.tmp 1)),
 .op 2 (.len 12 true (.tmp 11)),
 .op 3 (.call 13 21 [.tmp 10, .tmp 12]),
 .op 4 (.mov 14 (.tmp 1)),
 .op 5 (.append 15 1 1 [.int .u8 0] false (.tmp 13) (.tmp 14)),
 .op 6 (.mov 4 (.tmp 15))] [])
 .ret))),
 [.tmp 4]⟩
theorem ok50 : funcOk Tryd.prog (drawOk Tryd.prog) Tryd.f50 A50 = true := by kernel_rfl
noncomputable def S50 (call : Go.Fw.Call) (a0 a1 : AVal) (h : Heap) : Option J :=
 (aLen true a1).bind fun v1 =>
 (aMinMaxL false [v1, (.int .i64 255)]).bind fun v2 =>
 (aSliceStr a1 none (some v2)).bind fun v3 =>
 (aLen true v3).bind fun v4 =>
 (call 21 [a0, v4] h).bind fun r5 =>
 (aAppend 1 1 [.int .u8 0] false r5.1 v3 r5.2).bind fun r6 =>
 some (0, [r6.1], r6.2)
theorem run50 (call : Go.Fw.Call) (a0 a1 : AVal) (h : Heap) : runFn call (.code A50) [a0, a1] h = (S50 call a0 a1 h).bind ansOf := by kernel_rfl

/-- (*frankpledge/pack.Reader).Byte -/
noncomputable def A51 : AFunc := ⟨1, (.seq (.region [.op 0 (.mov 2 (.const (.int .i64 0)))] [])
 (.seq (.seq (.region [.op 0 (.mov 5 (.tmp 0)),
 .op 1 (.call 6 67 [.tmp 5, .const (.int .i64 1)]),
 .op 2 (.len 7 false (.tmp 6)),
 .op 3 (.mov 8 (.const (.int .i64 0)))] [])
 (.block 0 (.loop ⟨[6, 7, 8], []⟩ [((.exit 0), ⟨[], []⟩), (.ret, ⟨[2], []⟩)]
 (.seq (.region [.op 0 (.bin 9 .lss .plain (.tmp 8) (.tmp 7))] [])
 (.seq (.cond (.tmp 9)
 .skip
 (.exit 0))
 (.seq (.block 1 (.seq (.region [.op 0 (.iaddr 10 none 1 (.tmp 6) (.tmp 8)),
 .op 1 (.load 11 false 1 (.tmp 10)),
 .op 2 (.mov 4 (.tmp 11))] [])
 (.seq (.region [.op 0 (.mov 12 (.tmp 4)),
 .op 1 (.conv 13 (.toInt .i64) (.tmp 12)),
 .op 2 (.mov 2 (.tmp 13))] [])
 .ret)))
 (.region [.op 0 (.bin 14 .add .plain (.tmp 8) (.const (.int .i64 1))),
 .op 1 (.mov 8 (.tmp 14))] [])))))))
 (.seq (.region [.op 0 (.mov 2 (.const (.int .i64 0)))] [])
 .ret))),
 [.tmp 2]⟩
theorem ok51 : funcOk Tryd.prog (drawOk Tryd.prog) Tryd.f51 A51 = true := by kernel_rfl
/-- xs: t6, t7, t8 -/
noncomputable def L51_0 (call : Go.Fw.Call) (xs : List AVal) (h : Heap) : Option J :=
 (aBin .lss .plain (xs.getD 2 .undef) (xs.getD 1 .undef)).bind fun v3 =>
 condV v3
 ((aIaddr 1 (xs.getD 0 .undef) (xs.getD 2 .undef)).bind fun v4 =>
 (aLoad h 1 v4).bind fun c5 =>
 (fromCells false c5).bind fun v6 =>
 (aConv (.toInt .i64) v6 h).bind fun r7 =>
 some (2, [r7.1], r7.2))
 (some (1, [], h))
noncomputable def S51 (call : Go.Fw.Call) (a0 : AVal) (h : Heap) : Option J :=
 (call 67 [a0, (.int .i64 1)] h).bind fun r1 =>
 (aLen false r1.1).bind fun v2 =>
 (loop (L51_0 call) [r1.1, v2, (.int .i64 0)] r1.2).bind fun x8 =>
 bif Nat.beq x8.1 1 then some (0, [(.int .i64 0)], x8.2.2) else
 bif Nat.beq x8.1 2 then some (0, [(x8.2.1.getD 0 .undef)], x8.2.2) else
 none
theorem run51 (call : Go.Fw.Call) (a0 : AVal) (h : Heap) : runFn call (.code A51) [a0] h = (S51 call a0 h).bind ansOf := by kernel_rfl

/-- (*frankpledge/pack.Reader).Int -/
noncomputable def A52 : AFunc := ⟨1, (.seq (.region [.op 0 (.mov 2 (.const (.int .i64 0)))] [])
 (.seq (.region [.op 0 (.mov 3 (.const (.int .i64 0)))] [])
 (.seq (.seq (.region [.op 0 (.mov 6 (.tmp 0)),
 .op 1 (.call 7 67 [.tmp 6, .const (.int .i64 8)]),
 .op 2 (.len 8 false (.tmp 7)),
 .op 3 (.mov 9 (.const (.int .i64 0)))] [])
 (.block 0 (.loop ⟨[3, 7, 8, 9], []⟩ [((.exit 0), ⟨[3], []⟩)]
 (.seq (.region [.op 0 (.bin 10 .lss .plain (.tmp 9) (.tmp 8))] [])
 (.seq (.cond (.tmp 10)
 .skip
 (.exit 0))
 (.seq (.block 1 (.seq (.region [.op 0 (.iaddr 11 none 1 (.tmp 7) (.tmp 9)),
 .op 1 (.load 12 false 1 (.tmp 11)),
 .op 2 (.mov 5 (.tmp 12))] [])
 (.region [.op 0 (.mov 13 (.tmp 3)),
 .op 1 (.bin 14 .shl .plain (.tmp 13) (.const (.int .u64 8))),
 .op 2 (.mov 15 (.tmp 5)),
 .op 3 (.conv 16 (.toInt .i64) (.tmp 15)),
 .op 4 (.bin 17 .or .plain (.tmp 14) (.tmp 16)),
 .op 5 (.mov 3 (.tmp 17))] [])))
 (.region [.op 0 (.bin 18 .add .plain (.tmp 9) (.const (.int .i64 1))),
 .op 1 (.mov 9 (.tmp 18))] [])))))))
 (.seq (.region [.op 0 (.mov 19 (.tmp 3)),
 .op 1 (.mov 2 (.tmp 19))] [])
 .ret)))),
 [.tmp 2]⟩
theorem ok52 : funcOk Tryd.prog (drawOk Tryd.prog) Tryd.f52 A52 = true := by kernel_rfl
/-- xs: t3, t7, t8, t9 -/
noncomputable def L52_0 (call : Go.Fw.Call) (xs : List AVal) (h : Heap) : Option J :=
 (aBin .lss .plain (xs.getD 3 .undef) (xs.getD 2 .undef)).bind fun v3 =>
 condV v3
 ((aIaddr 1 (xs.getD 1 .undef) (xs.getD 3 .undef)).bind fun v4 =>
 (aLoad h 1 v4).bind fun c5 =>
 (fromCells false c5).bind fun v6 =>
 (aBin .shl .plain (xs.getD 0 .undef) (.int .u64 8)).bind fun v7 =>
 (aConv (.toInt .i64) v6 h).bind fun r8 =>
 (aBin .or .plain v7 r8.1).bind fun v9 =>
 (aBin .add .plain (xs.getD 3 .undef) (.int .i64 1)).bind fun v10 =>
 some (0, [v9, (xs.getD 1 .undef), (xs.getD 2 .undef), v10], r8.2))
 (some (1, [(xs.getD 0 .undef)], h))
noncomputable def S52 (call : Go.Fw.Call) (a0 : AVal) (h : Heap) : Option J :=
 (call 67 [a0, (.int .i64 8)] h).bind fun r1 =>
 (aLen false r1.1).bind fun v2 =>
 (loop (L52_0 call) [(.int .i64 0), r1.1, v2, (.int .i64 0)] r1.2).bind fun x11 =>
 bif Nat.beq x11.1 1 then some (0, [(x11.2.1.getD 0 .undef)], x11.2.2) else
 none
theorem run52 (call : Go.Fw.Call) (a0 : AVal) (h : Heap) : runFn call (.code A52) [a0] h = (S52 call a0 h).bind ansOf := by kernel_rfl

/-- (*frankpledge/mail.reader).key -/
noncomputable def A53 : AFunc := ⟨1, (.seq (.region [.op 0 (.alloc 2 true [.str [], .str []])] [])
 (.seq (.region [.op 0 (.mov 4 (.tmp 0)),
 .op 1 (.nilchk 5 (.tmp 4)),
 .op 2 (.faddr 6 0 (.tmp 5)),
 .op 3 (.load 7 false 1 (.tmp 6)),
 .op 4 (.call 8 68 [.tmp 7]),
 .op 5 (.mov 3 (.tmp 8))] [])
 (.seq (.region [.op 0 (.mov 9 (.tmp 3)),
 .op 1 (.mov 10 (.tmp 0)),
 .op 2 (.nilchk 11 (.tmp 10)),
 .op 3 (.faddr 12 0 (.tmp 11)),
 .op 4 (.load 13 false 1 (.tmp 12)),
 .op 5 (.call 14 68 [.tmp 13]),
 .op 6 (.build 15 [.str [], .str []] [(0, 1, .tmp 9), (1, 1, .tmp 14)]),
 .op 7 (.store true 2 (.tmp 2) (.tmp 15))] [])
 .ret))),
 [.cell 2 true 2]⟩
theorem ok53 : funcOk Tryd.prog (drawOk Tryd.prog) Tryd.f53 A53 = true := by kernel_rfl
noncomputable def S53 (call : Go.Fw.Call) (a0 : AVal) (h : Heap) : Option J :=
 (aNilchk a0).bind fun v1 =>
 (aFaddr 0 v1).bind fun v2 =>
 (aLoad h 1 v2).bind fun c3 =>
 (fromCells false c3).bind fun v4 =>
 (call 68 [v4] h).bind fun r5 =>
 (aNilchk a0).bind fun v6 =>
 (aFaddr 0 v6).bind fun v7 =>
 (aLoad r5.2 1 v7).bind fun c8 =>
 (fromCells false c8).bind fun v9 =>
 (call 68 [v9] r5.2).bind fun r10 =>
 (aFill [.str [], .str []] [(0, 1, r5.1), (1, 1, r10.1)]).bind fun c11 =>
 (aCells 2 (.agg c11)).bind fun c12 =>
 bif Nat.ble ((0) + 2) (List.length (α := AVal) [.str [], .str []]) then (((rdL (splice [.str [], .str []] (0) c12) (0) 2).bind fun cs => fromCells true cs).bind fun v => (some []).bind fun vs => some (v :: vs)).bind fun vs => some (0, [oneOr vs], r10.2) else none
theorem run53 (call : Go.Fw.Call) (a0 : AVal) (h : Heap) : runFn call (.code A53) [a0] h = (S53 call a0 h).bind ansOf := by kernel_rfl

/-- (*frankpledge/mail.reader).bit -/
noncomputable def A54 : AFunc := ⟨1, (.seq (.region [.op 0 (.mov 2 (.const (.bool false)))] [])
 (.seq (.region [.op 0 (.mov 4 (.tmp 0)),
 .op 1 (.nilchk 5 (.tmp 4)),
 .op 2 (.faddr 6 0 (.tmp 5)),
 .op 3 (.load 7 false 1 (.tmp 6)),
 .op 4 (.call 8 51 [.tmp 7]),
 .op 5 (.mov 3 (.tmp 8))] [])
 (.seq (.region [.op 0 (.mov 9 (.tmp 0)),
 .op 1 (.mov 10 (.tmp 0)),
 .op 2 (.nilchk 11 (.tmp 10)),
 .op 3 (.faddr 12 1 (.tmp 11)),
 .op 4 (.load 13 false 1 (.tmp 12)),
 .op 5 (.mov 14 (.tmp 13)),
 .guard 14 false [.op 6 (.mov 15 (.tmp 3)),
 .op 7 (.bin 16 .gtr .plain (.tmp 15) (.const (.int .i64 1)))] [] [16],
 .op 8 (.pick 17 (.tmp 14) (.const (.bool true)) (.tmp 16)),
 .op 9 (.nilchk 18 (.tmp 9)),
 .op 10 (.faddr 19 1 (.tmp 18)),
 .op 11 (.store false 1 (.tmp 19) (.tmp 17))] [])
 (.seq (.region [.op 0 (.mov 20 (.tmp 3)),
 .op 1 (.bin 21 .eql .plain (.tmp 20) (.const (.int .i64 1))),
 .op 2 (.mov 2 (.tmp 21))] [])
 .ret)))),
 [.tmp 2]⟩
theorem ok54 : funcOk Tryd.prog (drawOk Tryd.prog) Tryd.f54 A54 = true := by kernel_rfl
noncomputable def S54 (call : Go.Fw.Call) (a0 : AVal) (h : Heap) : Option J :=
 (aNilchk a0).bind fun v1 =>
 (aFaddr 0 v1).bind fun v2 =>
 (aLoad h 1 v2).bind fun c3 =>
 (fromCells false c3).bind fun v4 =>
 (call 51 [v4] h).bind fun r5 =>
 (aNilchk a0).bind fun v6 =>
 (aFaddr 1 v6).bind fun v7 =>
 (aLoad r5.2 1 v7).bind fun c8 =>
 (fromCells false c8).bind fun v9 =>
 (guardV v9 false
 ((aBin .gtr .plain r5.1 (.int .i64 1)).bind fun v10 =>
 some (0, [v10], r5.2))
 (some (0, [skipV], r5.2))).bind fun g11 =>
 (aPick v9 (.bool true) (g11.2.1.getD 0 .undef)).bind fun v12 =>
 (aNilchk a0).bind fun v13 =>
 (aFaddr 1 v13).bind fun v14 =>
 (aCells 1 v12).bind fun c15 =>
 (aStore g11.2.2 v14 c15).bind fun h16 =>
 (aBin .eql .plain r5.1 (.int .i64 1)).bind fun v17 =>
 some (0, [v17], h16)
theorem run54 (call : Go.Fw.Call) (a0 : AVal) (h : Heap) : runFn call (.code A54) [a0] h = (S54 call a0 h).bind ansOf := by kernel_rfl

/-- (*frankpledge/mail.reader).sum -/
noncomputable def A55 : AFunc := ⟨1, (.seq (.region [.op 0 (.mov 2 (.const (.int .u32 0)))] [])
 (.seq (.region [.op 0 (.mov 4 (.tmp 0)),
 .op 1 (.nilchk 5 (.tmp 4)),
 .op 2 (.faddr 6 0 (.tmp 5)),
 .op 3 (.load 7 false 1 (.tmp 6)),
 .op 4 (.call 8 52 [.tmp 7]),
 .op 5 (.mov 3 (.tmp 8))] [])
 (.seq (.region [.op 0 (.mov 9 (.tmp 0)),
 .op 1 (.mov 10 (.tmp 0)),
 .op 2 (.nilchk 11 (.tmp 10)),
 .op 3 (.faddr 12 1 (.tmp 11)),
 .op 4 (.load 13 false 1 (.tmp 12)),
 .op 5 (.mov 14 (.tmp 13)),
 .guard 14 false [.op 6 (.mov 15 (.tmp 3)),
 .op 7 (.bin 16 .lss .plain (.tmp 15) (.const (.int .i64 0)))] [] [16],
 .op 8 (.pick 17 (.tmp 14) (.const (.bool true)) (.tmp 16)),
 .op 9 (.mov 18 (.tmp 17)),
 .guard 18 false [.op 10 (.mov 19 (.tmp 3)),
 .op 11 (.bin 20 .gtr .plain (.tmp 19) (.const (.int .i64 4294967295)))] [] [20],
 .op 12 (.pick 21 (.tmp 18) (.const (.bool true)) (.tmp 20)),
 .op 13 (.nilchk 22 (.tmp 9)),
 .op 14 (.faddr 23 1 (.tmp 22)),
 .op 15 (.store false 1 (.tmp 23) (.tmp 21))] [])
 (.seq (.region [.op 0 (.mov 24 (.tmp 3)),
 .op 1 (.conv 25 (.toInt .u32) (.tmp 24)),
 .op 2 (.mov 2 (.tmp 25))] [])
 .ret)))),
 [.tmp 2]⟩
theorem ok55 : funcOk Tryd.prog (drawOk Tryd.prog) Tryd.f55 A55 = true := by kernel_rfl
noncomputable def S55 (call : Go.Fw.Call) (a0 : AVal) (h : Heap) : Option J :=
 (aNilchk a0).bind fun v1 =>
 (aFaddr 0 v1).bind fun v2 =>
 (aLoad h 1 v2).bind fun c3 =>
 (fromCells false c3).bind fun v4 =>
 (call 52 [v4] h).bind fun r5 =>
 (aNilchk a0).bind fun v6 =>
 (aFaddr 1 v6).bind fun v7 =>
 (aLoad r5.2 1 v7).bind fun c8 =>
 (fromCells false c8).bind fun v9 =>
 (guardV v9 false
 ((aBin .lss .plain r5.1 (.int .i64 0)).bind fun v10 =>
 some (0, [v10], r5.2))
 (some (0, [skipV], r5.2))).bind fun g11 =>
 (aPick v9 (.bool true) (g11.2.1.getD 0 .undef)).bind fun v12 =>
 (guardV v12 false
 ((aBin .gtr .plain r5.1 (.int .i64 4294967295)).bind fun v13 =>
 some (0, [v13], g11.2.2))
 (some (0, [skipV], g11.2.2))).bind fun g14 =>
 (aPick v12 (.bool true) (g14.2.1.getD 0 .undef)).bind fun v15 =>
 (aNilchk a0).bind fun v16 =>
 (aFaddr 1 v16).bind fun v17 =>
 (aCells 1 v15).bind fun c18 =>
 (aStore g14.2.2 v17 c18).bind fun h19 =>
 (aConv (.toInt .u32) r5.1 h19).bind fun r20 =>
 some (0, [r20.1], r20.2)
theorem run55 (call : Go.Fw.Call) (a0 : AVal) (h : Heap) : runFn call (.code A55) [a0] h = (S55 call a0 h).bind ansOf := by kernel_rfl

/-- (*frankpledge/mail.reader).cards -/
noncomputable def A56 : AFunc := ⟨1, (.seq (.region [.op 0 (.mov 2 (.const (.nilSlice)))] [])
 (.seq (.region [.op 0 (.mov 3 (.const (.nilSlice)))] [])
 (.seq (.seq (.region [.op 0 (.mov 5 (.tmp 0)),
 .op 1 (.nilchk 6 (.tmp 5)),
 .op 2 (.faddr 7 0 (.tmp 6)),
 .op 3 (.load 8 false 1 (.tmp 7)),
 .op 4 (.call 9 51 [.tmp 8]),
 .op 5 (.mov 10 (.const (.int .i64 0)))] [])
 (.block 0 (.loop ⟨[0, 3, 9, 10], []⟩ [((.exit 0), ⟨[3], []⟩)]
 (.seq (.region [.op 0 (.bin 11 .lss .plain (.tmp 10) (.tmp 9))] [])
 (.seq (.cond (.tmp 11)
 .skip
 (.exit 0))
 (.seq (.block 1 (.seq (.region [.op 0 (.mov 12 (.tmp 0)),
 .op 1 (.call 13 53 [.tmp 12]),
 .op 2 (.build 14 [.str [], .str [], .int .i64 0, .int .i64 0, .int .i64 0, .int .i64 0, .int .i64 0, .int .i64 0, .bool false] [(0, 2, .tmp 13)]),
 .op 3 (.alloc 4 true [.str [], .str [], .int .i64 0, .int .i64 0, .int .i64 0, .int .i64 0, .int .i64 0, .int .i64 0, .bool false]),
 .op 4 (.store true 9 (.tmp 4) (.tmp 14))] [])
 (.seq (.region [.op 0 (.mov 15 (.tmp 0)),
 .op 1 (.nilchk 16 (.tmp 15)),
 .op 2 (.faddr 17 0 (.tmp 16)),
 .op 3 (.load 18 false 1 (.tmp 17)),
 .op 4 (.call 19 51 [.tmp 18]),
 .op 5 (.mov 20 (.tmp 0)),
 .op 6 (.nilchk 21 (.tmp 20)),
 .op 7 (.faddr 22 0 (.tmp 21)),
 .op 8 (.load 23 false 1 (.tmp 22)),
 .op 9 (.call 24 51 [.tmp 23]),
 .op 10 (.faddr 25 2 (.tmp 4)),
 .op 11 (.store false 1 (.tmp 25) (.tmp 19)),
 .op 12 (.faddr 26 3 (.tmp 4)),
 .op 13 (.store false 1 (.tmp 26) (.tmp 24))] [(8, 4)])
 (.seq (.region [.op 0 (.mov 27 (.tmp 0)),
 .op 1 (.nilchk 28 (.tmp 27)),
 .op 2 (.faddr 29 0 (.tmp 28)),
 .op 3 (.load 30 false 1 (.tmp 29)),
 .op 4 (.call 31 52 [.tmp 30]),
 .op 5 (.mov 32 (.tmp 0)),
 .op 6 (.nilchk 33 (.tmp 32)),
 .op 7 (.faddr 34 0 (.tmp 33)),
 .op 8 (.load 35 false 1 (.tmp 34)),
 .op 9 (.call 36 52 [.tmp 35]),
 .op 10 (.faddr 37 4 (.tmp 4)),
 .op 11 (.store false 1 (.tmp 37) (.tmp 31)),
 .op 12 (.faddr 38 5 (.tmp 4)),
 .op 13 (.faddr 39 0 (.tmp 38)),
 .op 14 (.store false 1 (.tmp 39) (.tmp 36))] [(8, 4)])
 (.seq (.region [.op 0 (.mov 40 (.tmp 0)),
 .op 1 (.nilchk 41 (.tmp 40)),
 .op 2 (.faddr 42 0 (.tmp 41)),
 .op 3 (.load 43 false 1 (.tmp 42)),
 .op 4 (.call 44 51 [.tmp 43]),
 .op 5 (.faddr 45 5 (.tmp 4)),
 .op 6 (.faddr 46 1 (.tmp 45)),
 .op 7 (.store false 1 (.tmp 46) (.tmp 44))] [])
 (.seq (.region [.op 0 (.mov 47 (.tmp 0)),
 .op 1 (.nilchk 48 (.tmp 47)),
 .op 2 (.faddr 49 0 (.tmp 48)),
 .op 3 (.load 50 false 1 (.tmp 49)),
 .op 4 (.call 51 52 [.tmp 50]),
 .op 5 (.faddr 52 5 (.tmp 4)),
 .op 6 (.faddr 53 2 (.tmp 52)),
 .op 7 (.store false 1 (.tmp 53) (.tmp 51))] [])
 (.seq (.region [.op 0 (.mov 54 (.tmp 0)),
 .op 1 (.call 55 54 [.tmp 54]),
 .op 2 (.faddr 56 8 (.tmp 4)),
 .op 3 (.store false 1 (.tmp 56) (.tmp 55))] [])
 (.region [.op 0 (.mov 57 (.tmp 3)),
 .op 1 (.load 58 true 9 (.tmp 4)),
 .op 2 (.buildSl 59 [.str [], .str [], .int .i64 0, .int .i64 0, .int .i64 0, .int .i64 0, .int .i64 0, .int .i64 0, .bool false] 9 1 [(0, .tmp 58)]),
 .op 3 (.append 60 9 88 [.str [], .str [], .int .i64 0, .int .i64 0, .int .i64 0, .int .i64 0, .int .i64 0, .int .i64 0, .bool false] false (.tmp 57) (.tmp 59)),
 .op 4 (.mov 3 (.tmp 60))] []))))))))
 (.region [.op 0 (.bin 61 .add .plain (.tmp 10) (.const (.int .i64 1))),
 .op 1 (.mov 10 (.tmp 61))] [])))))))
 (.seq (.region [.op 0 (.mov 62 (.tmp 3)),
 .op 1 (.mov 2 (.tmp 62))] [])
 .ret)))),
 [.tmp 2]⟩
theorem ok56 : funcOk Tryd.prog (drawOk Tryd.prog) Tryd.f56 A56 = true := by kernel_rfl
/-- xs: t0, t3, t9, t10 -/
noncomputable def L56_0 (call : Go.Fw.Call) (xs : List AVal) (h : Heap) : Option J :=
 (aBin .lss .plain (xs.getD 3 .undef) (xs.getD 2 .undef)).bind fun v6 =>
 condV v6
 ((call 53 [(xs.getD 0 .undef)] h).bind fun r7 =>
 (aFill [.str [], .str [], .int .i64 0, .int .i64 0, .int .i64 0, .int .i64 0, .int .i64 0, .int .i64 0, .bool false] [(0, 2, r7.1)]).bind fun c8 =>
 (aCells 9 (.agg c8)).bind fun c9 =>
 bif Nat.ble ((0) + 9) (List.length (α := AVal) [.str [], .str [], .int .i64 0, .int .i64 0, .int .i64 0, .int .i64 0, .int .i64 0, .int .i64 0, .bool false]) then (aNilchk (xs.getD 0 .undef)).bind fun v10 =>
 (aFaddr 0 v10).bind fun v11 =>
 (aLoad r7.2 1 v11).bind fun c12 =>
 (fromCells false c12).bind fun v13 =>
 (call 51 [v13] r7.2).bind fun r14 =>
 (aNilchk (xs.getD 0 .undef)).bind fun v15 =>
 (aFaddr 0 v15).bind fun v16 =>
 (aLoad r14.2 1 v16).bind fun c17 =>
 (fromCells false c17).bind fun v18 =>
 (call 51 [v18] r14.2).bind fun r19 =>
 (aCells 1 r14.1).bind fun c20 =>
 bif Nat.ble ((2) + 1) (List.length (α := AVal) (splice [.str [], .str [], .int .i64 0, .int .i64 0, .int .i64 0, .int .i64 0, .int .i64 0, .int .i64 0, .bool false] (0) c9)) then (aCells 1 r19.1).bind fun c21 =>
 bif Nat.ble ((3) + 1) (List.length (α := AVal) (splice (splice [.str [], .str [], .int .i64 0, .int .i64 0, .int .i64 0, .int .i64 0, .int .i64 0, .int .i64 0, .bool false] (0) c9) (2) c20)) then bif checkPairs [(8, logRd v16 1), (4, some (.ef [(4, (splice [.str [], .str [], .int .i64 0, .int .i64 0, .int .i64 0, .int .i64 0, .int .i64 0, .int .i64 0, .bool false] (0) c9))] r7.2 [(4, (splice [.str [], .str [], .int .i64 0, .int .i64 0, .int .i64 0, .int .i64 0, .int .i64 0, .int .i64 0, .bool false] (0) c9))] r14.2))] [(8, 4)] then (aNilchk (xs.getD 0 .undef)).bind fun v22 =>
 (aFaddr 0 v22).bind fun v23 =>
 (aLoad r19.2 1 v23).bind fun c24 =>
 (fromCells false c24).bind fun v25 =>
 (call 52 [v25] r19.2).bind fun r26 =>
 (aNilchk (xs.getD 0 .undef)).bind fun v27 =>
 (aFaddr 0 v27).bind fun v28 =>
 (aLoad r26.2 1 v28).bind fun c29 =>
 (fromCells false c29).bind fun v30 =>
 (call 52 [v30] r26.2).bind fun r31 =>
 (aCells 1 r26.1).bind fun c32 =>
 bif Nat.ble ((4) + 1) (List.length (α := AVal) (splice (splice (splice [.str [], .str [], .int .i64 0, .int .i64 0, .int .i64 0, .int .i64 0, .int .i64 0, .int .i64 0, .bool false] (0) c9) (2) c20) (3) c21)) then (aCells 1 r31.1).bind fun c33 =>
 bif Nat.ble ((5) + 1) (List.length (α := AVal) (splice (splice (splice (splice [.str [], .str [], .int .i64 0, .int .i64 0, .int .i64 0, .int .i64 0, .int .i64 0, .int .i64 0, .bool false] (0) c9) (2) c20) (3) c21) (4) c32)) then bif checkPairs [(8, logRd v28 1), (4, some (.ef [(4, (splice (splice (splice [.str [], .str [], .int .i64 0, .int .i64 0, .int .i64 0, .int .i64 0, .int .i64 0, .int .i64 0, .bool false] (0) c9) (2) c20) (3) c21))] r19.2 [(4, (splice (splice (splice [.str [], .str [], .int .i64 0, .int .i64 0, .int .i64 0, .int .i64 0, .int .i64 0, .int .i64 0, .bool false] (0) c9) (2) c20) (3) c21))] r26.2))] [(8, 4)] then (aNilchk (xs.getD 0 .undef)).bind fun v34 =>
 (aFaddr 0 v34).bind fun v35 =>
 (aLoad r31.2 1 v35).bind fun c36 =>
 (fromCells false c36).bind fun v37 =>
 (call 51 [v37] r31.2).bind fun r38 =>
 (aCells 1 r38.1).bind fun c39 =>
 bif Nat.ble ((6) + 1) (List.length (α := AVal) (splice (splice (splice (splice (splice [.str [], .str [], .int .i64 0, .int .i64 0, .int .i64 0, .int .i64 0, .int .i64 0, .int .i64 0, .bool false] (0) c9) (2) c20) (3) c21) (4) c32) (5) c33)) then (aNilchk (xs.getD 0 .undef)).bind fun v40 =>
 (aFaddr 0 v40).bind fun v41 =>
 (aLoad r38.2 1 v41).bind fun c42 =>
 (fromCells false c42).bind fun v43 =>
 (call 52 [v43] r38.2).bind fun r44 =>
 (aCells 1 r44.1).bind fun c45 =>
 bif Nat.ble ((7) + 1) (List.length (α := AVal) (splice (splice (splice (splice (splice (splice [.str [], .str [], .int .i64 0, .int .i64 0, .int .i64 0, .int .i64 0, .int .i64 0, .int .i64 0, .bool false] (0) c9) (2) c20) (3) c21) (4) c32) (5) c33) (6) c39)) then (call 54 [(xs.getD 0 .undef)] r44.2).bind fun r46 =>
 (aCells 1 r46.1).bind fun c47 =>
 bif Nat.ble ((8) + 1) (List.length (α := AVal) (splice (splice (splice (splice (splice (splice (splice [.str [], .str [], .int .i64 0, .int .i64 0, .int .i64 0, .int .i64 0, .int .i64 0, .int .i64 0, .bool false] (0) c9) (2) c20) (3) c21) (4) c32) (5) c33) (6) c39) (7) c45)) then (rdL (splice (splice (splice (splice (splice (splice (splice (splice [.str [], .str [], .int .i64 0, .int .i64 0, .int .i64 0, .int .i64 0, .int .i64 0, .int .i64 0, .bool false] (0) c9) (2) c20) (3) c21) (4) c32) (5) c33) (6) c39) (7) c45) (8) c47) 0 9).bind fun c48 =>
 (fromCells true c48).bind fun v49 =>
 (aFill (reps [.str [], .str [], .int .i64 0, .int .i64 0, .int .i64 0, .int .i64 0, .int .i64 0, .int .i64 0, .bool false] 1) [(0, 9, v49)]).bind fun c50 =>
 (aAppend 9 88 [.str [], .str [], .int .i64 0, .int .i64 0, .int .i64 0, .int .i64 0, .int .i64 0, .int .i64 0, .bool false] false (xs.getD 1 .undef) (.slice r46.2.next 0 1 1 9 true) (r46.2.alloc c50)).bind fun r51 =>
 (aBin .add .plain (xs.getD 3 .undef) (.int .i64 1)).bind fun v52 =>
 some (0, [(xs.getD 0 .undef), r51.1, (xs.getD 2 .undef), v52], r51.2) else none else none else none else none else none else none else none else none else none else none)
 (some (1, [(xs.getD 1 .undef)], h))
noncomputable def S56 (call : Go.Fw.Call) (a0 : AVal) (h : Heap) : Option J :=
 (aNilchk a0).bind fun v1 =>
 (aFaddr 0 v1).bind fun v2 =>
 (aLoad h 1 v2).bind fun c3 =>
 (fromCells false c3).bind fun v4 =>
 (call 51 [v4] h).bind fun r5 =>
 (loop (L56_0 call) [a0, (.nilSlice), r5.1, (.int .i64 0)] r5.2).bind fun x53 =>
 bif Nat.beq x53.1 1 then some (0, [(x53.2.1.getD 0 .undef)], x53.2.2) else
 none
theorem run56 (call : Go.Fw.Call) (a0 : AVal) (h : Heap) : runFn call (.code A56) [a0] h = (S56 call a0 h).bind ansOf := by kernel_rfl

/-- (*frankpledge/mail.reader).keys -/
noncomputable def A57 : AFunc := ⟨1, (.seq (.region [.op 0 (.mov 2 (.const (.nilSlice)))] [])
 (.seq (.region [.op 0 (.mov 3 (.const (.nilSlice)))] [])
 (.seq (.seq (.region [.op 0 (.mov 4 (.tmp 0)),
 .op 1 (.nilchk 5 (.tmp 4)),
 .op 2 (.faddr 6 0 (.tmp 5)),
 .op 3 (.load 7 false 1 (.tmp 6)),
 .op 4 (.call 8 51 [.tmp 7]),
 .op 5 (.mov 9 (.const (.int .i64 0)))] [])
 (.block 0 (.loop ⟨[0, 3, 8, 9], []⟩ [((.exit 0), ⟨[3], []⟩)]
 (.seq (.region [.op 0 (.bin 10 .lss .plain (.tmp 9) (.tmp 8))] [])
 (.seq (.cond (.tmp 10)
 .skip
 (.exit 0))
 (.seq (.block 1 (.region [.op 0 (.mov 11 (.tmp 3)),
 .op 1 (.mov 12 (.tmp 0)),
 .op 2 (.call 13 53 [.tmp 12]),
 .op 3 (.buildSl 14 [.str [], .str []] 2 1 [(0, .tmp 13)]),
 .op 4 (.append 15 2 32 [.str [], .str []] false (.tmp 11) (.tmp 14)),
 .op 5 (.mov 3 (.tmp 15))] []))
 (.region [.op 0 (.bin 16 .add .plain (.tmp 9) (.const (.int .i64 1))),
 .op 1 (.mov 9 (.tmp 16))] [])))))))
 (.seq (.region [.op 0 (.mov 17 (.tmp 3)),
 .op 1 (.mov 2 (.tmp 17))] [])
 .ret)))),
 [.tmp 2]⟩
theorem ok57 : funcOk Tryd.prog (drawOk Tryd.prog) Tryd.f57 A57 = true := by kernel_rfl
/-- xs: t0, t3, t8, t9 -/
noncomputable def L57_0 (call : Go.Fw.Call) (xs : List AVal) (h : Heap) : Option J :=
 (aBin .lss .plain (xs.getD 3 .undef) (xs.getD 2 .undef)).bind fun v6 =>
 condV v6
 ((call 53 [(xs.getD 0 .undef)] h).bind fun r7 =>
 (aFill (reps [.str [], .str []] 1) [(0, 2, r7.1)]).bind fun c8 =>
 (aAppend 2 32 [.str [], .str []] false (xs.getD 1 .undef) (.slice r7.2.next 0 1 1 2 true) (r7.2.alloc c8)).bind fun r9 =>
 (aBin .add .plain (xs.getD 3 .undef) (.int .i64 1)).bind fun v10 =>
 some (0, [(xs.getD 0 .undef), r9.1, (xs.getD 2 .undef), v10], r9.2))
 (some (1, [(xs.getD 1 .undef)], h))
noncomputable def S57 (call : Go.Fw.Call) (a0 : AVal) (h : Heap) : Option J :=
 (aNilchk a0).bind fun v1 =>
 (aFaddr 0 v1).bind fun v2 =>
 (aLoad h 1 v2).bind fun c3 =>
 (fromCells false c3).bind fun v4 =>
 (call 51 [v4] h).bind fun r5 =>
 (loop (L57_0 call) [a0, (.nilSlice), r5.1, (.int .i64 0)] r5.2).bind fun x11 =>
 bif Nat.beq x11.1 1 then some (0, [(x11.2.1.getD 0 .undef)], x11.2.2) else
 none
theorem run57 (call : Go.Fw.Call) (a0 : AVal) (h : Heap) : runFn call (.code A57) [a0] h = (S57 call a0 h).bind ansOf := by kernel_rfl

-- 58 no body
-- 59 no body
-- 60 no body
/-- errors.as -/
noncomputable def A61 : AFunc := ⟨4, (.seq (.region [.op 0 (.box 6 true (.tmp 2)),
 .op 1 (.mov 8 (.const (.bool false)))] [])
 (.block 0 (.loop ⟨[0, 1, 3], [6]⟩ [(.ret, ⟨[8], []⟩)]
 (.block 1 (.seq (.seq (.region [.op 0 (.mov 16 (.tmp 0)),
 .op 1 (.call 17 69 [.tmp 16]),
 .op 2 (.mov 18 (.tmp 3)),
 .op 3 (.invoke 19 [(118, 97, none)] (.tmp 17) [.tmp 18])] [])
 (.cond (.tmp 19)
 (.seq (.region [.op 0 (.load 20 true 3 (.tmp 6)),
 .op 1 (.call 21 70 [.tmp 20]),
 .op 2 (.mov 22 (.tmp 0)),
 .op 3 (.call 23 58 [.tmp 22]),
 .op 4 (.call 24 71 [.tmp 21, .tmp 23])] [])
 (.seq (.region [.op 0 (.mov 8 (.const (.bool true)))] [])
 .ret))
 .skip))
 (.seq (.seq (.region [.op 0 (.mov 26 (.tmp 0)),
 .op 1 (.tassert 27 [(43, false), (75, false), (86, false)] (.tmp 26)),
 .op 2 (.mov 25 (.tmp 27)),
 .op 3 (.extract 28 (.tmp 25) 0),
 .op 4 (.extract 29 (.tmp 25) 1),
 .op 5 (.mov 9 (.tmp 28)),
 .op 6 (.mov 10 (.tmp 29))] [])
 (.seq (.region [.op 0 (.mov 30 (.tmp 10)),
 .op 1 (.mov 31 (.tmp 30)),
 .guard 31 true [.op 2 (.mov 32 (.tmp 9)),
 .op 3 (.mov 33 (.tmp 1)),
 .op 4 (.invoke 34 [] (.tmp 32) [.tmp 33])] [] [34],
 .op 5 (.pick 35 (.tmp 31) (.tmp 34) (.const (.bool false)))] [])
 (.cond (.tmp 35)
 (.seq (.region [.op 0 (.mov 8 (.const (.bool true)))] [])
 .ret)
 .skip)))
 (.seq (.region [.op 0 (.mov 36 (.tmp 0))] [])
 (.block 2 (.seq (.region [.op 0 (.tassert 37 [(43, false), (75, false), (86, true)] (.tmp 36)),
 .op 1 (.extract 38 (.tmp 37) 1),
 .op 2 (.extract 39 (.tmp 37) 0)] [])
 (.cond (.tmp 38)
 (.seq (.region [.op 0 (.mov 11 (.tmp 39))] [])
 (.seq (.region [.op 0 (.mov 40 (.tmp 11)),
 .op 1 (.invoke 41 [(86, 92, none)] (.tmp 40) []),
 .op 2 (.mov 0 (.tmp 41))] [])
 (.seq (.region [.op 0 (.mov 42 (.tmp 0)),
 .op 1 (.bin 43 .eql (.iface true []) (.tmp 42) (.const (.nilIface)))] [])
 (.cond (.tmp 43)
 (.seq (.region [.op 0 (.mov 8 (.const (.bool false)))] [])
 .ret)
 .skip))))
 (.seq (.region [.op 0 (.tassert 44 [(43, false), (75, false), (86, false)] (.tmp 36)),
 .op 1 (.extract 45 (.tmp 44) 1),
 .op 2 (.extract 46 (.tmp 44) 0)] [])
 (.cond (.tmp 45)
 (.seq (.region [.op 0 (.mov 12 (.tmp 46))] [])
 (.seq (.seq (.region [.op 0 (.mov 47 (.tmp 12)),
 .op 1 (.invoke 48 [(86, 92, none)] (.tmp 47) []),
 .op 2 (.len 49 false (.tmp 48)),
 .op 3 (.mov 50 (.const (.int .i64 0)))] [])
 (.block 3 (.loop ⟨[1, 3, 48, 49, 50], [6]⟩ [((.exit 3), ⟨[], []⟩), (.ret, ⟨[8], []⟩)]
 (.seq (.region [.op 0 (.bin 51 .lss .plain (.tmp 50) (.tmp 49))] [])
 (.seq (.cond (.tmp 51)
 .skip
 (.exit 3))
 (.seq (.join [(.ret, ⟨[8], []⟩), (.normal, ⟨[1, 3, 48, 49, 50], [6]⟩)] (.block 4 (.seq (.region [.op 0 (.iaddr 52 none 1 (.tmp 48) (.tmp 50)),
 .op 1 (.load 53 false 1 (.tmp 52)),
 .op 2 (.mov 14 (.tmp 53))] [])
 (.seq (.seq (.region [.op 0 (.mov 54 (.tmp 14)),
 .op 1 (.bin 55 .eql (.iface true []) (.tmp 54) (.const (.nilIface)))] [])
 (.cond (.tmp 55)
 (.exit 4)
 .skip))
 (.seq (.region [.op 0 (.mov 56 (.tmp 14)),
 .op 1 (.mov 57 (.tmp 1)),
 .op 2 (.load 58 true 3 (.tmp 6)),
 .op 3 (.mov 59 (.tmp 3)),
 .op 4 (.call 60 61 [.tmp 56, .tmp 57, .tmp 58, .tmp 59])] [])
 (.cond (.tmp 60)
 (.seq (.region [.op 0 (.mov 8 (.const (.bool true)))] [])
 .ret)
 .skip))))))
 (.region [.op 0 (.bin 61 .add .plain (.tmp 50) (.const (.int .i64 1))),
 .op 1 (.mov 50 (.tmp 61))] [])))))))
 (.seq (.region [.op 0 (.mov 8 (.const (.bool false)))] [])
 .ret)))
 (.seq (.region [.op 0 (.mov 15 (.tmp 36))] [])
 (.seq (.region [.op 0 (.mov 8 (.const (.bool false)))] [])
 .ret)))))))))))))),
 [.tmp 8]⟩
theorem ok61 : funcOk Tryd.prog (drawOk Tryd.prog) Tryd.f61 A61 = true := by kernel_rfl
/-- xs: t1, t3, t48, t49, t50, cells of 6 -/
noncomputable def L61_1 (call : Go.Fw.Call) (xs : List AVal) (h : Heap) : Option J :=
 (aBin .lss .plain (xs.getD 4 .undef) (xs.getD 3 .undef)).bind fun v29 =>
 condV v29
 (((aIaddr 1 (xs.getD 2 .undef) (xs.getD 4 .undef)).bind fun v30 =>
 (aLoad h 1 v30).bind fun c31 =>
 (fromCells false c31).bind fun v32 =>
 (aBin .eql (.iface true []) v32 (.nilIface)).bind fun v33 =>
 condV v33
 (some (1, [(xs.getD 0 .undef), (xs.getD 1 .undef), (xs.getD 2 .undef), (xs.getD 3 .undef), (xs.getD 4 .undef), (.agg (AVal.aggCells (xs.getD 5 .undef)))], h))
 ((rdL (AVal.aggCells (xs.getD 5 .undef)) 0 3).bind fun c34 =>
 (fromCells true c34).bind fun v35 =>
 (call 61 [v32, (xs.getD 0 .undef), v35, (xs.getD 1 .undef)] h).bind fun r36 =>
 condV r36.1
 (some (0, [(.bool true)], r36.2))
 (some (1, [(xs.getD 0 .undef), (xs.getD 1 .undef), (xs.getD 2 .undef), (xs.getD 3 .undef), (xs.getD 4 .undef), (.agg (AVal.aggCells (xs.getD 5 .undef)))], r36.2)))).bind fun x37 =>
 bif Nat.beq x37.1 0 then some (2, [(x37.2.1.getD 0 .undef)], x37.2.2) else
 bif Nat.beq x37.1 1 then (aBin .add .plain (x37.2.1.getD 4 .undef) (.int .i64 1)).bind fun v38 =>
 some (0, [(x37.2.1.getD 0 .undef), (x37.2.1.getD 1 .undef), (x37.2.1.getD 2 .undef), (x37.2.1.getD 3 .undef), v38, (.agg (AVal.aggCells (x37.2.1.getD 5 .undef)))], x37.2.2) else
 none)
 (some (1, [], h))
/-- xs: t0, t1, t3, cells of 6 -/
noncomputable def L61_0 (call : Go.Fw.Call) (xs : List AVal) (h : Heap) : Option J :=
 (call 69 [(xs.getD 0 .undef)] h).bind fun r2 =>
 (aMeth [(118, 97, none)] r2.1).bind fun q3 =>
 (call q3.1 (q3.2 :: [(xs.getD 2 .undef)]) r2.2).bind fun r4 =>
 condV r4.1
 ((rdL (AVal.aggCells (xs.getD 3 .undef)) 0 3).bind fun c5 =>
 (fromCells true c5).bind fun v6 =>
 (call 70 [v6] r4.2).bind fun r7 =>
 (call 58 [(xs.getD 0 .undef)] r7.2).bind fun r8 =>
 (call 71 [r7.1, r8.1] r8.2).bind fun r9 =>
 some (1, [(.bool true)], r9.2))
 ((aAssert [(43, false), (75, false), (86, false)] (xs.getD 0 .undef)).bind fun v10 =>
 (aExtract 0 v10).bind fun v11 =>
 (aExtract 1 v10).bind fun v12 =>
 (guardV v12 true
 ((aMeth [] v11).bind fun q13 =>
 (call q13.1 (q13.2 :: [(xs.getD 1 .undef)]) r4.2).bind fun r14 =>
 some (0, [r14.1], r14.2))
 (some (0, [skipV], r4.2))).bind fun g15 =>
 (aPick v12 (g15.2.1.getD 0 .undef) (.bool false)).bind fun v16 =>
 condV v16
 (some (1, [(.bool true)], g15.2.2))
 ((aAssert [(43, false), (75, false), (86, true)] (xs.getD 0 .undef)).bind fun v17 =>
 (aExtract 1 v17).bind fun v18 =>
 (aExtract 0 v17).bind fun v19 =>
 condV v18
 ((aMeth [(86, 92, none)] v19).bind fun q20 =>
 (call q20.1 (q20.2 :: []) g15.2.2).bind fun r21 =>
 (aBin .eql (.iface true []) r21.1 (.nilIface)).bind fun v22 =>
 condV v22
 (some (1, [(.bool false)], r21.2))
 (some (0, [r21.1, (xs.getD 1 .undef), (xs.getD 2 .undef), (.agg (AVal.aggCells (xs.getD 3 .undef)))], r21.2)))
 ((aAssert [(43, false), (75, false), (86, false)] (xs.getD 0 .undef)).bind fun v23 =>
 (aExtract 1 v23).bind fun v24 =>
 (aExtract 0 v23).bind fun v25 =>
 condV v24
 ((aMeth [(86, 92, none)] v25).bind fun q26 =>
 (call q26.1 (q26.2 :: []) g15.2.2).bind fun r27 =>
 (aLen false r27.1).bind fun v28 =>
 (loop (L61_1 call) [(xs.getD 1 .undef), (xs.getD 2 .undef), r27.1, v28, (.int .i64 0), (.agg (AVal.aggCells (xs.getD 3 .undef)))] r27.2).bind fun x39 =>
 bif Nat.beq x39.1 1 then some (1, [(.bool false)], x39.2.2) else
 bif Nat.beq x39.1 2 then some (1, [(x39.2.1.getD 0 .undef)], x39.2.2) else
 none)
 (some (1, [(.bool false)], g15.2.2)))))
noncomputable def S61 (call : Go.Fw.Call) (a0 a1 a2 a3 : AVal) (h : Heap) : Option J :=
 (AVal.cells? a2).bind fun c1 =>
 (loop (L61_0 call) [a0, a1, a3, (.agg c1)] h).bind fun x40 =>
 bif Nat.beq x40.1 1 then some (0, [(x40.2.1.getD 0 .undef)], x40.2.2) else
 none
theorem run61 (call : Go.Fw.Call) (a0 a1 a2 a3 : AVal) (h : Heap) : runFn call (.code A61) [a0, a1, a2, a3] h = (S61 call a0 a1 a2 a3 h).bind ansOf := by kernel_rfl

/-- frankpledge/mail.asked -/
noncomputable def A62 : AFunc := ⟨1, (.seq (.region [.op 0 (.box 1 true (.tmp 0)),
 .op 1 (.mov 2 (.const (.bool false)))] [])
 (.seq (.region [.op 0 (.faddr 3 0 (.tmp 1)),
 .op 1 (.load 4 false 1 (.tmp 3)),
 .op 2 (.bin 5 .eql .plain (.tmp 4) (.const (.int .i64 1))),
 .op 3 (.mov 6 (.tmp 5)),
 .guard 6 false [.op 4 (.faddr 7 0 (.tmp 1)),
 .op 5 (.load 8 false 1 (.tmp 7)),
 .op 6 (.bin 9 .eql .plain (.tmp 8) (.const (.int .i64 2)))] [] [9],
 .op 7 (.pick 10 (.tmp 6) (.const (.bool true)) (.tmp 9)),
 .op 8 (.mov 2 (.tmp 10))] [])
 .ret)),
 [.tmp 2]⟩
theorem ok62 : funcOk Tryd.prog (drawOk Tryd.prog) Tryd.f62 A62 = true := by kernel_rfl
noncomputable def S62 (call : Go.Fw.Call) (a0 : AVal) (h : Heap) : Option J :=
 (AVal.cells? a0).bind fun c1 =>
 (rdL c1 0 1).bind fun c2 =>
 (fromCells false c2).bind fun v3 =>
 (aBin .eql .plain v3 (.int .i64 1)).bind fun v4 =>
 (guardV v4 false
 ((rdL c1 0 1).bind fun c5 =>
 (fromCells false c5).bind fun v6 =>
 (aBin .eql .plain v6 (.int .i64 2)).bind fun v7 =>
 some (0, [v7], h))
 (some (0, [skipV], h))).bind fun g8 =>
 (aPick v4 (.bool true) (g8.2.1.getD 0 .undef)).bind fun v9 =>
 some (0, [v9], g8.2.2)
theorem run62 (call : Go.Fw.Call) (a0 : AVal) (h : Heap) : runFn call (.code A62) [a0] h = (S62 call a0 h).bind ansOf := by kernel_rfl

/-- slices.IndexFunc[[]frankpledge/api.Card,frankpledge/api.Card] -/
noncomputable def A63 : AFunc := ⟨2, (.seq (.region [.op 0 (.mov 4 (.const (.int .i64 0)))] [])
 (.seq (.seq (.region [.op 0 (.mov 6 (.tmp 0)),
 .op 1 (.len 7 false (.tmp 6)),
 .op 2 (.mov 8 (.const (.int .i64 0)))] [])
 (.block 0 (.loop ⟨[0, 1, 7, 8], []⟩ [((.exit 0), ⟨[], []⟩), (.ret, ⟨[4], []⟩)]
 (.seq (.region [.op 0 (.bin 9 .lss .plain (.tmp 8) (.tmp 7))] [])
 (.seq (.cond (.tmp 9)
 .skip
 (.exit 0))
 (.seq (.block 1 (.seq (.region [.op 0 (.mov 10 (.tmp 8)),
 .op 1 (.mov 5 (.tmp 10))] [])
 (.seq (.region [.op 0 (.mov 11 (.tmp 1)),
 .op 1 (.mov 12 (.tmp 0)),
 .op 2 (.mov 13 (.tmp 5)),
 .op 3 (.iaddr 14 none 9 (.tmp 12) (.tmp 13)),
 .op 4 (.load 15 true 9 (.tmp 14)),
 .op 5 (.callv 16 (.tmp 11) [.tmp 15])] [])
 (.cond (.tmp 16)
 (.seq (.region [.op 0 (.mov 17 (.tmp 5)),
 .op 1 (.mov 4 (.tmp 17))] [])
 .ret)
 .skip))))
 (.region [.op 0 (.bin 18 .add .plain (.tmp 8) (.const (.int .i64 1))),
 .op 1 (.mov 8 (.tmp 18))] [])))))))
 (.seq (.region [.op 0 (.mov 4 (.const (.int .i64 (-1))))] [])
 .ret))),
 [.tmp 4]⟩
theorem ok63 : funcOk Tryd.prog (drawOk Tryd.prog) Tryd.f63 A63 = true := by kernel_rfl
/-- xs: t0, t1, t7, t8 -/
noncomputable def L63_0 (call : Go.Fw.Call) (xs : List AVal) (h : Heap) : Option J :=
 (aBin .lss .plain (xs.getD 3 .undef) (xs.getD 2 .undef)).bind fun v2 =>
 condV v2
 ((aIaddr 9 (xs.getD 0 .undef) (xs.getD 3 .undef)).bind fun v3 =>
 (aLoad h 9 v3).bind fun c4 =>
 (fromCells true c4).bind fun v5 =>
 (aFn (xs.getD 1 .undef)).bind fun q6 =>
 (call q6.1 ([v5] ++ q6.2) h).bind fun r7 =>
 condV r7.1
 (some (2, [(xs.getD 3 .undef)], r7.2))
 ((aBin .add .plain (xs.getD 3 .undef) (.int .i64 1)).bind fun v8 =>
 some (0, [(xs.getD 0 .undef), (xs.getD 1 .undef), (xs.getD 2 .undef), v8], r7.2)))
 (some (1, [], h))
noncomputable def S63 (call : Go.Fw.Call) (a0 a1 : AVal) (h : Heap) : Option J :=
 (aLen false a0).bind fun v1 =>
 (loop (L63_0 call) [a0, a1, v1, (.int .i64 0)] h).bind fun x9 =>
 bif Nat.beq x9.1 1 then some (0, [(.int .i64 (-1))], x9.2.2) else
 bif Nat.beq x9.1 2 then some (0, [(x9.2.1.getD 0 .undef)], x9.2.2) else
 none
theorem run63 (call : Go.Fw.Call) (a0 a1 : AVal) (h : Heap) : runFn call (.code A63) [a0, a1] h = (S63 call a0 a1 h).bind ansOf := by kernel_rfl

/-- frankpledge/card.Name -/
noncomputable def A64 : AFunc := ⟨1, (.seq (.region [.op 0 (.mov 2 (.const (.bool false)))] [])
 (.seq (.seq (.region [.op 0 (.mov 5 (.tmp 0)),
 .op 1 (.len 6 true (.tmp 5)),
 .op 2 (.bin 7 .eql .plain (.tmp 6) (.const (.int .i64 0))),
 .op 3 (.mov 8 (.tmp 7)),
 .guard 8 false [.op 4 (.mov 9 (.tmp 0)),
 .op 5 (.len 10 true (.tmp 9)),
 .op 6 (.bin 11 .gtr .plain (.tmp 10) (.const (.int .i64 16)))] [] [11],
 .op 7 (.pick 12 (.tmp 8) (.const (.bool true)) (.tmp 11))] [])
 (.cond (.tmp 12)
 (.seq (.region [.op 0 (.mov 2 (.const (.bool false)))] [])
 .ret)
 .skip))
 (.seq (.seq (.region [.op 0 (.mov 13 (.tmp 0)),
 .op 1 (.len 14 true (.tmp 13)),
 .op 2 (.mov 15 (.const (.int .i64 0)))] [])
 (.block 0 (.loop ⟨[0, 14, 15], []⟩ [((.exit 0), ⟨[], []⟩), (.ret, ⟨[2], []⟩)]
 (.seq (.region [.op 0 (.bin 16 .lss .plain (.tmp 15) (.tmp 14))] [])
 (.seq (.cond (.tmp 16)
 .skip
 (.exit 0))
 (.seq (.block 1 (.seq (.region [.op 0 (.mov 17 (.tmp 15)),
 .op 1 (.mov 3 (.tmp 17))] [])
 (.seq (.region [.op 0 (.mov 18 (.tmp 0)),
 .op 1 (.mov 19 (.tmp 3)),
 .op 2 (.index 20 .str (.tmp 18) (.tmp 19)),
 .op 3 (.mov 4 (.tmp 20))] [])
 (.seq (.region [.op 0 (.mov 21 (.tmp 4)),
 .op 1 (.bin 22 .lss .plain (.tmp 21) (.const (.int .u8 97))),
 .op 2 (.mov 23 (.tmp 22)),
 .guard 23 false [.op 3 (.mov 24 (.tmp 4)),
 .op 4 (.bin 25 .gtr .plain (.tmp 24) (.const (.int .u8 122)))] [] [25],
 .op 5 (.pick 26 (.tmp 23) (.const (.bool true)) (.tmp 25)),
 .op 6 (.mov 27 (.tmp 26)),
 .guard 27 true [.op 7 (.mov 28 (.tmp 4)),
 .op 8 (.bin 29 .lss .plain (.tmp 28) (.const (.int .u8 48))),
 .op 9 (.mov 30 (.tmp 29)),
 .guard 30 false [.op 10 (.mov 31 (.tmp 4)),
 .op 11 (.bin 32 .gtr .plain (.tmp 31) (.const (.int .u8 57)))] [] [32],
 .op 12 (.pick 33 (.tmp 30) (.const (.bool true)) (.tmp 32))] [] [33],
 .op 13 (.pick 34 (.tmp 27) (.tmp 33) (.const (.bool false)))] [])
 (.cond (.tmp 34)
 (.seq (.region [.op 0 (.mov 2 (.const (.bool false)))] [])
 .ret)
 .skip)))))
 (.region [.op 0 (.bin 35 .add .plain (.tmp 15) (.const (.int .i64 1))),
 .op 1 (.mov 15 (.tmp 35))] [])))))))
 (.seq (.region [.op 0 (.mov 2 (.const (.bool true)))] [])
 .ret)))),
 [.tmp 2]⟩
theorem ok64 : funcOk Tryd.prog (drawOk Tryd.prog) Tryd.f64 A64 = true := by kernel_rfl
/-- xs: t0, t14, t15 -/
noncomputable def L64_0 (call : Go.Fw.Call) (xs : List AVal) (h : Heap) : Option J :=
 (aBin .lss .plain (xs.getD 2 .undef) (xs.getD 1 .undef)).bind fun v8 =>
 condV v8
 ((aIndexStr (xs.getD 0 .undef) (xs.getD 2 .undef)).bind fun v9 =>
 (aBin .lss .plain v9 (.int .u8 97)).bind fun v10 =>
 (guardV v10 false
 ((aBin .gtr .plain v9 (.int .u8 122)).bind fun v11 =>
 some (0, [v11], h))
 (some (0, [skipV], h))).bind fun g12 =>
 (aPick v10 (.bool true) (g12.2.1.getD 0 .undef)).bind fun v13 =>
 (guardV v13 true
 ((aBin .lss .plain v9 (.int .u8 48)).bind fun v14 =>
 (guardV v14 false
 ((aBin .gtr .plain v9 (.int .u8 57)).bind fun v15 =>
 some (0, [v15], g12.2.2))
 (some (0, [skipV], g12.2.2))).bind fun g16 =>
 (aPick v14 (.bool true) (g16.2.1.getD 0 .undef)).bind fun v17 =>
 some (0, [v17], g16.2.2))
 (some (0, [skipV], g12.2.2))).bind fun g18 =>
 (aPick v13 (g18.2.1.getD 0 .undef) (.bool false)).bind fun v19 =>
 condV v19
 (some (2, [(.bool false)], g18.2.2))
 ((aBin .add .plain (xs.getD 2 .undef) (.int .i64 1)).bind fun v20 =>
 some (0, [(xs.getD 0 .undef), (xs.getD 1 .undef), v20], g18.2.2)))
 (some (1, [], h))
noncomputable def S64 (call : Go.Fw.Call) (a0 : AVal) (h : Heap) : Option J :=
 (aLen true a0).bind fun v1 =>
 (aBin .eql .plain v1 (.int .i64 0)).bind fun v2 =>
 (guardV v2 false
 ((aLen true a0).bind fun v3 =>
 (aBin .gtr .plain v3 (.int .i64 16)).bind fun v4 =>
 some (0, [v4], h))
 (some (0, [skipV], h))).bind fun g5 =>
 (aPick v2 (.bool true) (g5.2.1.getD 0 .undef)).bind fun v6 =>
 condV v6
 (some (0, [(.bool false)], g5.2.2))
 ((aLen true a0).bind fun v7 =>
 (loop (L64_0 call) [a0, v7, (.int .i64 0)] g5.2.2).bind fun x21 =>
 bif Nat.beq x21.1 1 then some (0, [(.bool true)], x21.2.2) else
 bif Nat.beq x21.1 2 then some (0, [(x21.2.1.getD 0 .undef)], x21.2.2) else
 none)
theorem run64 (call : Go.Fw.Call) (a0 : AVal) (h : Heap) : runFn call (.code A64) [a0] h = (S64 call a0 h).bind ansOf := by kernel_rfl

/-- frankpledge/stamp.Right -/
noncomputable def A65 : AFunc := ⟨1, (.seq (.region [.op 0 (.box 1 true (.tmp 0)),
 .op 1 (.mov 2 (.const (.bool false)))] [])
 (.seq (.region [.op 0 (.faddr 3 0 (.tmp 1)),
 .op 1 (.load 4 false 1 (.tmp 3)),
 .op 2 (.bin 5 .geq .plain (.tmp 4) (.const (.int .i64 0))),
 .op 3 (.mov 6 (.tmp 5)),
 .guard 6 true [.op 4 (.faddr 7 2 (.tmp 1)),
 .op 5 (.load 8 false 1 (.tmp 7)),
 .op 6 (.bin 9 .geq .plain (.tmp 8) (.const (.int .i64 0)))] [] [9],
 .op 7 (.pick 10 (.tmp 6) (.tmp 9) (.const (.bool false))),
 .op 8 (.mov 11 (.tmp 10)),
 .guard 11 true [.op 9 (.faddr 12 1 (.tmp 1)),
 .op 10 (.load 13 false 1 (.tmp 12)),
 .op 11 (.bin 14 .geq .plain (.tmp 13) (.const (.int .i64 0)))] [] [14],
 .op 12 (.pick 15 (.tmp 11) (.tmp 14) (.const (.bool false))),
 .op 13 (.mov 16 (.tmp 15)),
 .guard 16 true [.op 14 (.faddr 17 1 (.tmp 1)),
 .op 15 (.load 18 false 1 (.tmp 17)),
 .op 16 (.bin 19 .lss .plain (.tmp 18) (.const (.int .i64 6)))] [] [19],
 .op 17 (.pick 20 (.tmp 16) (.tmp 19) (.const (.bool false))),
 .op 18 (.mov 2 (.tmp 20))] [])
 .ret)),
 [.tmp 2]⟩
theorem ok65 : funcOk Tryd.prog (drawOk Tryd.prog) Tryd.f65 A65 = true := by kernel_rfl
noncomputable def S65 (call : Go.Fw.Call) (a0 : AVal) (h : Heap) : Option J :=
 (AVal.cells? a0).bind fun c1 =>
 (rdL c1 0 1).bind fun c2 =>
 (fromCells false c2).bind fun v3 =>
 (aBin .geq .plain v3 (.int .i64 0)).bind fun v4 =>
 (guardV v4 true
 ((rdL c1 2 1).bind fun c5 =>
 (fromCells false c5).bind fun v6 =>
 (aBin .geq .plain v6 (.int .i64 0)).bind fun v7 =>
 some (0, [v7], h))
 (some (0, [skipV], h))).bind fun g8 =>
 (aPick v4 (g8.2.1.getD 0 .undef) (.bool false)).bind fun v9 =>
 (guardV v9 true
 ((rdL c1 1 1).bind fun c10 =>
 (fromCells false c10).bind fun v11 =>
 (aBin .geq .plain v11 (.int .i64 0)).bind fun v12 =>
 some (0, [v12], g8.2.2))
 (some (0, [skipV], g8.2.2))).bind fun g13 =>
 (aPick v9 (g13.2.1.getD 0 .undef) (.bool false)).bind fun v14 =>
 (guardV v14 true
 ((rdL c1 1 1).bind fun c15 =>
 (fromCells false c15).bind fun v16 =>
 (aBin .lss .plain v16 (.int .i64 6)).bind fun v17 =>
 some (0, [v17], g13.2.2))
 (some (0, [skipV], g13.2.2))).bind fun g18 =>
 (aPick v14 (g18.2.1.getD 0 .undef) (.bool false)).bind fun v19 =>
 some (0, [v19], g18.2.2)
theorem run65 (call : Go.Fw.Call) (a0 : AVal) (h : Heap) : runFn call (.code A65) [a0] h = (S65 call a0 h).bind ansOf := by kernel_rfl

/-- slices.IndexFunc[[]frankpledge/api.Key,frankpledge/api.Key] -/
noncomputable def A66 : AFunc := ⟨2, (.seq (.region [.op 0 (.mov 4 (.const (.int .i64 0)))] [])
 (.seq (.seq (.region [.op 0 (.mov 6 (.tmp 0)),
 .op 1 (.len 7 false (.tmp 6)),
 .op 2 (.mov 8 (.const (.int .i64 0)))] [])
 (.block 0 (.loop ⟨[0, 1, 7, 8], []⟩ [((.exit 0), ⟨[], []⟩), (.ret, ⟨[4], []⟩)]
 (.seq (.region [.op 0 (.bin 9 .lss .plain (.tmp 8) (.tmp 7))] [])
 (.seq (.cond (.tmp 9)
 .skip
 (.exit 0))
 (.seq (.block 1 (.seq (.region [.op 0 (.mov 10 (.tmp 8)),
 .op 1 (.mov 5 (.tmp 10))] [])
 (.seq (.region [.op 0 (.mov 11 (.tmp 1)),
 .op 1 (.mov 12 (.tmp 0)),
 .op 2 (.mov 13 (.tmp 5)),
 .op 3 (.iaddr 14 none 2 (.tmp 12) (.tmp 13)),
 .op 4 (.load 15 true 2 (.tmp 14)),
 .op 5 (.callv 16 (.tmp 11) [.tmp 15])] [])
 (.cond (.tmp 16)
 (.seq (.region [.op 0 (.mov 17 (.tmp 5)),
 .op 1 (.mov 4 (.tmp 17))] [])
 .ret)
 .skip))))
 (.region [.op 0 (.bin 18 .add .plain (.tmp 8) (.const (.int .i64 1))),
 .op 1 (.mov 8 (.tmp 18))] [])))))))
 (.seq (.region [.op 0 (.mov 4 (.const (.int .i64 (-1))))] [])
 .ret))),
 [.tmp 4]⟩
theorem ok66 : funcOk Tryd.prog (drawOk Tryd.prog) Tryd.f66 A66 = true := by kernel_rfl
/-- xs: t0, t1, t7, t8 -/
noncomputable def L66_0 (call : Go.Fw.Call) (xs : List AVal) (h : Heap) : Option J :=
 (aBin .lss .plain (xs.getD 3 .undef) (xs.getD 2 .undef)).bind fun v2 =>
 condV v2
 ((aIaddr 2 (xs.getD 0 .undef) (xs.getD 3 .undef)).bind fun v3 =>
 (aLoad h 2 v3).bind fun c4 =>
 (fromCells true c4).bind fun v5 =>
 (aFn (xs.getD 1 .undef)).bind fun q6 =>
 (call q6.1 ([v5] ++ q6.2) h).bind fun r7 =>
 condV r7.1
 (some (2, [(xs.getD 3 .undef)], r7.2))
 ((aBin .add .plain (xs.getD 3 .undef) (.int .i64 1)).bind fun v8 =>
 some (0, [(xs.getD 0 .undef), (xs.getD 1 .undef), (xs.getD 2 .undef), v8], r7.2)))
 (some (1, [], h))
noncomputable def S66 (call : Go.Fw.Call) (a0 a1 : AVal) (h : Heap) : Option J :=
 (aLen false a0).bind fun v1 =>
 (loop (L66_0 call) [a0, a1, v1, (.int .i64 0)] h).bind fun x9 =>
 bif Nat.beq x9.1 1 then some (0, [(.int .i64 (-1))], x9.2.2) else
 bif Nat.beq x9.1 2 then some (0, [(x9.2.1.getD 0 .undef)], x9.2.2) else
 none
theorem run66 (call : Go.Fw.Call) (a0 a1 : AVal) (h : Heap) : runFn call (.code A66) [a0, a1] h = (S66 call a0 a1 h).bind ansOf := by kernel_rfl

/-- (*frankpledge/pack.Reader).take -/
noncomputable def A67 : AFunc := ⟨2, (.seq (.region [.op 0 (.mov 4 (.const (.nilSlice)))] [])
 (.seq (.seq (.region [.op 0 (.mov 6 (.tmp 0)),
 .op 1 (.nilchk 7 (.tmp 6)),
 .op 2 (.faddr 8 1 (.tmp 7)),
 .op 3 (.load 9 false 1 (.tmp 8)),
 .op 4 (.mov 10 (.tmp 9)),
 .guard 10 false [.op 5 (.mov 11 (.tmp 1)),
 .op 6 (.mov 12 (.tmp 0)),
 .op 7 (.nilchk 13 (.tmp 12)),
 .op 8 (.faddr 14 0 (.tmp 13)),
 .op 9 (.load 15 false 1 (.tmp 14)),
 .op 10 (.len 16 false (.tmp 15)),
 .op 11 (.bin 17 .gtr .plain (.tmp 11) (.tmp 16))] [] [17],
 .op 12 (.pick 18 (.tmp 10) (.const (.bool true)) (.tmp 17))] [])
 (.cond (.tmp 18)
 (.seq (.region [.op 0 (.mov 19 (.tmp 0)),
 .op 1 (.nilchk 20 (.tmp 19)),
 .op 2 (.faddr 21 1 (.tmp 20)),
 .op 3 (.store false 1 (.tmp 21) (.const (.bool true)))] [])
 (.seq (.region [.op 0 (.mov 4 (.const (.nilSlice)))] [])
 .ret))
 .skip))
 (.seq (.region [.op 0 (.mov 22 (.tmp 0)),
 .op 1 (.nilchk 23 (.tmp 22)),
 .op 2 (.faddr 24 0 (.tmp 23)),
 .op 3 (.load 25 false 1 (.tmp 24)),
 .op 4 (.mov 26 (.tmp 1)),
 .op 5 (.slice 27 (.sl 1) (.tmp 25) none (some (.tmp 26)) none),
 .op 6 (.mov 5 (.tmp 27))] [])
 (.seq (.region [.op 0 (.mov 28 (.tmp 0)),
 .op 1 (.mov 29 (.tmp 0)),
 .op 2 (.nilchk 30 (.tmp 29)),
 .op 3 (.faddr 31 0 (.tmp 30)),
 .op 4 (.load 32 false 1 (.tmp 31)),
 .op 5 (.mov 33 (.tmp 1)),
 .op 6 (.slice 34 (.sl 1) (.tmp 32) (some (.tmp 33)) none none),
 .op 7 (.nilchk 35 (.tmp 28)),
 .op 8 (.faddr 36 0 (.tmp 35)),
 .op 9 (.store false 1 (.tmp 36) (.tmp 34))] [])
 (.seq (.region [.op 0 (.mov 37 (.tmp 5)),
 .op 1 (.mov 4 (.tmp 37))] [])
 .ret))))),
 [.tmp 4]⟩
theorem ok67 : funcOk Tryd.prog (drawOk Tryd.prog) Tryd.f67 A67 = true := by kernel_rfl
noncomputable def S67 (call : Go.Fw.Call) (a0 a1 : AVal) (h : Heap) : Option J :=
 (aNilchk a0).bind fun v1 =>
 (aFaddr 1 v1).bind fun v2 =>
 (aLoad h 1 v2).bind fun c3 =>
 (fromCells false c3).bind fun v4 =>
 (guardV v4 false
 ((aNilchk a0).bind fun v5 =>
 (aFaddr 0 v5).bind fun v6 =>
 (aLoad h 1 v6).bind fun c7 =>
 (fromCells false c7).bind fun v8 =>
 (aLen false v8).bind fun v9 =>
 (aBin .gtr .plain a1 v9).bind fun v10 =>
 some (0, [v10], h))
 (some (0, [skipV], h))).bind fun g11 =>
 (aPick v4 (.bool true) (g11.2.1.getD 0 .undef)).bind fun v12 =>
 condV v12
 ((aNilchk a0).bind fun v13 =>
 (aFaddr 1 v13).bind fun v14 =>
 (aCells 1 (.bool true)).bind fun c15 =>
 (aStore g11.2.2 v14 c15).bind fun h16 =>
 some (0, [(.nilSlice)], h16))
 ((aNilchk a0).bind fun v17 =>
 (aFaddr 0 v17).bind fun v18 =>
 (aLoad g11.2.2 1 v18).bind fun c19 =>
 (fromCells false c19).bind fun v20 =>
 (aSliceSl 1 v20 none (some a1) none).bind fun v21 =>
 (aNilchk a0).bind fun v22 =>
 (aFaddr 0 v22).bind fun v23 =>
 (aLoad g11.2.2 1 v23).bind fun c24 =>
 (fromCells false c24).bind fun v25 =>
 (aSliceSl 1 v25 (some a1) none none).bind fun v26 =>
 (aNilchk a0).bind fun v27 =>
 (aFaddr 0 v27).bind fun v28 =>
 (aCells 1 v26).bind fun c29 =>
 (aStore g11.2.2 v28 c29).bind fun h30 =>
 some (0, [v21], h30))
theorem run67 (call : Go.Fw.Call) (a0 a1 : AVal) (h : Heap) : runFn call (.code A67) [a0, a1] h = (S67 call a0 a1 h).bind ansOf := by kernel_rfl

/-- (*frankpledge/pack.Reader).Text -/
noncomputable def A68 : AFunc := ⟨1, (.seq (.region [.op 0 (.mov 2 (.const (.str [])))] [])
 (.seq (.region [.op 0 (.mov 3 (.tmp 0)),
 .op 1 (.mov 4 (.tmp 0)),
 .op 2 (.call 5 51 [.tmp 4]),
 .op 3 (.call 6 67 [.tmp 3, .tmp 5]),
 .op 4 (.conv 7 .bytesStr (.tmp 6)),
 .op 5 (.mov 2 (.tmp 7))] [])
 .ret)),
 [.tmp 2]⟩
theorem ok68 : funcOk Tryd.prog (drawOk Tryd.prog) Tryd.f68 A68 = true := by kernel_rfl
noncomputable def S68 (call : Go.Fw.Call) (a0 : AVal) (h : Heap) : Option J :=
 (call 51 [a0] h).bind fun r1 =>
 (call 67 [a0, r1.1] r1.2).bind fun r2 =>
 (aConv .bytesStr r2.1 r2.2).bind fun r3 =>
 some (0, [r3.1], r3.2)
theorem run68 (call : Go.Fw.Call) (a0 : AVal) (h : Heap) : runFn call (.code A68) [a0] h = (S68 call a0 h).bind ansOf := by kernel_rfl

-- 69 no body
-- 70 no body
-- 71 no body
-- 86 no body
/-- (*frankpledge/fault.Fault).Unwrap -/
noncomputable def A92 : AFunc := ⟨1, (.seq (.region [.op 0 (.mov 2 (.const (.nilIface)))] [])
 (.seq (.region [.op 0 (.mov 3 (.tmp 0)),
 .op 1 (.nilchk 4 (.tmp 3)),
 .op 2 (.faddr 5 1 (.tmp 4)),
 .op 3 (.load 6 false 1 (.tmp 5)),
 .op 4 (.mov 2 (.tmp 6))] [])
 .ret)),
 [.tmp 2]⟩
theorem ok92 : funcOk Tryd.prog (drawOk Tryd.prog) Tryd.f92 A92 = true := by kernel_rfl
noncomputable def S92 (call : Go.Fw.Call) (a0 : AVal) (h : Heap) : Option J :=
 (aNilchk a0).bind fun v1 =>
 (aFaddr 1 v1).bind fun v2 =>
 (aLoad h 1 v2).bind fun c3 =>
 (fromCells false c3).bind fun v4 =>
 some (0, [v4], h)
theorem run92 (call : Go.Fw.Call) (a0 : AVal) (h : Heap) : runFn call (.code A92) [a0] h = (S92 call a0 h).bind ansOf := by kernel_rfl

-- 97 no body
-- 99 no body
-- 100 no body
noncomputable def tbl (f : Nat) : Option AFn :=
 match f with
 | 3 => some (.code A3)
 | 4 => some (.code A4)
 | 5 => some (.code A5)
 | 6 => some (.code A6)
 | 7 => some (.code A7)
 | 8 => some (.code A8)
 | 9 => some (.code A9)
 | 10 => some (.code A10)
 | 11 => some (.code A11)
 | 12 => some (.code A12)
 | 13 => some (.code A13)
 | 14 => some (.code A14)
 | 15 => some (.code A15)
 | 16 => some (.code A16)
 | 17 => some (.code A17)
 | 18 => some (.code A18)
 | 19 => some (.code A19)
 | 20 => some (.code A20)
 | 21 => some (.code A21)
 | 22 => some (.code A22)
 | 23 => some (.code A23)
 | 24 => some (.code A24)
 | 25 => some (.code A25)
 | 26 => some (.code A26)
 | 27 => some (.code A27)
 | 28 => some (.code A28)
 | 29 => some (.code A29)
 | 30 => some (.code A30)
 | 31 => some (.code A31)
 | 32 => some (.code A32)
 | 33 => some (.code A33)
 | 34 => some (.code A34)
 | 35 => some (.code A35)
 | 36 => some (.code A36)
 | 37 => some (.code A37)
 | 38 => some (.code A38)
 | 39 => some (.code A39)
 | 40 => some (.code A40)
 | 41 => some (.code A41)
 | 42 => some (.code A42)
 | 43 => some (.code A43)
 | 44 => some (.code A44)
 | 45 => some (.code A45)
 | 46 => some (.code A46)
 | 47 => some (.code A47)
 | 48 => some (.code A48)
 | 49 => some (.code A49)
 | 50 => some (.code A50)
 | 51 => some (.code A51)
 | 52 => some (.code A52)
 | 53 => some (.code A53)
 | 54 => some (.code A54)
 | 55 => some (.code A55)
 | 56 => some (.code A56)
 | 57 => some (.code A57)
 | 58 => some (.prim (pValueOf 1 [(43, 2), (75, 22), (86, 22), (109, 22)]))
 | 59 => some (.prim (pValueType 118 1))
 | 60 => some (.prim (pIsNil 1 [(75, 43, 2), (109, 86, 22)]))
 | 61 => some (.code A61)
 | 62 => some (.code A62)
 | 63 => some (.code A63)
 | 64 => some (.code A64)
 | 65 => some (.code A65)
 | 66 => some (.code A66)
 | 67 => some (.code A67)
 | 68 => some (.code A68)
 | 69 => some (.prim (pTypeOf 118 1))
 | 70 => some (.prim (pValueElem 1 [(75, 43, 2), (109, 86, 22)]))
 | 71 => some (.prim (pSet 1 [43, 86]))
 | 86 => some (.prim (pClosed tab86))
 | 92 => some (.code A92)
 | 97 => some (.prim (pClosed tab97))
 | 98 => some (.prim (pClosed tab98))
 | 99 => some (.prim (pClosed tab99))
 | 100 => some (.prim (pClosed tab100))
 | _ => none
theorem c3 (a0 a1 : AVal) (h : Heap) : E tbl 3 [a0, a1] h = (S3 (E tbl) a0 a1 h).bind ansOf := (E_eq tbl 3 [a0, a1] h).trans (run3 (E tbl) a0 a1 h)
theorem c4 (a0 a1 : AVal) (h : Heap) : E tbl 4 [a0, a1] h = (S4 (E tbl) a0 a1 h).bind ansOf := (E_eq tbl 4 [a0, a1] h).trans (run4 (E tbl) a0 a1 h)
theorem c5 (a0 a1 : AVal) (h : Heap) : E tbl 5 [a0, a1] h = (S5 (E tbl) a0 a1 h).bind ansOf := (E_eq tbl 5 [a0, a1] h).trans (run5 (E tbl) a0 a1 h)
theorem c6 (a0 : AVal) (h : Heap) : E tbl 6 [a0] h = (S6 (E tbl) a0 h).bind ansOf := (E_eq tbl 6 [a0] h).trans (run6 (E tbl) a0 h)
theorem c7 (a0 : AVal) (h : Heap) : E tbl 7 [a0] h = (S7 (E tbl) a0 h).bind ansOf := (E_eq tbl 7 [a0] h).trans (run7 (E tbl) a0 h)
theorem c8 (a0 : AVal) (h : Heap) : E tbl 8 [a0] h = (S8 (E tbl) a0 h).bind ansOf := (E_eq tbl 8 [a0] h).trans (run8 (E tbl) a0 h)
theorem c9 (a0 a1 : AVal) (h : Heap) : E tbl 9 [a0, a1] h = (S9 (E tbl) a0 a1 h).bind ansOf := (E_eq tbl 9 [a0, a1] h).trans (run9 (E tbl) a0 a1 h)
theorem c10 (a0 a1 a2 : AVal) (h : Heap) : E tbl 10 [a0, a1, a2] h = (S10 (E tbl) a0 a1 a2 h).bind ansOf := (E_eq tbl 10 [a0, a1, a2] h).trans (run10 (E tbl) a0 a1 a2 h)
theorem c11 (a0 : AVal) (h : Heap) : E tbl 11 [a0] h = (S11 (E tbl) a0 h).bind ansOf := (E_eq tbl 11 [a0] h).trans (run11 (E tbl) a0 h)
theorem c12 (h : Heap) : E tbl 12 [] h = (S12 (E tbl)  h).bind ansOf := (E_eq tbl 12 [] h).trans (run12 (E tbl)  h)
theorem c13 (a0 : AVal) (h : Heap) : E tbl 13 [a0] h = (S13 (E tbl) a0 h).bind ansOf := (E_eq tbl 13 [a0] h).trans (run13 (E tbl) a0 h)
theorem c14 (a0 a1 : AVal) (h : Heap) : E tbl 14 [a0, a1] h = (S14 (E tbl) a0 a1 h).bind ansOf := (E_eq tbl 14 [a0, a1] h).trans (run14 (E tbl) a0 a1 h)
theorem c15 (a0 a1 a2 a3 : AVal) (h : Heap) : E tbl 15 [a0, a1, a2, a3] h = (S15 (E tbl) a0 a1 a2 a3 h).bind ansOf := (E_eq tbl 15 [a0, a1, a2, a3] h).trans (run15 (E tbl) a0 a1 a2 a3 h)
theorem c16 (a0 a1 : AVal) (h : Heap) : E tbl 16 [a0, a1] h = (S16 (E tbl) a0 a1 h).bind ansOf := (E_eq tbl 16 [a0, a1] h).trans (run16 (E tbl) a0 a1 h)
theorem c17 (a0 a1 : AVal) (h : Heap) : E tbl 17 [a0, a1] h = (S17 (E tbl) a0 a1 h).bind ansOf := (E_eq tbl 17 [a0, a1] h).trans (run17 (E tbl) a0 a1 h)
theorem c18 (a0 : AVal) (h : Heap) : E tbl 18 [a0] h = (S18 (E tbl) a0 h).bind ansOf := (E_eq tbl 18 [a0] h).trans (run18 (E tbl) a0 h)
theorem c19 (a0 : AVal) (h : Heap) : E tbl 19 [a0] h = (S19 (E tbl) a0 h).bind ansOf := (E_eq tbl 19 [a0] h).trans (run19 (E tbl) a0 h)
theorem c20 (a0 a1 : AVal) (h : Heap) : E tbl 20 [a0, a1] h = (S20 (E tbl) a0 a1 h).bind ansOf := (E_eq tbl 20 [a0, a1] h).trans (run20 (E tbl) a0 a1 h)
theorem c21 (a0 a1 : AVal) (h : Heap) : E tbl 21 [a0, a1] h = (S21 (E tbl) a0 a1 h).bind ansOf := (E_eq tbl 21 [a0, a1] h).trans (run21 (E tbl) a0 a1 h)
theorem c22 (a0 a1 : AVal) (h : Heap) : E tbl 22 [a0, a1] h = (S22 (E tbl) a0 a1 h).bind ansOf := (E_eq tbl 22 [a0, a1] h).trans (run22 (E tbl) a0 a1 h)
theorem c23 (a0 a1 : AVal) (h : Heap) : E tbl 23 [a0, a1] h = (S23 (E tbl) a0 a1 h).bind ansOf := (E_eq tbl 23 [a0, a1] h).trans (run23 (E tbl) a0 a1 h)
theorem c24 (a0 : AVal) (h : Heap) : E tbl 24 [a0] h = (S24 (E tbl) a0 h).bind ansOf := (E_eq tbl 24 [a0] h).trans (run24 (E tbl) a0 h)
theorem c25 (a0 a1 : AVal) (h : Heap) : E tbl 25 [a0, a1] h = (S25 (E tbl) a0 a1 h).bind ansOf := (E_eq tbl 25 [a0, a1] h).trans (run25 (E tbl) a0 a1 h)
theorem c26 (a0 a1 : AVal) (h : Heap) : E tbl 26 [a0, a1] h = (S26 (E tbl) a0 a1 h).bind ansOf := (E_eq tbl 26 [a0, a1] h).trans (run26 (E tbl) a0 a1 h)
theorem c27 (a0 : AVal) (h : Heap) : E tbl 27 [a0] h = (S27 (E tbl) a0 h).bind ansOf := (E_eq tbl 27 [a0] h).trans (run27 (E tbl) a0 h)
theorem c28 (a0 : AVal) (h : Heap) : E tbl 28 [a0] h = (S28 (E tbl) a0 h).bind ansOf := (E_eq tbl 28 [a0] h).trans (run28 (E tbl) a0 h)
theorem c29 (a0 : AVal) (h : Heap) : E tbl 29 [a0] h = (S29 (E tbl) a0 h).bind ansOf := (E_eq tbl 29 [a0] h).trans (run29 (E tbl) a0 h)
theorem c30 (a0 : AVal) (h : Heap) : E tbl 30 [a0] h = (S30 (E tbl) a0 h).bind ansOf := (E_eq tbl 30 [a0] h).trans (run30 (E tbl) a0 h)
theorem c31 (a0 a1 : AVal) (h : Heap) : E tbl 31 [a0, a1] h = (S31 (E tbl) a0 a1 h).bind ansOf := (E_eq tbl 31 [a0, a1] h).trans (run31 (E tbl) a0 a1 h)
theorem c32 (a0 a1 : AVal) (h : Heap) : E tbl 32 [a0, a1] h = (S32 (E tbl) a0 a1 h).bind ansOf := (E_eq tbl 32 [a0, a1] h).trans (run32 (E tbl) a0 a1 h)
theorem c33 (a0 a1 : AVal) (h : Heap) : E tbl 33 [a0, a1] h = (S33 (E tbl) a0 a1 h).bind ansOf := (E_eq tbl 33 [a0, a1] h).trans (run33 (E tbl) a0 a1 h)
theorem c34 (a0 a1 : AVal) (h : Heap) : E tbl 34 [a0, a1] h = (S34 (E tbl) a0 a1 h).bind ansOf := (E_eq tbl 34 [a0, a1] h).trans (run34 (E tbl) a0 a1 h)
theorem c35 (a0 : AVal) (h : Heap) : E tbl 35 [a0] h = (S35 (E tbl) a0 h).bind ansOf := (E_eq tbl 35 [a0] h).trans (run35 (E tbl) a0 h)
theorem c36 (a0 a1 : AVal) (h : Heap) : E tbl 36 [a0, a1] h = (S36 (E tbl) a0 a1 h).bind ansOf := (E_eq tbl 36 [a0, a1] h).trans (run36 (E tbl) a0 a1 h)
theorem c37 (a0 : AVal) (h : Heap) : E tbl 37 [a0] h = (S37 (E tbl) a0 h).bind ansOf := (E_eq tbl 37 [a0] h).trans (run37 (E tbl) a0 h)
theorem c38 (a0 a1 : AVal) (h : Heap) : E tbl 38 [a0, a1] h = (S38 (E tbl) a0 a1 h).bind ansOf := (E_eq tbl 38 [a0, a1] h).trans (run38 (E tbl) a0 a1 h)
theorem c39 (a0 a1 : AVal) (h : Heap) : E tbl 39 [a0, a1] h = (S39 (E tbl) a0 a1 h).bind ansOf := (E_eq tbl 39 [a0, a1] h).trans (run39 (E tbl) a0 a1 h)
theorem c40 (a0 : AVal) (h : Heap) : E tbl 40 [a0] h = (S40 (E tbl) a0 h).bind ansOf := (E_eq tbl 40 [a0] h).trans (run40 (E tbl) a0 h)
theorem c41 (a0 : AVal) (h : Heap) : E tbl 41 [a0] h = (S41 (E tbl) a0 h).bind ansOf := (E_eq tbl 41 [a0] h).trans (run41 (E tbl) a0 h)
theorem c42 (a0 : AVal) (h : Heap) : E tbl 42 [a0] h = (S42 (E tbl) a0 h).bind ansOf := (E_eq tbl 42 [a0] h).trans (run42 (E tbl) a0 h)
theorem c43 (a0 a1 : AVal) (h : Heap) : E tbl 43 [a0, a1] h = (S43 (E tbl) a0 a1 h).bind ansOf := (E_eq tbl 43 [a0, a1] h).trans (run43 (E tbl) a0 a1 h)
theorem c44 (a0 : AVal) (h : Heap) : E tbl 44 [a0] h = (S44 (E tbl) a0 h).bind ansOf := (E_eq tbl 44 [a0] h).trans (run44 (E tbl) a0 h)
theorem c45 (a0 : AVal) (h : Heap) : E tbl 45 [a0] h = (S45 (E tbl) a0 h).bind ansOf := (E_eq tbl 45 [a0] h).trans (run45 (E tbl) a0 h)
theorem c46 (a0 a1 : AVal) (h : Heap) : E tbl 46 [a0, a1] h = (S46 (E tbl) a0 a1 h).bind ansOf := (E_eq tbl 46 [a0, a1] h).trans (run46 (E tbl) a0 a1 h)
theorem c47 (a0 : AVal) (h : Heap) : E tbl 47 [a0] h = (S47 (E tbl) a0 h).bind ansOf := (E_eq tbl 47 [a0] h).trans (run47 (E tbl) a0 h)
theorem c48 (a0 : AVal) (h : Heap) : E tbl 48 [a0] h = (S48 (E tbl) a0 h).bind ansOf := (E_eq tbl 48 [a0] h).trans (run48 (E tbl) a0 h)
theorem c49 (a0 : AVal) (h : Heap) : E tbl 49 [a0] h = (S49 (E tbl) a0 h).bind ansOf := (E_eq tbl 49 [a0] h).trans (run49 (E tbl) a0 h)
theorem c50 (a0 a1 : AVal) (h : Heap) : E tbl 50 [a0, a1] h = (S50 (E tbl) a0 a1 h).bind ansOf := (E_eq tbl 50 [a0, a1] h).trans (run50 (E tbl) a0 a1 h)
theorem c51 (a0 : AVal) (h : Heap) : E tbl 51 [a0] h = (S51 (E tbl) a0 h).bind ansOf := (E_eq tbl 51 [a0] h).trans (run51 (E tbl) a0 h)
theorem c52 (a0 : AVal) (h : Heap) : E tbl 52 [a0] h = (S52 (E tbl) a0 h).bind ansOf := (E_eq tbl 52 [a0] h).trans (run52 (E tbl) a0 h)
theorem c53 (a0 : AVal) (h : Heap) : E tbl 53 [a0] h = (S53 (E tbl) a0 h).bind ansOf := (E_eq tbl 53 [a0] h).trans (run53 (E tbl) a0 h)
theorem c54 (a0 : AVal) (h : Heap) : E tbl 54 [a0] h = (S54 (E tbl) a0 h).bind ansOf := (E_eq tbl 54 [a0] h).trans (run54 (E tbl) a0 h)
theorem c55 (a0 : AVal) (h : Heap) : E tbl 55 [a0] h = (S55 (E tbl) a0 h).bind ansOf := (E_eq tbl 55 [a0] h).trans (run55 (E tbl) a0 h)
theorem c56 (a0 : AVal) (h : Heap) : E tbl 56 [a0] h = (S56 (E tbl) a0 h).bind ansOf := (E_eq tbl 56 [a0] h).trans (run56 (E tbl) a0 h)
theorem c57 (a0 : AVal) (h : Heap) : E tbl 57 [a0] h = (S57 (E tbl) a0 h).bind ansOf := (E_eq tbl 57 [a0] h).trans (run57 (E tbl) a0 h)
theorem c61 (a0 a1 a2 a3 : AVal) (h : Heap) : E tbl 61 [a0, a1, a2, a3] h = (S61 (E tbl) a0 a1 a2 a3 h).bind ansOf := (E_eq tbl 61 [a0, a1, a2, a3] h).trans (run61 (E tbl) a0 a1 a2 a3 h)
theorem c62 (a0 : AVal) (h : Heap) : E tbl 62 [a0] h = (S62 (E tbl) a0 h).bind ansOf := (E_eq tbl 62 [a0] h).trans (run62 (E tbl) a0 h)
theorem c63 (a0 a1 : AVal) (h : Heap) : E tbl 63 [a0, a1] h = (S63 (E tbl) a0 a1 h).bind ansOf := (E_eq tbl 63 [a0, a1] h).trans (run63 (E tbl) a0 a1 h)
theorem c64 (a0 : AVal) (h : Heap) : E tbl 64 [a0] h = (S64 (E tbl) a0 h).bind ansOf := (E_eq tbl 64 [a0] h).trans (run64 (E tbl) a0 h)
theorem c65 (a0 : AVal) (h : Heap) : E tbl 65 [a0] h = (S65 (E tbl) a0 h).bind ansOf := (E_eq tbl 65 [a0] h).trans (run65 (E tbl) a0 h)
theorem c66 (a0 a1 : AVal) (h : Heap) : E tbl 66 [a0, a1] h = (S66 (E tbl) a0 a1 h).bind ansOf := (E_eq tbl 66 [a0, a1] h).trans (run66 (E tbl) a0 a1 h)
theorem c67 (a0 a1 : AVal) (h : Heap) : E tbl 67 [a0, a1] h = (S67 (E tbl) a0 a1 h).bind ansOf := (E_eq tbl 67 [a0, a1] h).trans (run67 (E tbl) a0 a1 h)
theorem c68 (a0 : AVal) (h : Heap) : E tbl 68 [a0] h = (S68 (E tbl) a0 h).bind ansOf := (E_eq tbl 68 [a0] h).trans (run68 (E tbl) a0 h)
theorem c92 (a0 : AVal) (h : Heap) : E tbl 92 [a0] h = (S92 (E tbl) a0 h).bind ansOf := (E_eq tbl 92 [a0] h).trans (run92 (E tbl) a0 h)
theorem c58 (l : List AVal) (h : Heap) : E tbl 58 l h = pValueOf 1 [(43, 2), (75, 22), (86, 22), (109, 22)] l h := E_eq tbl 58 l h
theorem c59 (l : List AVal) (h : Heap) : E tbl 59 l h = pValueType 118 1 l h := E_eq tbl 59 l h
theorem c60 (l : List AVal) (h : Heap) : E tbl 60 l h = pIsNil 1 [(75, 43, 2), (109, 86, 22)] l h := E_eq tbl 60 l h
theorem c69 (l : List AVal) (h : Heap) : E tbl 69 l h = pTypeOf 118 1 l h := E_eq tbl 69 l h
theorem c70 (l : List AVal) (h : Heap) : E tbl 70 l h = pValueElem 1 [(75, 43, 2), (109, 86, 22)] l h := E_eq tbl 70 l h
theorem c71 (l : List AVal) (h : Heap) : E tbl 71 l h = pSet 1 [43, 86] l h := E_eq tbl 71 l h
theorem c86 (l : List AVal) (h : Heap) : E tbl 86 l h = pClosed tab86 l h := E_eq tbl 86 l h
theorem c97 (l : List AVal) (h : Heap) : E tbl 97 l h = pClosed tab97 l h := E_eq tbl 97 l h
theorem c98 (l : List AVal) (h : Heap) : E tbl 98 l h = pClosed tab98 l h := E_eq tbl 98 l h
theorem c99 (l : List AVal) (h : Heap) : E tbl 99 l h = pClosed tab99 l h := E_eq tbl 99 l h
theorem c100 (l : List AVal) (h : Heap) : E tbl 100 l h = pClosed tab100 l h := E_eq tbl 100 l h
theorem tbl_ok : ∀ f a, tbl f = some a → FnOk Tryd.prog (drawOk Tryd.prog) f a := by
  intro f a h
  unfold tbl at h
  split at h
  · cases h; exact ⟨_, Tryd.func3, by decide +kernel, ok3⟩
  · cases h; exact ⟨_, Tryd.func4, by decide +kernel, ok4⟩
  · cases h; exact ⟨_, Tryd.func5, by decide +kernel, ok5⟩
  · cases h; exact ⟨_, Tryd.func6, by decide +kernel, ok6⟩
  · cases h; exact ⟨_, Tryd.func7, by decide +kernel, ok7⟩
  · cases h; exact ⟨_, Tryd.func8, by decide +kernel, ok8⟩
  · cases h; exact ⟨_, Tryd.func9, by decide +kernel, ok9⟩
  · cases h; exact ⟨_, Tryd.func10, by decide +kernel, ok10⟩
  · cases h; exact ⟨_, Tryd.func11, by decide +kernel, ok11⟩
  · cases h; exact ⟨_, Tryd.func12, by decide +kernel, ok12⟩
  · cases h; exact ⟨_, Tryd.func13, by decide +kernel, ok13⟩
  · cases h; exact ⟨_, Tryd.func14, by decide +kernel, ok14⟩
  · cases h; exact ⟨_, Tryd.func15, by decide +kernel, ok15⟩
  · cases h; exact ⟨_, Tryd.func16, by decide +kernel, ok16⟩
  · cases h; exact ⟨_, Tryd.func17, by decide +kernel, ok17⟩
  · cases h; exact ⟨_, Tryd.func18, by decide +kernel, ok18⟩
  · cases h; exact ⟨_, Tryd.func19, by decide +kernel, ok19⟩
  · cases h; exact ⟨_, Tryd.func20, by decide +kernel, ok20⟩
  · cases h; exact ⟨_, Tryd.func21, by decide +kernel, ok21⟩
  · cases h; exact ⟨_, Tryd.func22, by decide +kernel, ok22⟩
  · cases h; exact ⟨_, Tryd.func23, by decide +kernel, ok23⟩
  · cases h; exact ⟨_, Tryd.func24, by decide +kernel, ok24⟩
  · cases h; exact ⟨_, Tryd.func25, by decide +kernel, ok25⟩
  · cases h; exact ⟨_, Tryd.func26, by decide +kernel, ok26⟩
  · cases h; exact ⟨_, Tryd.func27, by decide +kernel, ok27⟩
  · cases h; exact ⟨_, Tryd.func28, by decide +kernel, ok28⟩
  · cases h; exact ⟨_, Tryd.func29, by decide +kernel, ok29⟩
  · cases h; exact ⟨_, Tryd.func30, by decide +kernel, ok30⟩
  · cases h; exact ⟨_, Tryd.func31, by decide +kernel, ok31⟩
  · cases h; exact ⟨_, Tryd.func32, by decide +kernel, ok32⟩
  · cases h; exact ⟨_, Tryd.func33, by decide +kernel, ok33⟩
  · cases h; exact ⟨_, Tryd.func34, by decide +kernel, ok34⟩
  · cases h; exact ⟨_, Tryd.func35, by decide +kernel, ok35⟩
  · cases h; exact ⟨_, Tryd.func36, by decide +kernel, ok36⟩
  · cases h; exact ⟨_, Tryd.func37, by decide +kernel, ok37⟩
  · cases h; exact ⟨_, Tryd.func38, by decide +kernel, ok38⟩
  · cases h; exact ⟨_, Tryd.func39, by decide +kernel, ok39⟩
  · cases h; exact ⟨_, Tryd.func40, by decide +kernel, ok40⟩
  · cases h; exact ⟨_, Tryd.func41, by decide +kernel, ok41⟩
  · cases h; exact ⟨_, Tryd.func42, by decide +kernel, ok42⟩
  · cases h; exact ⟨_, Tryd.func43, by decide +kernel, ok43⟩
  · cases h; exact ⟨_, Tryd.func44, by decide +kernel, ok44⟩
  · cases h; exact ⟨_, Tryd.func45, by decide +kernel, ok45⟩
  · cases h; exact ⟨_, Tryd.func46, by decide +kernel, ok46⟩
  · cases h; exact ⟨_, Tryd.func47, by decide +kernel, ok47⟩
  · cases h; exact ⟨_, Tryd.func48, by decide +kernel, ok48⟩
  · cases h; exact ⟨_, Tryd.func49, by decide +kernel, ok49⟩
  · cases h; exact ⟨_, Tryd.func50, by decide +kernel, ok50⟩
  · cases h; exact ⟨_, Tryd.func51, by decide +kernel, ok51⟩
  · cases h; exact ⟨_, Tryd.func52, by decide +kernel, ok52⟩
  · cases h; exact ⟨_, Tryd.func53, by decide +kernel, ok53⟩
  · cases h; exact ⟨_, Tryd.func54, by decide +kernel, ok54⟩
  · cases h; exact ⟨_, Tryd.func55, by decide +kernel, ok55⟩
  · cases h; exact ⟨_, Tryd.func56, by decide +kernel, ok56⟩
  · cases h; exact ⟨_, Tryd.func57, by decide +kernel, ok57⟩
  · cases h; exact prim58
  · cases h; exact prim59
  · cases h; exact prim60
  · cases h; exact ⟨_, Tryd.func61, by decide +kernel, ok61⟩
  · cases h; exact ⟨_, Tryd.func62, by decide +kernel, ok62⟩
  · cases h; exact ⟨_, Tryd.func63, by decide +kernel, ok63⟩
  · cases h; exact ⟨_, Tryd.func64, by decide +kernel, ok64⟩
  · cases h; exact ⟨_, Tryd.func65, by decide +kernel, ok65⟩
  · cases h; exact ⟨_, Tryd.func66, by decide +kernel, ok66⟩
  · cases h; exact ⟨_, Tryd.func67, by decide +kernel, ok67⟩
  · cases h; exact ⟨_, Tryd.func68, by decide +kernel, ok68⟩
  · cases h; exact prim69
  · cases h; exact prim70
  · cases h; exact prim71
  · cases h; exact prim86
  · cases h; exact ⟨_, Tryd.func92, by decide +kernel, ok92⟩
  · cases h; exact prim97
  · cases h; exact prim98
  · cases h; exact prim99
  · cases h; exact prim100
  · cases h
theorem prog_ok : CallOk Tryd.prog (E tbl) := E_ok tbl_ok
end Go.Proofs.YtjibfbphiemljaaDoor.Code
