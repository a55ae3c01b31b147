/- The pieces of LookTurns without a map. -/
import Derived.Test.YtllogmedpmanoaaMapE
namespace Go.Fw
set_option linter.unusedSimpArgs false
set_option linter.unusedVariables false

def ac0 : ACode := .region [.op 0 (.mov 4 (.const (.bool false)))] []
def ac1 : ACode := .region [.op 0 (.mov 14 (.tmp 0)), .op 1 (.build 15 [.nilSlice, .int .i64 0] [(0, 1, .tmp 14)]), .op 2 (.box 16 false (.tmp 15)), .op 3 (.call 17 6 [.tmp 16, .const (.int .i64 14)]), .op 4 (.call 18 9 [.tmp 17]), .op 5 (.mov 5 (.tmp 18))] []
def ac2 : ACode := .region [.op 0 (.mov 19 (.tmp 5)), .op 1 (.call 20 10 [.tmp 19, .const (.str [97, 112, 112])]), .op 2 (.len 21 false (.tmp 20)), .op 3 (.mov 6 (.tmp 21))] []
def ac4 : ACode := .region [.op 0 (.mov 23 (.tmp 1)), .op 1 (.bin 24 .and .plain (.tmp 23) (.const (.int .i64 65535))), .op 2 (.mov 8 (.tmp 24))] []
def ac5 : ACode := .region [.op 0 (.mov 9 (.const (.int .i64 0)))] []
def ac6 : ACode := .seq (.region [.op 0 (.mov 25 (.tmp 9)), .op 1 (.mov 26 (.tmp 6)), .op 2 (.bin 27 .mul .plain (.const (.int .i64 3)) (.tmp 26)), .op 3 (.bin 28 .lss .plain (.tmp 25) (.tmp 27))] []) (.cond (.tmp 28) .skip (.exit 0))
def ac8 : ACode := .region [.op 0 (.mov 32 (.tmp 5)), .op 1 (.mov 33 (.tmp 8)), .op 2 (.mov 34 (.tmp 9)), .op 3 (.bin 35 .add .plain (.tmp 33) (.tmp 34)), .op 4 (.call 36 11 [.tmp 32, .const (.str [97, 112, 112]), .tmp 35]), .op 5 (.mov 31 (.tmp 36)),
 .op 6 (.extract 37 (.tmp 31) 0), .op 7 (.extract 38 (.tmp 31) 1), .op 8 (.alloc 10 false [.str [], .str [], .int .i64 0, .int .i64 0, .int .i64 0, .int .i64 0, .int .i64 0, .int .i64 0, .bool false]), .op 9 (.store true 9 (.tmp 10) (.tmp 37)), .op 10 (.mov 11 (.tmp 38))] []
def it9 : List AItem := [.op 0 (.mov 39 (.tmp 11)), .op 1 (.un 40 .not (.tmp 39)), .op 2 (.mov 41 (.tmp 40)), .guard 41 false [.op 3 (.faddr 42 8 (.tmp 10)), .op 4 (.load 43 false 1 (.tmp 42))] [] [43],
 .op 5 (.pick 44 (.tmp 41) (.const (.bool true)) (.tmp 43)), .op 6 (.mov 45 (.tmp 44)),
 .guard 45 false [.op 7 (.faddr 46 0 (.tmp 10)), .op 8 (.faddr 47 0 (.tmp 46)), .op 9 (.load 48 false 1 (.tmp 47)), .op 10 (.bin 49 .neq .plain (.tmp 48) (.const (.str [97, 112, 112])))] [] [49],
 .op 11 (.pick 50 (.tmp 45) (.const (.bool true)) (.tmp 49)), .op 12 (.mov 51 (.tmp 50)),
 .guard 51 false [.op 13 (.load 52 true 9 (.tmp 10)), .op 14 (.call 53 12 [.tmp 52]), .op 15 (.bin 54 .neq .plain (.tmp 53) (.const (.int .i64 1)))] [] [54],
 .op 16 (.pick 55 (.tmp 51) (.const (.bool true)) (.tmp 54))]
def ac9 : ACode := .seq (.region it9 []) (.cond (.tmp 55) (.seq (.region [.op 0 (.mov 4 (.const (.bool false)))] []) .ret) .skip)
def ac7 : ACode := .region [.op 0 (.mov 29 (.tmp 9)), .op 1 (.bin 30 .add .plain (.tmp 29) (.const (.int .i64 1))), .op 2 (.mov 9 (.tmp 30))] []
def it17 : List AItem := [.op 2 (.mov 73 (.tmp 6)), .op 3 (.bin 74 .eql .plain (.tmp 72) (.tmp 73)), .op 4 (.mov 75 (.tmp 74)), .guard 75 true [.op 5 (.call 76 8 [])] [] [76], .op 6 (.pick 77 (.tmp 75) (.tmp 76) (.const (.bool false))), .op 7 (.mov 4 (.tmp 77))]

noncomputable def loop1a : Code := cL loop1
theorem loop1a_eq : loop1 = .seq loop1a (.seq (.block 1 in1) kd7) := by kernel_rfl
theorem ok0 : codeOk PP (drawOk PP) 78 ac0 kd0 = true := by kernel_rfl
theorem ok1 : codeOk PP (drawOk PP) 78 ac1 kd1 = true := by kernel_rfl
theorem ok2 : codeOk PP (drawOk PP) 78 ac2 kd2 = true := by kernel_rfl
theorem ok4 : codeOk PP (drawOk PP) 78 ac4 kd4 = true := by kernel_rfl
theorem ok5 : codeOk PP (drawOk PP) 78 ac5 kd5 = true := by kernel_rfl
theorem ok6 : codeOk PP (drawOk PP) 78 ac6 loop1a = true := by kernel_rfl
theorem ok8 : codeOk PP (drawOk PP) 78 ac8 kd8 = true := by kernel_rfl
theorem ok9 : codeOk PP (drawOk PP) 78 ac9 kd9 = true := by kernel_rfl
theorem ok7 : codeOk PP (drawOk PP) 78 ac7 kd7 = true := by kernel_rfl
theorem ok17 : ((flatItems none it17).all (operOk PP 78 (cOps kd17)) && guardsAll false [] it17) = true := by kernel_rfl

section
variable (call : Call) (vs : List (Nat × AVal)) (h : Heap) (k : AExit → Env → Heap → Option J)
theorem run0 : runC call ac0 (env0 vs [] 0) h k = k .normal (env0 ((4, .bool false) :: vs) [] 0) h := by kernel_rfl
theorem run1 : runC call ac1 (env0 vs [] 0) h k = (aFill [.nilSlice, .int .i64 0] [(0, 1, look vs 0)]).bind fun cs => (call 6 [.ptr h.next 0, .int .i64 14] (h.alloc cs)).bind fun r1 => (call 9 [r1.1] r1.2).bind fun r2 =>
    k .normal (env0 ((5, r2.1) :: (18, r2.1) :: (17, r1.1) :: (16, .ptr h.next 0) :: (15, .agg cs) :: (14, look vs 0) :: vs) [] 0) r2.2 := by kernel_rfl
theorem run2 : runC call ac2 (env0 vs [] 0) h k = (call 10 [look vs 5, .str [97, 112, 112]] h).bind fun r => (aLen false r.1).bind fun n => k .normal (env0 ((6, n) :: (21, n) :: (20, r.1) :: (19, look vs 5) :: vs) [] 0) r.2 := by kernel_rfl
theorem run4 : runC call ac4 (env0 vs [] 0) h k = (aBin .and .plain (look vs 1) (.int .i64 65535)).bind fun v => k .normal (env0 ((8, v) :: (24, v) :: (23, look vs 1) :: vs) [] 0) h := by kernel_rfl
theorem run5 : runC call ac5 (env0 vs [] 0) h k = k .normal (env0 ((9, .int .i64 0) :: vs) [] 0) h := by kernel_rfl
theorem run6 : runC call ac6 (env0 vs [] 0) h k = (aBin .mul .plain (.int .i64 3) (look vs 6)).bind fun v => (aBin .lss .plain (look vs 9) v).bind fun t =>
    condV t (k .normal (env0 ((28, t) :: (27, v) :: (26, look vs 6) :: (25, look vs 9) :: vs) [] 0) h) (k (.exit 0) (env0 ((28, t) :: (27, v) :: (26, look vs 6) :: (25, look vs 9) :: vs) [] 0) h) := by kernel_rfl
theorem run8 : runC call ac8 (env0 vs [] 0) h k = (aBin .add .plain (look vs 8) (look vs 9)).bind fun t => (call 11 [look vs 5, .str [97, 112, 112], t] h).bind fun r => (aExtract 0 r.1).bind fun c => (aExtract 1 r.1).bind fun ok =>
    (aCells 9 c).bind fun cs => (aStore (r.2.alloc [.str [], .str [], .int .i64 0, .int .i64 0, .int .i64 0, .int .i64 0, .int .i64 0, .int .i64 0, .bool false]) (.ptr r.2.next 0) cs).bind fun h2 =>
    k .normal (env0 ((11, ok) :: (10, .ptr r.2.next 0) :: (38, ok) :: (37, c) :: (31, r.1) :: (36, r.1) :: (35, t) :: (34, look vs 9) :: (33, look vs 8) :: (32, look vs 5) :: vs) [] 0) h2 := by kernel_rfl
theorem run7 : runC call ac7 (env0 vs [] 0) h k = (aBin .add .plain (look vs 9) (.int .i64 1)).bind fun v => k .normal (env0 ((9, v) :: (30, v) :: (29, look vs 9) :: vs) [] 0) h := by kernel_rfl
end
end Go.Fw
