/- the law -/
import Derived.Test.YtinkiihdnepfjaaGreatDoorDI
import Derived.Test.YtinkiihdnepfjaaGreatDoorDX
set_option linter.unusedSimpArgs false
set_option linter.unusedVariables false
set_option maxRecDepth 100000
namespace Go.Proofs.YtinkiihdnepfjaaGreatDoor.Code
open Go.Fw
theorem topDoublesL {s : AVal} {h0 : Heap} {l : List Int} (I : Ints .i64 s h0 l) (lt : ∀ b, slBlk s = some b → b < h0.next) (wf : ∀ x ∈ l, (Lit.int .i64 x).wf = true) (sz : l.length * 8 ≤ 140737488355328) :
    ∃ h', E tbl 5 [s] h0 = some (.bool true, h') := by
  have T := Tape.make I lt (by omega)
  have hs : aCells 1 s = some [s] := by
    rcases I with ⟨rfl, _⟩ | ⟨b, off, cap, ex, rfl, _⟩ <;> rfl
  generalize hH : h0.alloc [s, .int .i64 0] = h1 at T
  have n1 : h1.next = h0.next + 1 := by subst hH; rfl
  obtain ⟨A, H3, e3, SA, W3, mA⟩ := new_ok (h := h1.alloc [.int .i64 1]) (p := h1.next) (by show _ < h1.next + 1; omega) (alloc_same _ _)
  have n3 := W3.next
  have na : (h1.alloc [.int .i64 1]).next = h1.next + 1 := rfl
  obtain ⟨B, H5, e5, SB, W5, mB⟩ := new_ok (h := H3.alloc [.int .i64 1]) (p := H3.next) (by show _ < H3.next + 1; omega) (alloc_same _ _)
  have nb : (H3.alloc [.int .i64 1]).next = H3.next + 1 := rfl
  have W35 := (Went.alloc H3 [.int .i64 1]).trans W5
  have SA5 := SA.went W35
  have W15 := ((Went.alloc h1 [.int .i64 1]).trans W3).trans W35
  have T5 : Fw.Tape h0.next s l H5 := T.mono W15.next W15.old
  have two : Two h0.next s l A B .nilSlice .nilSlice .nilSlice .nilSlice H5 [] := ⟨SA5, SB, fun x m m' => by have := SA.mem m; have := mB x m'; omega, T5, fun x m m' => by have := tape_lt T m; have := mA x m'; omega, fun x m m' => by have := tape_lt T m; have := mB x m'; omega⟩
  have key : ∃ res, loop (L5_0 (E tbl)) [.ptr h0.next 0, .ptr A.s 0, .ptr B.s 0, .int .i64 0] H5 = some res ∧ ∃ H, res = (1, [], H) := by
    refine loop_ok (fun n xs G => ∃ (i : Nat) (s1 r1 s2 r2 : AVal) (l' : List Cd), n + i = 12 ∧ Two h0.next s l A B s1 r1 s2 r2 G l' ∧ xs = [.ptr h0.next 0, .ptr A.s 0, .ptr B.s 0, .int .i64 (i : Int)]) _ ?_ 12 _ _ ⟨0, _, _, _, _, _, rfl, two, rfl⟩
    rintro n xs G ⟨i, s1, r1, s2, r2, l', hn, TG, rfl⟩
    by_cases hi : i < 12
    · left
      obtain ⟨s1', r1', s2', r2', l2, H, e, T2⟩ := TG.round i hi
      exact ⟨_, H, e, n - 1, by omega, i + 1, s1', r1', s2', r2', l2, by omega, T2, rfl⟩
    · right
      have i1 : ¬ (i : Int) < 12 := by omega
      exact ⟨0, [], G, by simp [L5_0, i1], G, rfl⟩
  obtain ⟨_, el, H, rfl⟩ := key
  have d1 := desk_ok SA5
  have d2 := desk_ok SB
  have f1 := shelf_ok SA5
  have f2 := shelf_ok SB
  have c := c22 H
  refine ⟨H, ?_⟩
  rw [n1] at e3
  rw [c5]
  simp [S5, hs, hH, e3, e5, d1, d2, f1, f2, el, c]
end Go.Proofs.YtinkiihdnepfjaaGreatDoor.Code
