/- YtjibfbphiemljaaGreatDoorIs -/
import Derived.Test.YtjibfbphiemljaaGreatDoorAs
set_option linter.unusedSimpArgs false
set_option linter.unusedVariables false
namespace Go.Proofs.YtjibfbphiemljaaGreatDoor.Code
open Go.Fw
structure Ready (N : Nat) (h : Heap) : Prop where
  lo : 2 ≤ N
  hi : N ≤ h.next
  g : ∃ rw, h.blk 0 = some ⟨[.iface 135 (.agg [.ptr 1 54])], rw⟩
theorem Ready.of {N M : Nat} {h H : Heap} (R : Ready N h) (hM : N ≤ M) (hi : M ≤ H.next) (ho : ∀ b, b < N → H.blk b = h.blk b) : Ready M H :=
  ⟨Nat.le_trans R.lo hM, hi, by obtain ⟨rw, g⟩ := R.g; exact ⟨rw, by rw [ho 0 (by have := R.lo; omega)]; exact g⟩⟩
theorem As_nil (h : Heap) (a : AVal) : E tbl 68 [.nilIface, a] h = some (.bool false, h) := by
  rw [c68]
  simp [S68]
theorem As_ok {N et pt t : Nat} {old : AVal} {h : Heap} (R : Ready N h) (ok : (et = 50 ∧ pt = 102) ∨ (et = 98 ∧ pt = 103)) (ht : N ≤ t) (hlt : t < h.next) (hb : h.blk t = some ⟨[old], true⟩) {e : Er} {v : AVal} (hr : Rep h N e v) (hn : e ≠ .nil) :
    ∃ r H, E tbl 68 [v, .iface pt (.ptr t 0)] h = some (.bool r.isSome, H) ∧ Only t h H ∧ H.blk t = some ⟨[r.getD old], true⟩ ∧ Find h N et e v r := by
  obtain ⟨s, x, rfl⟩ := hr.iface hn
  have hne : t ≠ h.next := by omega
  have T : Tgt N et pt t h.next old (h.alloc [.ptr t 0]) := ⟨ok, by rw [Heap.alloc_other _ _ hne]; exact hb, by simp, ht, R.hi, by simp; omega, by simp, hne⟩
  obtain ⟨r, H, e1, O, hb2, F⟩ := as_loop h e _ old (h.alloc [.ptr t 0]) hr hn (fun b hb => Heap.alloc_other _ _ (by have := R.hi; omega)) (by simp) T
  obtain ⟨rw, g⟩ := R.g
  have g' : (h.alloc [.ptr t 0]).blk 0 = some ⟨[.iface 135 (.agg [.ptr 1 54])], rw⟩ := by rw [Heap.alloc_other _ _ (by have := R.lo; have := R.hi; omega)]; exact g
  have ec := as_call e1
  have e26 : E tbl 87 [.iface pt (.ptr t 0)] h = some (.agg [.ptr 1 pt, .ptr h.next 0, .int .u64 150], h.alloc [.ptr t 0]) := by
    rw [c87]
    rcases ok with ⟨rfl, rfl⟩ | ⟨rfl, rfl⟩ <;> simp [pValueOf, lookN, beq_dec, AVal.cells?]
  have e27 : ∀ G, E tbl 88 [.agg [.ptr 1 pt, .ptr h.next 0, .int .u64 150]] G = some (.iface 135 (.agg [.ptr 1 pt]), G) := fun G => by
    rw [c88]
    simp [pValueType, aParts]
  have e47 : ∀ G, E tbl 112 [.ptr 1 pt] G = some (.int .u8 22, G) := fun G => by
    rw [c112]
    rcases ok with ⟨rfl, rfl⟩ | ⟨rfl, rfl⟩ <;> rfl
  have e28 : E tbl 89 [.agg [.ptr 1 pt, .ptr h.next 0, .int .u64 150]] (h.alloc [.ptr t 0]) = some (.bool false, h.alloc [.ptr t 0]) := by
    rw [c89]
    rcases ok with ⟨rfl, rfl⟩ | ⟨rfl, rfl⟩ <;> simp [pIsNil, aParts, lookP, beq_dec, rd_bind, one?, nilV]
  have e56 : ∀ G, E tbl 125 [.agg [.ptr 1 pt]] G = some (.iface 135 (.agg [.ptr 1 et]), G) := fun G => by
    rw [c125]
    rcases ok with ⟨rfl, rfl⟩ | ⟨rfl, rfl⟩ <;> rfl
  have e47' : ∀ G, E tbl 112 [.ptr 1 et] G = some (.int .u8 (if et = 50 then 2 else 22), G) := fun G => by
    rw [c112]
    rcases ok with ⟨rfl, rfl⟩ | ⟨rfl, rfl⟩ <;> rfl
  have e57 : ∀ G, E tbl 126 [.agg [.ptr 1 et], .iface 135 (.agg [.ptr 1 54])] G = some (.bool true, G) := fun G => by
    rw [c126]
    rcases ok with ⟨rfl, rfl⟩ | ⟨rfl, rfl⟩ <;> rfl
  have hk : ((if et = 50 then (2 : Int) else 22) != 20) = true := by rcases ok with ⟨rfl, _⟩ | ⟨rfl, _⟩ <;> rfl
  refine ⟨r, H, ?_, ⟨by have := O.next; simp at this; omega, fun b hb hp => ?_⟩, hb2, F⟩
  · rw [c68]
    simp [S68, e26, e27, e28, e47, e56, e47', e57, aMeth, lookM, beq_dec, aField, hk, rd_bind, g', ec]
  · rw [O.old b (by simp; omega) hp, Heap.alloc_other _ _ (by omega)]
def codeOf : Er → Option Int
  | .nil => none
  | .code n => some n
  | .fault _ e => codeOf e
theorem find_code {h : Heap} {N : Nat} : ∀ {e : Er} {v : AVal} {r : Option AVal}, Find h N 50 e v r → r = (codeOf e).map (.int .i64 ·)
  | .nil, _, _, f => f
  | .code n, _, _, f => by simpa [Find, codeOf] using f
  | .fault _ e, _, _, f => by
    rw [Find, if_neg (by omega)] at f
    obtain ⟨u, _, f⟩ := f
    have := find_code (e := e) f
    simpa [codeOf] using this
def codeI (e : Er) : Int := match e with | .nil => 0 | e => (codeOf e).getD 14
theorem code_ok {N : Nat} {h : Heap} (R : Ready N h) {e : Er} {v : AVal} (hr : Rep h N e v) :
    ∃ H, E tbl 45 [v] h = some (.int .i64 (codeI e), H) ∧ h.next ≤ H.next ∧ ∀ b, b < h.next → H.blk b = h.blk b := by
  by_cases hn : e = .nil
  · subst hn
    obtain rfl : v = .nilIface := hr
    exact ⟨h, by rw [c45]; simp [S45, codeI], Nat.le_refl _, fun _ _ => rfl⟩
  · have R' : Ready N (h.alloc [.int .i64 0]) := R.of (Nat.le_refl _) (by have := R.hi; simp; omega) (fun b hb => Heap.alloc_other _ _ (by have := R.hi; omega))
    have hr' : Rep (h.alloc [.int .i64 0]) N e v := hr.mono (Nat.le_refl _) (by simp) (fun b hb => Heap.alloc_other _ _ (by have := R.hi; omega))
    obtain ⟨r, H, e1, O, hb, F⟩ := As_ok (et := 50) (pt := 102) R' (.inl ⟨rfl, rfl⟩) R.hi (by simp) (alloc_same h _) hr' hn
    have hf := find_code F
    obtain ⟨s, x, rfl⟩ := hr.iface hn
    refine ⟨H, ?_, by have := O.next; simp at this; omega, fun b hb => by rw [O.old b (by simp; omega) (by omega), Heap.alloc_other _ _ (by omega)]⟩
    rw [c45]
    have hci : codeI e = (codeOf e).getD 14 := by cases e <;> first | rfl | exact (hn rfl).elim
    cases hc : codeOf e with
    | none =>
      rw [hc] at hf
      subst hf
      simp only [Option.map_none, Option.isSome_none] at e1
      simp [S45, e1, hci, hc]
    | some n =>
      rw [hc] at hf
      subst hf
      simp only [Option.map_some, Option.isSome_some, Option.getD_some] at e1 hb
      simp [S45, e1, rd_bind, hb, hci, hc]
def hasFault : Er → Bool
  | .fault .. => true
  | _ => false
def pathOf : Er → List (List UInt8)
  | .fault op e => op :: pathOf e
  | _ => []
theorem pathOf_none : ∀ {e : Er}, hasFault e = false → pathOf e = []
  | .nil, _ | .code _, _ => rfl
  | .fault .., h => by cases h
theorem find_fault {h : Heap} {N : Nat} : ∀ {e : Er} {v : AVal} {r : Option AVal}, Rep h N e v → Find h N 98 e v r → (r = none ∧ hasFault e = false) ∨
    ∃ b op u rw e', r = some (.ptr b 0) ∧ b < N ∧ h.blk b = some ⟨[.str op, u], rw⟩ ∧ Rep h N e' u ∧ pathOf e = op :: pathOf e' ∧ hasFault e = true
  | .nil, _, _, _, f => .inl ⟨f, rfl⟩
  | .code n, _, _, _, f => .inl ⟨by simpa [Find] using f, rfl⟩
  | .fault op e, _, _, hr, f => by
    rw [Find, if_pos rfl] at f
    obtain ⟨p, rfl, rfl⟩ := f
    obtain ⟨b, u, rw, h1, h2, h3, h4⟩ := hr
    cases h1
    exact .inr ⟨b, op, u, rw, e, rfl, h2, h3, h4, rfl, rfl⟩
end Go.Proofs.YtjibfbphiemljaaGreatDoor.Code
