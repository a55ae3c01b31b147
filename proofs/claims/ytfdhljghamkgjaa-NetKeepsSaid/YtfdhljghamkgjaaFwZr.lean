/- Rows of keys. -/
import Derived.Test.YtfdhljghamkgjaaFwZq
namespace Go.Fw
set_option linter.unusedSimpArgs false
set_option linter.unusedVariables false

abbrev KeyT := List UInt8 × List UInt8
def kcell (k : KeyT) : List AVal := [.str k.1, .str k.2]
def kcells : List KeyT → List AVal
  | [] => []
  | k :: r => .str k.1 :: .str k.2 :: kcells r
@[simp] theorem kcells_len : ∀ l : List KeyT, (kcells l).length = l.length * 2
  | [] => rfl
  | k :: r => by simp [kcells, kcells_len r]; omega
theorem kcells_app : ∀ l m : List KeyT, kcells (l ++ m) = kcells l ++ kcells m
  | [], _ => rfl
  | k :: r, m => by simp [kcells, kcells_app r m]
theorem kcells_drop : ∀ (l : List KeyT) (i : Nat), (kcells l).drop (i * 2) = kcells (l.drop i)
  | l, 0 => by simp
  | [], i + 1 => by simp [kcells]
  | k :: r, i + 1 => by
    rw [show (i + 1) * 2 = i * 2 + 1 + 1 by omega, kcells, List.drop_succ_cons, List.drop_succ_cons, kcells_drop r i, List.drop_succ_cons]
theorem kcells_take : ∀ (l : List KeyT) (i : Nat), (kcells l).take (i * 2) = kcells (l.take i)
  | l, 0 => by simp [kcells]
  | [], i + 1 => by simp [kcells]
  | k :: r, i + 1 => by
    rw [show (i + 1) * 2 = i * 2 + 1 + 1 by omega, kcells, List.take_succ_cons, List.take_succ_cons, kcells_take r i, List.take_succ_cons, kcells]

abbrev SrcK (s : AVal) (h : Heap) (l : List KeyT) : Prop := Src 2 s h l.length (kcells l)
abbrev OwnK (s : AVal) (h : Heap) (n0 : Nat) (l : List KeyT) : Prop := Own 2 s h n0 l.length (kcells l)

theorem Src.key {s : AVal} {h : Heap} {l : List KeyT} (S : SrcK s h l) (i : Nat) (hi : i < l.length) : ∃ p, aIaddr 2 s (.int .i64 i) = some p ∧ aLoad h 2 p = some [.str l[i].1, .str l[i].2] := by
  obtain ⟨p, e1, e2⟩ := S.at i hi
  refine ⟨p, e1, ?_⟩
  rw [e2, kcells_drop, List.drop_eq_getElem_cons hi]
  rfl

/-- The rest of a row. -/
theorem Src.rest {es : Nat} {s : AVal} {h : Heap} {m : Nat} {cells : List AVal} (S : Src es s h m cells) (i : Nat) (hi : i ≤ m) :
    ∃ s', aSliceSl es s (some (.int .i64 i)) none none = some s' ∧ Src es s' h (m - i) (cells.drop (i * es)) ∧ ∀ b, slBlk s' = some b → slBlk s = some b := by
  obtain ⟨hl, ⟨rfl, rfl⟩ | ⟨b, off, cap, ex, rfl, a2, a4⟩⟩ := S
  · obtain rfl : i = 0 := by omega
    refine ⟨.nilSlice, rfl, ⟨by simpa using hl, .inl ⟨rfl, rfl⟩⟩, fun b hb => hb⟩
  · have hle : i * es ≤ m * es := Nat.mul_le_mul_right es hi
    have hs : (m - i) * es = m * es - i * es := Nat.sub_mul m i es
    obtain ⟨x, hx, hlx, hcs⟩ := rd_inv a4
    refine ⟨.slice b (off + i * es) (m - i) (cap - i) es (ex || false), ?_, ⟨by rw [List.length_drop, hl, hs], .inr ⟨b, _, _, _, rfl, a2, ?_⟩⟩, fun c hc => hc⟩
    · simp [aSliceSl, aBound, hi]
    · rw [rd_of hx _ _ (by omega)]
      rw [hcs, List.drop_take, List.drop_drop, hs]

theorem Src.restK {s : AVal} {h : Heap} {l : List KeyT} (S : SrcK s h l) (i : Nat) (hi : i ≤ l.length) :
    ∃ s', aSliceSl 2 s (some (.int .i64 i)) none none = some s' ∧ SrcK s' h (l.drop i) ∧ ∀ b, slBlk s' = some b → slBlk s = some b := by
  obtain ⟨s', e, S', hb⟩ := S.rest i hi
  refine ⟨s', e, ?_, hb⟩
  rw [kcells_drop] at S'
  rw [SrcK, List.length_drop]
  exact S'

theorem Own.snocK {bytes : Nat} {zero : List AVal} {s : AVal} {h : Heap} {n0 : Nat} {l : List KeyT} (O : OwnK s h n0 l) (k : KeyT) (h0 : n0 ≤ h.next) (hb : (l.length + 1) * bytes ≤ 140737488355328) (hc : l.length + 1 ≤ 4611686018427387904) :
    ∃ s' h', aAppend 2 bytes zero false s (.slice h.next 0 1 1 2 true) (h.alloc [.str k.1, .str k.2]) = some (s', h') ∧ OwnK s' h' n0 (l ++ [k]) ∧ Kept h s h' s' := by
  obtain ⟨s', h', e, O', K⟩ := O.snoc (bytes := bytes) (zero := zero) (news := [.str k.1, .str k.2]) (by omega) rfl h0 hb hc
  refine ⟨s', h', e, ?_, K⟩
  rw [OwnK, kcells_app, List.length_append]
  exact O'

/-- Rows of two texts each are rows of keys. -/
theorem keys_of : ∀ {R : List (List AVal)}, (∀ r ∈ R, ∃ vs, LeafsOk [.str, .str] r vs) → ∃ l : List KeyT, l.length = R.length ∧ R.flatten = kcells l
  | [], _ => ⟨[], rfl, rfl⟩
  | r :: R, h => by
    obtain ⟨l, hl, e⟩ := keys_of (R := R) fun x hx => h x (by simp [hx])
    obtain ⟨vs, k⟩ := h r (by simp)
    match r, vs, k with
    | [.str a, .str b], _, _ => exact ⟨(a, b) :: l, by simp [hl], by simp [kcells, e]⟩
    | [_, _], [_, _], k => 
      rename_i a b c d
      obtain ⟨k1, k2, _⟩ := k
      cases a <;> simp only [LeafOk] at k1
      cases b <;> simp only [LeafOk] at k2
      rename_i s1 s2
      exact ⟨(s1, s2) :: l, by simp [hl], by simp [kcells, e]⟩
    | [], _, k => exact absurd k (by simp [LeafsOk])
    | [_], _, k => exact absurd k.len.1 (by simp)
    | _ :: _ :: _ :: _, _, k => exact absurd k.len.1 (by simp)

/-- Of each key the last. -/
def lasts : List KeyT → List KeyT
  | [] => []
  | k :: r => if k ∈ r then lasts r else k :: lasts r
theorem lasts_len : ∀ l, (lasts l).length ≤ l.length
  | [] => by simp [lasts]
  | k :: r => by
    have := lasts_len r
    unfold lasts
    split <;> simp <;> omega
@[simp 2000] theorem eq_key (a b c d : List UInt8) : aBin .eql (.cells [2, 2]) (.agg [.str a, .str b]) (.agg [.str c, .str d]) = some (.bool (decide ((a, b) = (c, d)))) := by
  by_cases h1 : a = c <;> by_cases h2 : b = d <;> simp [h1, h2]
@[simp 2000] theorem ne_key (a b c d : List UInt8) : aBin .neq (.cells [2, 2]) (.agg [.str a, .str b]) (.agg [.str c, .str d]) = some (.bool (decide (¬ (a, b) = (c, d)))) := by
  by_cases h1 : a = c <;> by_cases h2 : b = d <;> simp [h1, h2]
end Go.Fw
