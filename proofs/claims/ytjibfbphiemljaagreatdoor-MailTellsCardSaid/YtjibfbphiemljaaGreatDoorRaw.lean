/- YtjibfbphiemljaaGreatDoorRaw -/
import Derived.Test.YtjibfbphiemljaaGreatDoorMsArg
set_option linter.unusedSimpArgs false
set_option linter.unusedVariables false
namespace Go.Proofs.YtjibfbphiemljaaGreatDoor.Code
open Go.Fw
abbrev kCd : List LeafK := [.str, .str, .int .i64, .int .i64, .int .i64, .int .i64, .int .i64, .int .i64, .bool]
abbrev kKy : List LeafK := [.str, .str]
abbrev kMs : List LeafK := [.int .i64, .int .i64, .int .i64, .int .i64, .int .i64, .int .i64, .int .i64, .str, .str, .bool, .int .u32]
theorem LeafsOk.cons {k : LeafK} {ks : List LeafK} {l : List AVal} {vs : List Value} (h : LeafsOk (k :: ks) l vs) : ∃ a l' v vs', l = a :: l' ∧ vs = v :: vs' ∧ LeafOk k a v ∧ LeafsOk ks l' vs' := by
  cases l with
  | nil => cases vs <;> exact h.elim
  | cons a l' => cases vs with
    | nil => exact h.elim
    | cons v vs' => exact ⟨a, l', v, vs', rfl, rfl, h.1, h.2⟩
theorem LeafsOk.nil' {l : List AVal} {vs : List Value} (h : LeafsOk [] l vs) : l = [] := by
  cases l with
  | nil => rfl
  | cons a l' => cases vs <;> exact h.elim
theorem leaf_str {a : AVal} {v : Value} (h : LeafOk .str a v) : ∃ s, a = .str s ∧ s.length ≤ 9223372036854775807 := by
  cases a <;> simp only [LeafOk] at h
  exact ⟨_, rfl, h.2⟩
theorem leaf_int {k : IntKind} {a : AVal} {v : Value} (h : LeafOk (.int k) a v) : ∃ n, a = .int k n ∧ (Lit.int k n).wf = true := by
  cases a <;> simp only [LeafOk] at h
  obtain ⟨rfl, h2, _⟩ := h
  exact ⟨_, rfl, h2⟩
theorem leaf_bool {a : AVal} {v : Value} (h : LeafOk .bool a v) : ∃ b, a = .bool b := by
  cases a <;> simp only [LeafOk] at h
  exact ⟨_, rfl⟩
theorem raw_cards : ∀ {R : List (List AVal)}, (∀ r ∈ R, ∃ vs, LeafsOk kCd r vs) → ∃ l : List Cd, R.flatten = cdE.rws l ∧ R.length = l.length ∧ ∀ c ∈ l, c.Sz
  | [], _ => ⟨[], rfl, rfl, by simp⟩
  | r :: R, h => by
    obtain ⟨l, e, hl, hs⟩ := raw_cards fun x hx => h x (List.mem_cons_of_mem _ hx)
    obtain ⟨vs, k⟩ := h r List.mem_cons_self
    obtain ⟨a1, l1, _, _, rfl, rfl, q1, k⟩ := LeafsOk.cons k
    obtain ⟨a2, l2, _, _, rfl, rfl, q2, k⟩ := LeafsOk.cons k
    obtain ⟨a3, l3, _, _, rfl, rfl, q3, k⟩ := LeafsOk.cons k
    obtain ⟨a4, l4, _, _, rfl, rfl, q4, k⟩ := LeafsOk.cons k
    obtain ⟨a5, l5, _, _, rfl, rfl, q5, k⟩ := LeafsOk.cons k
    obtain ⟨a6, l6, _, _, rfl, rfl, q6, k⟩ := LeafsOk.cons k
    obtain ⟨a7, l7, _, _, rfl, rfl, q7, k⟩ := LeafsOk.cons k
    obtain ⟨a8, l8, _, _, rfl, rfl, q8, k⟩ := LeafsOk.cons k
    obtain ⟨a9, l9, _, _, rfl, rfl, q9, k⟩ := LeafsOk.cons k
    obtain rfl := LeafsOk.nil' k
    obtain ⟨s1, rfl, z1⟩ := leaf_str q1
    obtain ⟨s2, rfl, z2⟩ := leaf_str q2
    obtain ⟨n3, rfl, _⟩ := leaf_int q3
    obtain ⟨n4, rfl, _⟩ := leaf_int q4
    obtain ⟨n5, rfl, _⟩ := leaf_int q5
    obtain ⟨n6, rfl, _⟩ := leaf_int q6
    obtain ⟨n7, rfl, _⟩ := leaf_int q7
    obtain ⟨n8, rfl, _⟩ := leaf_int q8
    obtain ⟨b9, rfl⟩ := leaf_bool q9
    refine ⟨⟨s1, s2, n3, n4, n5, n6, n7, n8, b9⟩ :: l, by rw [List.flatten_cons, e]; rfl, by simp [hl], fun c hc => ?_⟩
    rcases List.mem_cons.1 hc with rfl | hc
    · exact ⟨z1, z2⟩
    · exact hs c hc
theorem raw_keys : ∀ {R : List (List AVal)}, (∀ r ∈ R, ∃ vs, LeafsOk kKy r vs) → ∃ l : List Ky, R.flatten = kyE.rws l ∧ R.length = l.length ∧ ∀ c ∈ l, KySz c
  | [], _ => ⟨[], rfl, rfl, by simp⟩
  | r :: R, h => by
    obtain ⟨l, e, hl, hs⟩ := raw_keys fun x hx => h x (List.mem_cons_of_mem _ hx)
    obtain ⟨vs, k⟩ := h r List.mem_cons_self
    obtain ⟨a1, l1, _, _, rfl, rfl, q1, k⟩ := LeafsOk.cons k
    obtain ⟨a2, l2, _, _, rfl, rfl, q2, k⟩ := LeafsOk.cons k
    obtain rfl := LeafsOk.nil' k
    obtain ⟨s1, rfl, z1⟩ := leaf_str q1
    obtain ⟨s2, rfl, z2⟩ := leaf_str q2
    refine ⟨(s1, s2) :: l, by rw [List.flatten_cons, e]; rfl, by simp [hl], fun c hc => ?_⟩
    rcases List.mem_cons.1 hc with rfl | hc
    · exact ⟨z1, z2⟩
    · exact hs c hc
theorem raw_ms {aa : List AVal} {vs : List Value} (k : LeafsOk kMs aa vs) : ∃ m : Ms, (∀ sc sk cs ks, aa ++ [sc, sk] = ({ m with cards := cs, keys := ks } : Ms).cells sc sk) ∧ U32 m.sum ∧ KySz (m.ka, m.ki) := by
  obtain ⟨a1, l1, _, _, rfl, rfl, q1, k⟩ := LeafsOk.cons k
  obtain ⟨a2, l2, _, _, rfl, rfl, q2, k⟩ := LeafsOk.cons k
  obtain ⟨a3, l3, _, _, rfl, rfl, q3, k⟩ := LeafsOk.cons k
  obtain ⟨a4, l4, _, _, rfl, rfl, q4, k⟩ := LeafsOk.cons k
  obtain ⟨a5, l5, _, _, rfl, rfl, q5, k⟩ := LeafsOk.cons k
  obtain ⟨a6, l6, _, _, rfl, rfl, q6, k⟩ := LeafsOk.cons k
  obtain ⟨a7, l7, _, _, rfl, rfl, q7, k⟩ := LeafsOk.cons k
  obtain ⟨a8, l8, _, _, rfl, rfl, q8, k⟩ := LeafsOk.cons k
  obtain ⟨a9, l9, _, _, rfl, rfl, q9, k⟩ := LeafsOk.cons k
  obtain ⟨a10, l10, _, _, rfl, rfl, q10, k⟩ := LeafsOk.cons k
  obtain ⟨a11, l11, _, _, rfl, rfl, q11, k⟩ := LeafsOk.cons k
  obtain rfl := LeafsOk.nil' k
  obtain ⟨n1, rfl, _⟩ := leaf_int q1
  obtain ⟨n2, rfl, _⟩ := leaf_int q2
  obtain ⟨n3, rfl, _⟩ := leaf_int q3
  obtain ⟨n4, rfl, _⟩ := leaf_int q4
  obtain ⟨n5, rfl, _⟩ := leaf_int q5
  obtain ⟨n6, rfl, _⟩ := leaf_int q6
  obtain ⟨n7, rfl, _⟩ := leaf_int q7
  obtain ⟨s8, rfl, z8⟩ := leaf_str q8
  obtain ⟨s9, rfl, z9⟩ := leaf_str q9
  obtain ⟨b10, rfl⟩ := leaf_bool q10
  obtain ⟨n11, rfl, z11⟩ := leaf_int q11
  refine ⟨⟨n1, n2, n3, n4, n5, n6, n7, s8, s9, b10, n11, [], []⟩, fun sc sk cs ks => rfl, ?_, ⟨z8, z9⟩⟩
  have h1 : IntKind.u32.min = 0 := by decide
  have h2 : IntKind.u32.max = 4294967295 := by decide
  simp only [Lit.wf, h1, h2, Bool.and_eq_true, decide_eq_true_eq] at z11
  exact z11
theorem mailTellsL {h : Heap} (R : Rdy h) {s : AVal} {l : List Int} (I : Ints .i64 s h l) (lt : ∀ b, slBlk s = some b → b < h.next) (_ : ∀ x ∈ l, (Lit.int .i64 x).wf = true) (hl : l.length * 8 ≤ 140737488355328) (_ : El.Room s)
    (what : Int) (_ : (Lit.int .i64 what).wf = true) (n : Int) (_ : (Lit.int .i64 n).wf = true)
    {aa : List AVal} {vs : List Value} (k : LeafsOk kMs aa vs) {R1 R2 : List (List AVal)} (k1 : ∀ r ∈ R1, ∃ vs, LeafsOk kCd r vs) (k2 : ∀ r ∈ R2, ∃ vs, LeafsOk kKy r vs) (z : R1.length * 88 ≤ reachBytes ∧ R2.length * 32 ≤ reachBytes) {sc sk : AVal} (S : Src 9 sc h R1.length R1.flatten ∧ Src 2 sk h R2.length R2.flatten)
    {b : AVal} {bl : List Int} (Ib : Ints .u8 b h bl) (ltb : ∀ c, slBlk b = some c → c < h.next) (wfb : ∀ x ∈ bl, (Lit.int .u8 x).wf = true) (_ : bl.length * 1 ≤ 140737488355328) (Rb : El.Room b)
    (at_ : Int) (_ : (Lit.int .i64 at_).wf = true) (turn : Int) (wt : (Lit.int .u8 turn).wf = true) :
    ∃ h', E tbl 4 [s, .int .i64 what, .int .i64 n, .agg (aa ++ [sc, sk]), b, .int .i64 at_, .int .u8 turn] h = some (.bool true, h') := by
  obtain ⟨cs, e1, n1, s1⟩ := raw_cards k1
  obtain ⟨ks, e2, n2, s2⟩ := raw_keys k2
  obtain ⟨m, em, hu, hk⟩ := raw_ms k
  obtain ⟨S1, S2⟩ := S
  rw [e1, n1] at S1
  rw [e2, n2] at S2
  unfold reachBytes at z
  obtain ⟨bb, hb1, hb2⟩ := ints_bytes Ib ltb wfb
  obtain ⟨t, rfl⟩ := u8_wf wt
  rw [em sc sk cs ks]
  exact mailTells R I lt hl what n (m := { m with cards := cs, keys := ks }) ⟨⟨S1, S2⟩, hu, ⟨hk, s1, s2⟩, ⟨by simp only; omega, by simp only; omega⟩⟩ hb2 Rb at_ t
end Go.Proofs.YtjibfbphiemljaaGreatDoor.Code
