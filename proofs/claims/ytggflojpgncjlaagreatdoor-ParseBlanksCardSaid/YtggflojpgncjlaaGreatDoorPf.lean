/-
  The reference's own looks at bytes.
  What is parsed of a text that is cut off: all is as it was, up to there.
  Each function of the parser reads token by token.
  What is parsed of tokens that are cut off.
  What is scanned of a text that is cut off.
  The law of ParseCut: what is parsed of a text that is cut off.
  The reference's Scan answers as scan does.
  ParseCut.
-/
import Derived.Test.YtggflojpgncjlaaGreatDoorPe
set_option linter.unusedVariables false
set_option linter.unusedSimpArgs false
set_option linter.unusedSectionVars false
set_option linter.unusedVariables false
set_option linter.unusedSimpArgs false
namespace Go.T
open Go.Proofs Go.RowKit
variable {Ev : Env} {H : Nat → Option RObj}
theorem c_word7 (n : Int) : Ret Tryz.prog Ev 25 [.int .u8 n] H (.t (.bool (letterB n))) := by
  refine go noStop noStop Tryz.func25 rfl (by kernel_rfl) rfl ?_
  constructor <;> intro h1 <;> refine ⟨?_, rfl⟩ <;> simp_all [letterB] <;> omega
theorem c_digit7 (n : Int) : Ret Tryz.prog Ev 26 [.int .u8 n] H (.t (.bool (digitB n))) := by
  refine go noStop noStop Tryz.func26 rfl (by kernel_rfl) rfl ?_
  constructor <;> intro h1 <;> refine ⟨?_, rfl⟩ <;> simp_all [digitB] <;> omega
/-- Two bytes that are one mark. -/
def pairB (a b : Int) : Bool := (a == 46 && b == 46) || ((a == 33 || a == 60 || a == 62) && b == 61)
theorem c_pair7 (a b : Int) : Ret Tryz.prog Ev 27 [.int .u8 a, .int .u8 b] H (.t (.bool (pairB a b))) := by
  refine go noStop noStop Tryz.func27 rfl (by kernel_rfl) rfl ?_
  iterate 8 all_goals try ((conv => whnf); constructor <;> intro hh <;> try (cases hh; done))
  all_goals (conv => whnf)
  all_goals refine ⟨?_, rfl⟩
  all_goals refine congrArg (fun x => TOut.ret (RV.t (.bool x))) ?_
  all_goals unfold pairB
  all_goals generalize (a == 46) = x1 at *
  all_goals generalize (b == 46) = x2 at *
  all_goals generalize (a == 33) = x3 at *
  all_goals generalize (a == 60) = x4 at *
  all_goals generalize (a == 62) = x5 at *
  all_goals generalize (b == 61) = x6 at *
  all_goals revert x1 x2 x3 x4 x5 x6
  all_goals decide
def oneI : List Int := [44, 59, 58, 91, 93, 61, 60, 62, 43, 45, 42]
theorem c_one7 (c : Int) : Ret Tryz.prog Ev 28 [.int .u8 c] H (.t (.bool (oneI.contains c))) := by
  refine go noStop noStop Tryz.func28 rfl (by kernel_rfl) rfl ?_
  conv => whnf
  refine goLoop noStop noStop (fun i : Nat => .of [(0, .t (.int .u8 c)), (3, .arr 3), (4, .t (.int .i64 (i : Nat)))] [] [(3, some ⟨1, false, oneI.map (TV.int .u8)⟩)] H)
    (fun i => i ≤ oneI.length ∧ oneI.contains c = (oneI.drop i).contains c) (fun i => oneI.length - i) 0 ⟨by simp, by simp⟩ (.of ⟨rfl, rfl, rfl, trivial⟩ trivial ⟨rfl, trivial⟩ (fun _ => .inr rfl)) ?_
  rintro i ⟨hi, he⟩
  conv => whnf
  intro hm
  conv => whnf
  constructor <;> intro h1
  · have hlt : i < oneI.length := by have h1 : decide ((i : Int) < ((oneI.map (TV.int .u8)).length : Int)) = true := h1; have := of_decide_eq_true h1; rw [List.length_map] at this; omega
    obtain ⟨x, hx⟩ : ∃ x, oneI[i]? = some x := ⟨_, List.getElem?_eq_getElem hlt⟩
    have hd := drop_get hx
    conv => whnf
    refine ⟨by omega, by rw [List.length_map]; omega, ?_⟩
    conv => whnf
    refine ⟨by rw [Int.toNat_natCast]; show i < (oneI.map (TV.int .u8)).length; rw [List.length_map]; exact hlt, fun y hy => ?_⟩
    obtain rfl := get_map2 hy hx
    conv => whnf
    constructor <;> intro h2
    · have h2' : x = c := by simpa using h2
      conv => whnf
      refine ⟨?_, rfl⟩
      rw [he, hd, h2']
      simp
    · have h2' : ¬ x = c := by simpa using h2
      conv => whnf
      have hi11 : i < 11 := hlt
      refine ⟨i + 1, ⟨hlt, ?_⟩, by omega, .of ⟨rfl, rfl, ?_, trivial⟩ trivial ⟨rfl, trivial⟩ (fun _ => .inr rfl)⟩
      · rw [he, hd, List.contains_cons]
        have : (c == x) = false := by simpa using fun e => h2' e.symm
        rw [this, Bool.false_or]
      · show SV.t (.int .i64 (IntKind.i64.wrap ((i : Int) + 1))) = _
        rw [wrap_i64 (by omega) (by omega)]; rfl
  · have hge : oneI.length ≤ i := by have h1 : decide ((i : Int) < ((oneI.map (TV.int .u8)).length : Int)) = false := h1; have := of_decide_eq_false h1; rw [List.length_map] at this; omega
    conv => whnf
    refine ⟨?_, rfl⟩
    rw [he, List.drop_eq_nil_of_le hge]
    rfl
/-! ### The same as the looks of scan -/
theorem byte_all (p : UInt8 → Bool) (h : (List.range 256).all (fun n => p (UInt8.ofNat n)) = true) (b : UInt8) : p b = true := by
  have := List.all_eq_true.1 h b.toNat (List.mem_range.2 b.toNat_lt)
  simpa using this
theorem one_eq (b : UInt8) : decide (Lib.indexByte oneText b ≥ 0) = oneI.contains (b.toNat : Int) := by
  have := byte_all (fun b => decide (Lib.indexByte oneText b ≥ 0) == oneI.contains (b.toNat : Int)) (by decide +kernel) b
  simpa using this
def hasB : List UInt8 → List UInt8 → Bool
  | [], sub => sub.isEmpty
  | b :: l, sub => sub.isPrefixOf (b :: l) || hasB l sub
theorem contains_has (s sub : List UInt8) : Lib.contains s sub = hasB s sub := by
  induction s with
  | nil =>
    unfold Lib.contains Lib.index hasB
    cases sub <;> rfl
  | cons b l ih =>
    have hg := Lib.index_ge l sub
    unfold Lib.contains at ih ⊢
    rw [Lib.index, hasB, ← ih]
    by_cases h : sub.isPrefixOf (b :: l) = true
    · rw [if_pos h, h]; rfl
    · rw [if_neg h]
      have h' : sub.isPrefixOf (b :: l) = false := Bool.eq_false_iff.2 h
      rw [h', Bool.false_or]
      by_cases h2 : (Lib.index l sub == -1) = true
      · rw [if_pos h2, eq_of_beq h2]
      · rw [if_neg h2]
        have : ¬ Lib.index l sub = -1 := fun e => h2 (by rw [e]; rfl)
        congr 1
        apply propext
        omega
theorem pair_eq (a b : UInt8) : Lib.contains twoText (32 :: ([a, b] ++ [32])) = pairB (a.toNat : Int) (b.toNat : Int) := by
  have e : ∀ x y : UInt8, (x == y) = ((x.toNat : Int) == (y.toNat : Int)) := fun x y => by
    by_cases h : x = y
    · subst h; simp
    · have h1 : (x == y) = false := by simpa using h
      have h2 : ¬ (x.toNat : Int) = (y.toNat : Int) := fun e => h (UInt8.toNat_inj.1 (by omega))
      rw [h1]; simpa using h2
  have r : pairB (a.toNat : Int) (b.toNat : Int) = ((a == 46 && b == 46) || ((a == 33 || a == 60 || a == 62) && b == 61)) := by
    rw [e a 46, e b 46, e a 33, e a 60, e a 62, e b 61]; rfl
  rw [r]
  have c1 : ((32 : UInt8) == 46) = false := by decide
  have c2 : ((32 : UInt8) == 33) = false := by decide
  have c3 : ((32 : UInt8) == 61) = false := by decide
  have c4 : ((32 : UInt8) == 60) = false := by decide
  have c5 : ((32 : UInt8) == 62) = false := by decide
  have c6 : ((32 : UInt8) == 32) = true := by decide
  rw [contains_has]
  simp only [hasB, twoText, List.cons_append, List.nil_append, List.isPrefixOf, c1, c2, c3, c4, c5, c6, Bool.false_and, Bool.true_and, Bool.and_true, Bool.and_false, Bool.false_eq_true, if_false, List.isEmpty, Bool.false_or, Bool.or_false]
  generalize (a == 46) = x1
  generalize (b == 46) = x2
  generalize (a == 33) = x3
  generalize (a == 60) = x4
  generalize (a == 62) = x5
  generalize (b == 61) = x6
  revert x1 x2 x3 x4 x5 x6
  decide
end Go.T
set_option linter.unusedVariables false
set_option linter.unusedSimpArgs false
namespace Go.T
open Go.Proofs Go.RowKit
/-- It reads token by token: of tokens that are cut off it answers alike, but where it would have read behind the cut. -/
structure On {α : Type} (pos : α → Nat) (j p : Nat) (n : Nat) (A B : Except Nat α) : Prop where
  ok : ∀ x, A = .ok x → p ≤ pos x ∧ pos x ≤ n ∧ (pos x ≤ j → B = .ok x) ∧ (j < pos x → B = .error j ∨ ∃ y, B = .ok y ∧ pos y = j)
  err : ∀ k, A = .error k → p ≤ k ∧ (k < j → B = .error k) ∧ (j ≤ k → B = .error j ∨ ∃ y, B = .ok y ∧ pos y = j)
def Onl {α : Type} (pos : α → Nat) (P : List Tok → Nat → Except Nat α) : Prop :=
  ∀ l j p, p ≤ j → j ≤ l.length → On pos j p l.length (P l p) (P (l.take j) p)
section
variable {α β : Type} {pos : α → Nat} {pos' : β → Nat} {P P' P1 P2 : List Tok → Nat → Except Nat α}
theorem Onl.congr (h : ∀ l p, P' l p = P l p) (hP : Onl pos P) : Onl pos P' := fun l j p h1 h2 => by rw [h, h]; exact hP l j p h1 h2
/-- At the end it stops. -/
theorem Onl.stop (h : Onl pos P) (l : List Tok) : P l l.length = .error l.length ∨ ∃ y, P l l.length = .ok y ∧ pos y = l.length := by
  have h1 := h l l.length l.length (Nat.le_refl _) (Nat.le_refl _)
  rw [List.take_of_length_le (Nat.le_refl _)] at h1
  cases h2 : P l l.length with
  | ok x =>
    obtain ⟨a, b, c, d⟩ := h1.ok x h2
    exact .inr ⟨x, rfl, by omega⟩
  | error k =>
    obtain ⟨a, b, c⟩ := h1.err k h2
    rcases Nat.lt_or_ge k l.length with e | e
    · omega
    · rcases c e with f | ⟨y, f, g⟩
      · left; rw [← h2]; exact f
      · rw [h2] at f; cases f
theorem Onl.stopT (h : Onl pos P) (l : List Tok) {j : Nat} (hj : j ≤ l.length) : P (l.take j) j = .error j ∨ ∃ y, P (l.take j) j = .ok y ∧ pos y = j := by
  have := h.stop (l.take j)
  rwa [List.length_take, Nat.min_eq_left hj] at this
theorem Onl.ge (h : Onl pos P) {l : List Tok} {p : Nat} {x : α} (hp : p ≤ l.length) (h1 : P l p = .ok x) : p ≤ pos x ∧ pos x ≤ l.length := by
  obtain ⟨a, b, _⟩ := (h l l.length p hp (Nat.le_refl _)).ok x h1
  exact ⟨a, b⟩
theorem Onl.ge' (h : Onl pos P) {l : List Tok} {p k : Nat} (hp : p ≤ l.length) (h1 : P l p = .error k) : p ≤ k := ((h l l.length p hp (Nat.le_refl _)).err k h1).1
theorem Onl.bind {Q : α → List Tok → Nat → Except Nat β} (hP : Onl pos P) (hQ : ∀ x, Onl pos' (Q x)) : Onl pos' (fun l p => P l p >>= fun x => Q x l (pos x)) := by
  intro l j p h1 h2
  have hp := hP l j p h1 h2
  have stop : ∀ y, P (l.take j) p = .ok y → pos y = j → (P (l.take j) p >>= fun x => Q x (l.take j) (pos x)) = .error j ∨ ∃ z, (P (l.take j) p >>= fun x => Q x (l.take j) (pos x)) = .ok z ∧ pos' z = j := by
    intro y hy e
    rw [hy, ok_bind, e]
    exact (hQ y).stopT l h2
  have stop2 : (P (l.take j) p = .error j ∨ ∃ y, P (l.take j) p = .ok y ∧ pos y = j) → (P (l.take j) p >>= fun x => Q x (l.take j) (pos x)) = .error j ∨ ∃ z, (P (l.take j) p >>= fun x => Q x (l.take j) (pos x)) = .ok z ∧ pos' z = j := by
    rintro (h | ⟨y, h, e⟩)
    · left; rw [h]; rfl
    · exact stop y h e
  cases h3 : P l p with
  | error k =>
    obtain ⟨a, b, c⟩ := hp.err k h3
    dsimp only
    rw [h3, err_bind]
    refine ⟨fun x e => (by cases e), fun k' e => ?_⟩
    cases e
    exact ⟨a, fun hk => by rw [b hk]; rfl, fun hk => stop2 (c hk)⟩
  | ok x =>
    obtain ⟨a, b, c, d⟩ := hp.ok x h3
    dsimp only
    rw [h3, ok_bind]
    rcases Nat.lt_or_ge j (pos x) with hj | hj
    · refine ⟨fun y e => ?_, fun k e => ?_⟩
      · have := (hQ x).ge b e
        exact ⟨by omega, this.2, fun h => by omega, fun _ => stop2 (d hj)⟩
      · have := (hQ x).ge' b e
        exact ⟨by omega, fun h => by omega, fun _ => stop2 (d hj)⟩
    · rw [c hj, ok_bind]
      have hq := hQ x l j (pos x) hj h2
      refine ⟨fun y e => ?_, fun k e => ?_⟩
      · obtain ⟨a', b', c', d'⟩ := hq.ok y e
        exact ⟨by omega, b', c', d'⟩
      · obtain ⟨a', b', c'⟩ := hq.err k e
        exact ⟨by omega, b', c'⟩
theorem Onl.ret (a : List Tok → Nat → α) (h : ∀ l p, pos (a l p) = p) (ha : ∀ l j p, a (l.take j) p = a l p) : Onl pos (fun l p => .ok (a l p)) := by
  intro l j p h1 h2
  dsimp only
  rw [ha]
  refine ⟨fun x e => ?_, fun k e => by cases e⟩
  cases e
  rw [h]
  exact ⟨Nat.le_refl _, by omega, fun _ => rfl, fun e => by omega⟩
theorem Onl.fail : Onl pos (fun _ p => .error p) := by
  intro l j p h1 h2
  refine ⟨fun x e => (by cases e), fun k e => ?_⟩
  cases e
  refine ⟨Nat.le_refl _, fun _ => rfl, fun e => .inl ?_⟩
  have : p = j := by omega
  rw [this]
theorem Onl.map {f : α → β} (h : ∀ x, pos' (f x) = pos x) (hP : Onl pos P) : Onl pos' (fun l p => (P l p).map f) := by
  intro l j p h1 h2
  have hp := hP l j p h1 h2
  have stop : (P (l.take j) p = .error j ∨ ∃ y, P (l.take j) p = .ok y ∧ pos y = j) → (P (l.take j) p).map f = .error j ∨ ∃ z, (P (l.take j) p).map f = .ok z ∧ pos' z = j := by
    rintro (h' | ⟨y, h', e⟩)
    · left; rw [h']; rfl
    · right; rw [h']; exact ⟨f y, rfl, by rw [h]; exact e⟩
  cases h3 : P l p with
  | error k =>
    obtain ⟨a, b, c⟩ := hp.err k h3
    dsimp only
    rw [h3]
    refine ⟨fun x e => (by cases e), fun k' e => ?_⟩
    cases e
    exact ⟨a, fun hk => by rw [b hk]; rfl, fun hk => stop (c hk)⟩
  | ok x =>
    obtain ⟨a, b, c, d⟩ := hp.ok x h3
    dsimp only
    rw [h3]
    refine ⟨fun y e => ?_, fun k' e => (by cases e)⟩
    cases e
    rw [h]
    exact ⟨a, b, fun hk => by rw [c hk]; rfl, fun hk => stop (d hk)⟩
/-- A test of the next token. -/
structure Look (c : List Tok → Nat → Bool) : Prop where
  same : ∀ l j p, p < j → j ≤ l.length → c (l.take j) p = c l p
  none : ∀ l p, l.length ≤ p → c l p = false
theorem Look.lt {c : List Tok → Nat → Bool} (h : Look c) {l : List Tok} {p : Nat} (hc : c l p = true) : p < l.length := by
  rcases Nat.lt_or_ge p l.length with e | e
  · exact e
  · rw [h.none l p e] at hc; cases hc
theorem Look.cut {c : List Tok → Nat → Bool} (h : Look c) {l : List Tok} {j : Nat} (hj : j ≤ l.length) : c (l.take j) j = false := h.none _ _ (by rw [List.length_take]; omega)
theorem Onl.look {c : List Tok → Nat → Bool} (hc : Look c) (h1 : Onl pos P1) (h2 : Onl pos P2) : Onl pos (fun l p => if c l p = true then P1 l (p + 1) else P2 l p) := by
  intro l j p hp hj
  rcases Nat.lt_or_ge p j with e | e
  · dsimp only
    rw [hc.same l j p e hj]
    split
    · have := h1 l j (p + 1) e hj
      exact ⟨fun x hx => by obtain ⟨a, b⟩ := this.ok x hx; exact ⟨by omega, b⟩, fun k hk => by obtain ⟨a, b⟩ := this.err k hk; exact ⟨by omega, b⟩⟩
    · exact h2 l j p hp hj
  · obtain rfl : p = j := by omega
    dsimp only
    rw [hc.cut hj, if_neg Bool.false_ne_true]
    by_cases h : c l p = true
    · rw [if_pos h]
      have hlt := hc.lt h
      refine ⟨fun x hx => ?_, fun k hk => ?_⟩
      · have := h1.ge (by omega) hx
        exact ⟨by omega, this.2, fun h => by omega, fun _ => h2.stopT l hj⟩
      · have := h1.ge' (by omega) hk
        exact ⟨by omega, fun h => by omega, fun _ => h2.stopT l hj⟩
    · rw [if_neg h]
      exact h2 l p p hp hj
/-- A test that may hold at the end. -/
theorem Onl.ite {c : List Tok → Nat → Bool} (b : Bool) (hc : Look c) (h1 : Onl pos P1) (hs : ∀ l p x, p ≤ l.length → P1 l p = .ok x → p < pos x) (h2 : Onl pos P2) : Onl pos (fun l p => if (b || c l p) = true then P1 l p else P2 l p) := by
  intro l j p hp hj
  cases b with
  | true => simpa using h1 l j p hp hj
  | false =>
    simp only [Bool.false_or]
    rcases Nat.lt_or_ge p j with e | e
    · rw [hc.same l j p e hj]
      split
      · exact h1 l j p hp hj
      · exact h2 l j p hp hj
    · obtain rfl : p = j := by omega
      rw [hc.cut hj, if_neg Bool.false_ne_true]
      by_cases h : c l p = true
      · rw [if_pos h]
        refine ⟨fun x hx => ?_, fun k hk => ?_⟩
        · have := h1.ge hj hx
          have := hs l p x hj hx
          exact ⟨by omega, by omega, fun h => by omega, fun _ => h2.stopT l hj⟩
        · have := h1.ge' hj hk
          exact ⟨by omega, fun h => by omega, fun _ => h2.stopT l hj⟩
      · rw [if_neg h]
        exact h2 l p p hp hj
theorem Onl.prim {c : List Tok → Nat → Bool} (hc : Look c) {g : List Tok → Nat → α} (hg : ∀ l j p, p < j → j ≤ l.length → g (l.take j) p = g l p) (hp : ∀ l p, pos (g l p) = p + 1) : Onl pos (fun l p => if c l p = true then .ok (g l p) else .error p) := by
  intro l j p h1 hj
  rcases Nat.lt_or_ge p j with e | e
  · dsimp only
    rw [hc.same l j p e hj, hg l j p e hj]
    split
    · refine ⟨fun x hx => ?_, fun k hk => by cases hk⟩
      cases hx
      rw [hp]
      exact ⟨by omega, by omega, fun _ => rfl, fun h => by omega⟩
    · exact ⟨fun x hx => (by cases hx), fun k hk => by cases hk; exact ⟨Nat.le_refl _, fun _ => rfl, fun h => by omega⟩⟩
  · obtain rfl : p = j := by omega
    dsimp only
    rw [hc.cut hj, if_neg Bool.false_ne_true]
    by_cases h : c l p = true
    · rw [if_pos h]
      have := hc.lt h
      refine ⟨fun x hx => ?_, fun k hk => by cases hk⟩
      cases hx
      rw [hp]
      exact ⟨by omega, by omega, fun h => by omega, fun _ => .inl rfl⟩
    · rw [if_neg h]
      exact ⟨fun x hx => (by cases hx), fun k hk => by cases hk; exact ⟨Nat.le_refl _, fun _ => rfl, fun _ => .inl rfl⟩⟩
end
theorem take_get {l : List Tok} {j p : Nat} (h : p < j) : (l.take j)[p]? = l[p]? := by rw [List.getElem?_take, if_pos h]
theorem take_getD {l : List Tok} {j p : Nat} (h : p < j) (d : Tok) : (l.take j).getD p d = l.getD p d := by rw [List.getD_eq_getElem?_getD, take_get h, ← List.getD_eq_getElem?_getD]
theorem look_ahead (xs : List (List UInt8)) : Look (fun l p => aheadP l xs p) :=
  ⟨fun l j p h _ => by unfold aheadP; rw [take_get h], fun l p h => by unfold aheadP; rw [List.getElem?_eq_none h]⟩
theorem look_named : Look namedP := ⟨fun l j p h _ => by unfold namedP; rw [take_get h], fun l p h => by unfold namedP; rw [List.getElem?_eq_none h]⟩
theorem look_digits : Look digitsP := ⟨fun l j p h _ => by unfold digitsP; rw [take_get h], fun l p h => by unfold digitsP; rw [List.getElem?_eq_none h]⟩
theorem Look.or {c d : List Tok → Nat → Bool} (hc : Look c) (hd : Look d) : Look (fun l p => c l p || d l p) :=
  ⟨fun l j p h1 h2 => by rw [hc.same l j p h1 h2, hd.same l j p h1 h2], fun l p h => by rw [hc.none l p h, hd.none l p h]; rfl⟩
theorem Look.and {d : List Tok → Nat → Bool} (b : Bool) (hd : Look d) : Look (fun l p => b && d l p) :=
  ⟨fun l j p h1 h2 => by rw [hd.same l j p h1 h2], fun l p h => by rw [hd.none l p h]; simp⟩
end Go.T
set_option linter.unusedVariables false
set_option linter.unusedSimpArgs false
namespace Go.T
open Go.Proofs Go.RowKit
def at2 {α : Type} : α × Nat → Nat := Prod.snd
theorem onl_must (x : List UInt8) : Onl (fun q : Nat => q) (fun l p => mustP l x p) :=
  Onl.prim (g := fun _ p => p + 1) (look_ahead [x]) (fun _ _ _ _ _ => rfl) (fun _ _ => rfl)
theorem onl_name : Onl (fun q : Nat => q) nameP :=
  Onl.prim (g := fun _ p => p + 1) look_named (fun _ _ _ _ _ => rfl) (fun _ _ => rfl)
theorem onl_value : Onl at2 valueP :=
  Onl.prim (g := fun l p => ((l.getD p default).value, p + 1)) look_digits (fun l j p h _ => by rw [take_getD h]) (fun _ _ => rfl)
theorem onl_number : Onl at2 numberP :=
  Onl.look (look_ahead [minus]) (Onl.map (pos := at2) (f := fun x : Int × Nat => (-x.1, x.2)) (fun _ => rfl) onl_value) onl_value
theorem number_strict (l : List Tok) (p : Nat) (x : Int × Nat) (_ : p ≤ l.length) (h : numberP l p = .ok x) : p < at2 x := (numberP_le h).1
theorem onl_numbersG (least : Nat) : ∀ (f : Nat) (acc : List Int), Onl at2 (fun l p => numbersG l least f p acc)
  | 0, acc => Onl.fail
  | f + 1, acc => by
    refine Onl.congr (P := fun l p => if (decide (acc.length < least) || (digitsP l p || aheadP l [minus] p)) = true then (numberP l p >>= fun x => numbersG l least f x.2 (acc ++ [x.1])) else .ok (acc, p)) (fun l p => ?_)
      (Onl.ite (decide (acc.length < least)) (look_digits.or (look_ahead [minus])) (Onl.bind (pos := at2) onl_number (fun x => onl_numbersG least f (acc ++ [x.1]))) ?_ (Onl.ret (fun _ p => (acc, p)) (fun _ _ => rfl) (fun _ _ _ => rfl)))
    · rw [numbersG, Bool.or_assoc]; cases numberP l p <;> rfl
    · intro l p x hp h
      cases h2 : numberP l p with
      | error k => rw [h2] at h; cases h
      | ok y =>
        have h3 := numberP_le h2
        rw [h2, ok_bind] at h
        have := (onl_numbersG least f (acc ++ [y.1])).ge (l := l) h3.2 h
        have e : at2 y = y.2 := rfl
        omega
theorem onl_numbers (least : Nat) : Onl at2 (fun l p => numbersP l least p) :=
  Onl.bind (Q := fun _ l p => numbersG l least 5000 p [] >>= fun x => mustP l [93] x.2 >>= fun q => .ok (x.1, q)) (onl_must [91]) fun _ =>
    Onl.bind (pos := at2) (Q := fun x l p => mustP l [93] p >>= fun q => .ok (x.1, q)) (onl_numbersG least 5000 []) fun x =>
      Onl.bind (Q := fun _ _ q => .ok (x.1, q)) (onl_must [93]) fun _ => Onl.ret (fun _ p => (x.1, p)) (fun _ _ => rfl) (fun _ _ _ => rfl)
theorem variableP_eq (l : List Tok) (c : Cn) (p : Nat) : variableP l c p = if namedP l p = true then .ok ({ c with vars := c.vars ++ [⟨textP l p, p⟩] }, p + 1) else .error p := by
  unfold variableP nameP
  split <;> rfl
theorem onl_variable (c : Cn) : Onl at2 (fun l p => variableP l c p) :=
  Onl.congr (fun l p => variableP_eq l c p) (Onl.prim (g := fun l p => (({ c with vars := c.vars ++ [Nm.mk (textP l p) p] } : Cn), p + 1)) look_named (fun l j p h _ => by unfold textP; rw [take_getD h]) (fun _ _ => rfl))
theorem onl_variablesG (least : Nat) (more : Bool) : ∀ (f n : Nat) (c : Cn), Onl at2 (fun l p => variablesG l least more f n c p)
  | 0, n, c => Onl.fail
  | f + 1, n, c => by
    refine Onl.congr (P := fun l p => if (decide (n < least) || (more && namedP l p)) = true then (variableP l c p >>= fun x => variablesG l least more f (n + 1) x.1 x.2) else .ok (c, p)) (fun l p => ?_)
      (Onl.ite (decide (n < least)) (look_named.and more) (Onl.bind (pos := at2) (onl_variable c) (fun x => onl_variablesG least more f (n + 1) x.1)) ?_ (Onl.ret (fun _ p => (c, p)) (fun _ _ => rfl) (fun _ _ _ => rfl)))
    · rw [variablesG]; cases variableP l c p <;> rfl
    · intro l p x hp h
      cases h2 : variableP l c p with
      | error k => rw [h2] at h; cases h
      | ok y =>
        have h3 := variableP_lt h2
        have h4 := (onl_variable c).ge hp h2
        rw [h2, ok_bind] at h
        have := (onl_variablesG least more f (n + 1) y.1).ge (l := l) h4.2 h
        have e : at2 y = y.2 := rfl
        omega
theorem onl_variables (least : Nat) (more : Bool) (c : Cn) : Onl at2 (fun l p => variablesP l least more c p) := onl_variablesG least more 5000 0 c
theorem onl_coef : Onl at2 coefP := by
  refine Onl.congr (P := fun l p => if (false || digitsP l p) = true then (valueP l p >>= fun x => mustP l [42] x.2 >>= fun q => .ok (x.1, q)) else .ok (1, p)) (fun l p => by rw [Bool.false_or]; rfl)
    (Onl.ite false look_digits (Onl.bind (pos := at2) (Q := fun x l p => mustP l [42] p >>= fun q => .ok (x.1, q)) onl_value fun x => Onl.bind (Q := fun _ _ q => .ok (x.1, q)) (onl_must [42]) fun _ => Onl.ret (fun _ p => (x.1, p)) (fun _ _ => rfl) (fun _ _ _ => rfl)) ?_ (Onl.ret (fun _ p => (1, p)) (fun _ _ => rfl) (fun _ _ _ => rfl)))
  intro l p x hp h
  cases h2 : valueP l p with
  | error k => rw [h2] at h; cases h
  | ok y =>
    have hy : y.2 = p + 1 := by
      unfold valueP at h2
      split at h2
      · cases h2; rfl
      · cases h2
    rw [h2, ok_bind] at h
    cases h3 : mustP l [42] y.2 with
    | error k => rw [h3] at h; cases h
    | ok q =>
      rw [h3, ok_bind] at h
      have := (mustP_ok h3).1
      cases h
      show p < q
      omega
theorem onl_term (s : Int) (c : Cn) : Onl at2 (fun l p => termP l s c p) :=
  Onl.bind (pos := at2) (Q := fun x l p => variableP l { c with coefs := c.coefs ++ [s * x.1] } p) onl_coef fun x => onl_variable _
theorem onl_sign : Onl at2 signP :=
  Onl.look (P1 := fun l p => .ok (1, p)) (look_ahead [plus]) (Onl.ret (fun _ p => (1, p)) (fun _ _ => rfl) (fun _ _ _ => rfl)) (Onl.map (pos := fun q => q) (f := fun q : Nat => ((-1 : Int), q)) (fun _ => rfl) (onl_must minus))
theorem onl_sumG : ∀ (f : Nat) (c : Cn), Onl at2 (fun l p => sumG l f c p)
  | 0, c => Onl.fail
  | f + 1, c => by
    have h1 : Onl at2 (fun l p => (signP l p >>= fun x => termP l x.1 c x.2) >>= fun y => sumG l f y.1 y.2) :=
      Onl.bind (pos := at2) (Onl.bind (pos := at2) (Q := fun x l p => termP l x.1 c p) onl_sign fun x => onl_term x.1 c) fun y => onl_sumG f y.1
    refine Onl.congr (P := fun l p => if (false || aheadP l [plus, minus] p) = true then ((signP l p >>= fun x => termP l x.1 c x.2) >>= fun y => sumG l f y.1 y.2) else .ok (c, p)) (fun l p => ?_)
      (Onl.ite false (look_ahead [plus, minus]) h1 ?_ (Onl.ret (fun _ p => (c, p)) (fun _ _ => rfl) (fun _ _ _ => rfl)))
    · rw [sumG, Bool.false_or]
      have e : (do let (s, p) ← signP l p; termP l s c p) = (signP l p >>= fun x => termP l x.1 c x.2) := rfl
      rw [e]
      cases (signP l p >>= fun x => termP l x.1 c x.2) <;> rfl
    · intro l p x hp h
      cases h2 : (signP l p >>= fun x => termP l x.1 c x.2) with
      | error k => rw [h2] at h; cases h
      | ok y =>
        have h4 := (Onl.bind (pos := at2) (Q := fun x l p => termP l x.1 c p) onl_sign fun x => onl_term x.1 c).ge hp h2
        have h5 : p < y.2 := by
          cases h6 : signP l p with
          | error k => rw [h6] at h2; cases h2
          | ok z =>
            rw [h6, ok_bind] at h2
            have := signP_lt h6
            have := termP_lt h2
            omega
        rw [h2, ok_bind] at h
        have := (onl_sumG f y.1).ge (l := l) h4.2 h
        have e : p < at2 y := h5
        omega
theorem onl_rel (c : Cn) : Onl at2 (fun l p => relP l c p) := by
  refine Onl.congr (P := fun l p => (if aheadP l relTexts p = true then .ok (idx relTexts (textP l p) 0, p + 1) else .error p) >>= fun x => (numberP l x.2).map (fun y => ({ c with rel := x.1, const := y.1 }, y.2))) (fun l p => ?_)
    (Onl.bind (pos := at2) (Q := fun x l p => (numberP l p).map (fun y => ({ c with rel := x.1, const := y.1 }, y.2))) (Onl.prim (g := fun l p => (idx relTexts (textP l p) 0, p + 1)) (look_ahead relTexts) (fun l j p h _ => by unfold textP; rw [take_getD h]) (fun _ _ => rfl)) fun x => Onl.map (pos := at2) (f := fun y : Int × Nat => (({ c with rel := x.1, const := y.1 } : Cn), y.2)) (fun _ => rfl) onl_number)
  unfold relP
  split <;> rfl
theorem onl_sum (c : Cn) : Onl at2 (fun l p => sumP l c p) := by
  have h1 : ∀ s : Int, Onl at2 (fun l p => termP l s c p >>= fun x => sumG l 5000 x.1 x.2 >>= fun y => relP l y.1 y.2) := fun s =>
    Onl.bind (pos := at2) (Q := fun x l p => sumG l 5000 x.1 p >>= fun y => relP l y.1 y.2) (onl_term s c) fun x => Onl.bind (pos := at2) (Q := fun y l p => relP l y.1 p) (onl_sumG 5000 x.1) fun y => onl_rel y.1
  refine Onl.congr (fun l p => ?_) (Onl.look (look_ahead [minus]) (h1 (-1)) (h1 1))
  unfold sumP
  split <;> rfl
theorem onl_nums (least : Nat) (c : Cn) : Onl at2 (fun l p => numsP l least c p) := Onl.map (pos := at2) (f := fun x : List Int × Nat => (({ c with nums := x.1 } : Cn), x.2)) (fun _ => rfl) (onl_numbers least)
theorem onl_con (upto : Nat) : Onl at2 (fun l p => conP l upto p) :=
  Onl.look (P1 := fun l p => variablesP l 3 false { con0 upto with kind := 2 } p) (look_ahead [kProduct]) (onl_variables _ _ _)
    (Onl.look (P1 := fun l p => variableP l { con0 upto with kind := 3 } p >>= fun x => sumP l x.1 x.2) (look_ahead [kIff]) (Onl.bind (pos := at2) (Q := fun x l p => sumP l x.1 p) (onl_variable _) fun x => onl_sum x.1)
      (Onl.look (P1 := fun l p => variablesP l 2 false { con0 upto with kind := 4 } p >>= fun x => numsP l 1 x.1 x.2) (look_ahead [kElement]) (Onl.bind (pos := at2) (Q := fun x l p => numsP l 1 x.1 p) (onl_variables _ _ _) fun x => onl_nums 1 x.1)
        (Onl.look (P1 := fun l p => variablesP l 2 true { con0 upto with kind := 5 } p) (look_ahead [kDifferent]) (onl_variables _ _ _)
          (Onl.look (P1 := fun l p => variablesP l 1 true { con0 upto with kind := 6 } p >>= fun x => numsP l 0 x.1 x.2) (look_ahead [kTable]) (Onl.bind (pos := at2) (Q := fun x l p => numsP l 0 x.1 p) (onl_variables _ _ _) fun x => onl_nums 0 x.1)
            (onl_sum (con0 upto))))))
theorem onl_listG (upto : Nat) : ∀ (f : Nat) (acc : List Cn), Onl at2 (fun l p => listG l upto f acc p)
  | 0, acc => Onl.fail
  | f + 1, acc => by
    refine Onl.congr (fun l p => ?_) (Onl.look (P1 := fun l p => conP l upto p >>= fun x => listG l upto f (acc ++ [x.1]) x.2) (look_ahead [kAnd]) (Onl.bind (pos := at2) (Q := fun x l p => listG l upto f (acc ++ [x.1]) p) (onl_con upto) fun x => onl_listG upto f (acc ++ [x.1]))
      (Onl.ret (fun _ p => (acc, p)) (fun _ _ => rfl) (fun _ _ _ => rfl)))
    rw [listG]; cases conP l upto (p + 1) <;> rfl
theorem onl_list (upto : Nat) : Onl at2 (fun l p => listP l upto p) :=
  Onl.look (P1 := fun _ p => .ok ([], p)) (look_ahead [kTrue]) (Onl.ret (fun _ p => ([], p)) (fun _ _ => rfl) (fun _ _ _ => rfl))
    (Onl.bind (pos := at2) (Q := fun x l p => listG l upto 5000 [x.1] p) (onl_con upto) fun x => onl_listG upto 5000 [x.1])
theorem onl_high (low : Int) : Onl at2 (fun l p => highP l low p) :=
  Onl.look (look_ahead [kDots]) onl_number (Onl.ret (fun _ p => (low, p)) (fun _ _ => rfl) (fun _ _ _ => rfl))
theorem onl_span : Onl at2 spanP :=
  Onl.bind (pos := at2) (Q := fun x l p => highP l x.1 p >>= fun y => .ok ((x.1, y.1), y.2)) onl_number fun x => Onl.bind (pos := at2) (Q := fun y _ p => .ok ((x.1, y.1), p)) (onl_high x.1) fun y => Onl.ret (fun _ p => ((x.1, y.1), p)) (fun _ _ => rfl) (fun _ _ _ => rfl)
theorem span_strict {l : List Tok} {p : Nat} {x : (Int × Int) × Nat} (hp : p ≤ l.length) (h : spanP l p = .ok x) : p < x.2 := by
  unfold spanP at h
  cases h2 : numberP l p with
  | error k => rw [h2] at h; cases h
  | ok y =>
    have h3 := numberP_le h2
    rw [h2, ok_bind] at h
    dsimp only at h
    cases h4 : highP l y.1 y.2 with
    | error k => rw [h4] at h; cases h
    | ok z =>
      have h5 := (onl_high y.1).ge (l := l) h3.2 h4
      have h6 : y.2 ≤ z.2 := h5.1
      rw [h4] at h; cases h
      show p < z.2
      omega
theorem onl_domG : ∀ (f : Nat) (acc : List (Int × Int)), Onl at2 (fun l p => domG l f acc p)
  | 0, acc => Onl.fail
  | f + 1, acc => by
    refine Onl.congr (P := fun l p => spanP l p >>= fun x => if (false || (digitsP l x.2 || aheadP l [minus] x.2)) = true then domG l f (acc ++ [x.1]) x.2 else .ok (acc ++ [x.1], x.2)) (fun l p => ?_)
      (Onl.bind (pos := at2) (Q := fun x l p => if (false || (digitsP l p || aheadP l [minus] p)) = true then domG l f (acc ++ [x.1]) p else .ok (acc ++ [x.1], p)) onl_span fun x =>
        Onl.ite false (look_digits.or (look_ahead [minus])) (onl_domG f _) ?_ (Onl.ret (fun _ p => (acc ++ [x.1], p)) (fun _ _ => rfl) (fun _ _ _ => rfl)))
    · rw [domG]
      cases spanP l p with
      | error k => rfl
      | ok y => rw [ok_bind]; simp only [Bool.false_or]
    · intro l p y hp h
      cases f with
      | zero => cases h
      | succ f =>
        rw [domG] at h
        cases h2 : spanP l p with
        | error k => rw [h2] at h; cases h
        | ok z =>
          have h3 := span_strict hp h2
          have h4 := onl_span.ge hp h2
          rw [h2] at h
          dsimp only at h
          split at h
          · cases f with
            | zero => cases h
            | succ f =>
              have := (onl_domG (f + 1) (acc ++ [x.1] ++ [z.1])).ge (l := l) h4.2 h
              have e : at2 z = z.2 := rfl
              omega
          · cases h; exact h3
end Go.T
set_option linter.unusedVariables false
set_option linter.unusedSimpArgs false
namespace Go.T
open Go.Proofs Go.RowKit
theorem declP_eq (l : List Tok) (p : Nat) : declP l p = (if namedP l p = true then .ok (textP l p, p + 1) else .error p) >>= fun x => mustP l kIn x.2 >>= fun q => domG l 5000 [] q >>= fun d => .ok (Dc.mk x.1 d.1, d.2) := by
  unfold declP nameP
  split <;> rfl
theorem onl_decl : Onl at2 declP :=
  Onl.congr declP_eq (Onl.bind (pos := at2) (Q := fun x l p => mustP l kIn p >>= fun q => domG l 5000 [] q >>= fun d => .ok (Dc.mk x.1 d.1, d.2))
    (Onl.prim (g := fun l p => (textP l p, p + 1)) look_named (fun l j p h _ => by unfold textP; rw [take_getD h]) (fun _ _ => rfl)) fun x =>
      Onl.bind (Q := fun _ l p => domG l 5000 [] p >>= fun d => .ok (Dc.mk x.1 d.1, d.2)) (onl_must kIn) fun _ =>
        Onl.bind (pos := at2) (Q := fun d _ p => .ok (Dc.mk x.1 d.1, p)) (onl_domG 5000 []) fun d => Onl.ret (fun _ p => (Dc.mk x.1 d.1, p)) (fun _ _ => rfl) (fun _ _ _ => rfl))
theorem onl_declsG : ∀ (f : Nat) (acc : List Dc), Onl at2 (fun l p => declsG l f acc p)
  | 0, acc => Onl.fail
  | f + 1, acc => by
    refine Onl.congr (fun l p => ?_) (Onl.look (P1 := fun l p => declP l p >>= fun x => declsG l f (acc ++ [x.1]) x.2) (look_ahead [[44]]) (Onl.bind (pos := at2) (Q := fun x l p => declsG l f (acc ++ [x.1]) p) onl_decl fun x => onl_declsG f (acc ++ [x.1]))
      (Onl.ret (fun _ p => (acc, p)) (fun _ _ => rfl) (fun _ _ _ => rfl)))
    rw [declsG]; cases declP l (p + 1) <;> rfl
theorem onl_quant : Onl at2 quantP :=
  Onl.look (P1 := fun _ p => .ok (true, p)) (look_ahead [kForall]) (Onl.ret (fun _ p => (true, p)) (fun _ _ => rfl) (fun _ _ _ => rfl)) (Onl.map (pos := fun q => q) (f := fun q : Nat => (false, q)) (fun _ => rfl) (onl_must kExists))
theorem onl_where (upto : Nat) : Onl at2 (fun l p => whereP l upto p) :=
  Onl.look (look_ahead [kWhere]) (onl_list upto) (Onl.ret (fun _ p => ([], p)) (fun _ _ => rfl) (fun _ _ _ => rfl))
section
variable (upto : Nat)
def bk4 (a : Bool) (ds : List Dc) (l : List Tok) (p : Nat) : Except Nat (Bk × Nat) := whereP l (upto + ds.length) p >>= fun cs => mustP l [59] cs.2 >>= fun q => .ok (Bk.mk a ds cs.1, q)
def bk3 (a : Bool) (d : Dc) (l : List Tok) (p : Nat) : Except Nat (Bk × Nat) := declsG l 5000 [d] p >>= fun ds => bk4 upto a ds.1 l ds.2
def bk2 (a : Bool) (l : List Tok) (p : Nat) : Except Nat (Bk × Nat) := declP l p >>= fun d => bk3 upto a d.1 l d.2
theorem onl_bk4 (a : Bool) (ds : List Dc) : Onl at2 (bk4 upto a ds) :=
  Onl.bind (pos := at2) (Q := fun cs l p => mustP l [59] p >>= fun q => .ok (Bk.mk a ds cs.1, q)) (onl_where _) fun cs =>
    Onl.bind (Q := fun _ _ q => .ok (Bk.mk a ds cs.1, q)) (onl_must [59]) fun _ => Onl.ret (fun _ p => (Bk.mk a ds cs.1, p)) (fun _ _ => rfl) (fun _ _ _ => rfl)
theorem onl_bk3 (a : Bool) (d : Dc) : Onl at2 (bk3 upto a d) := Onl.bind (pos := at2) (Q := fun ds l p => bk4 upto a ds.1 l p) (onl_declsG 5000 [d]) fun ds => onl_bk4 upto a ds.1
theorem onl_bk2 (a : Bool) : Onl at2 (bk2 upto a) := Onl.bind (pos := at2) (Q := fun d l p => bk3 upto a d.1 l p) onl_decl fun d => onl_bk3 upto a d.1
theorem blockP_eq (l : List Tok) (p : Nat) : blockP l upto p = quantP l p >>= fun a => bk2 upto a.1 l a.2 := by
  unfold blockP bk2 bk3 bk4
  cases quantP l p with
  | error k => rfl
  | ok a =>
    simp only [ok_bind]
    cases declP l a.2 with
    | error k => rfl
    | ok d =>
      simp only [ok_bind]
      cases declsG l 5000 [d.1] d.2 with
      | error k => rfl
      | ok ds =>
        simp only [ok_bind]
        cases whereP l (upto + ds.1.length) ds.2 with
        | error k => rfl
        | ok cs =>
          simp only [ok_bind]
          cases mustP l [59] cs.2 with
          | error k => rfl
          | ok q => rfl
theorem onl_block : Onl at2 (fun l p => blockP l upto p) :=
  Onl.congr (fun l p => blockP_eq upto l p) (Onl.bind (pos := at2) (Q := fun a l p => bk2 upto a.1 l p) onl_quant fun a => onl_bk2 upto a.1)
end
/-- Blocks, and the word behind them. -/
def bgG (l : List Tok) : Nat → List Bk → Nat → Except Nat (List Bk × Nat)
  | 0, _, p => .error p
  | f + 1, acc, p => blockP l (uptoB acc) p >>= fun x => if aheadP l [kGoal] x.2 = true then .ok (acc ++ [x.1], x.2 + 1) else bgG l f (acc ++ [x.1]) x.2
theorem bgG_eq (l : List Tok) : ∀ (f : Nat) (acc : List Bk) (p : Nat), (blocksG l f acc p >>= fun x => mustP l kGoal x.2 >>= fun q => .ok (x.1, q)) = bgG l f acc p
  | 0, acc, p => rfl
  | f + 1, acc, p => by
    rw [blocksG, bgG]
    cases blockP l (uptoB acc) p with
    | error k => rfl
    | ok y =>
      rw [ok_bind]
      dsimp only
      by_cases h : aheadP l [kGoal] y.2 = true
      · rw [if_pos h, if_pos h, ok_bind]
        unfold mustP
        dsimp only
        rw [if_pos h]; rfl
      · rw [if_neg h, if_neg h]
        exact bgG_eq l f _ _
theorem onl_bgG : ∀ (f : Nat) (acc : List Bk), Onl at2 (fun l p => bgG l f acc p)
  | 0, acc => Onl.fail
  | f + 1, acc => Onl.bind (pos := at2) (Q := fun x l p => if aheadP l [kGoal] p = true then .ok (acc ++ [x.1], p + 1) else bgG l f (acc ++ [x.1]) p) (onl_block (uptoB acc)) fun x =>
      Onl.look (P1 := fun _ p => .ok (acc ++ [x.1], p)) (look_ahead [kGoal]) (Onl.ret (fun _ p => (acc ++ [x.1], p)) (fun _ _ => rfl) (fun _ _ _ => rfl)) (onl_bgG f (acc ++ [x.1]))
/-- All but what ends it. -/
def modP (l : List Tok) (p : Nat) : Except Nat ((List Bk × List Cn) × Nat) := bgG l 5000 [] p >>= fun x => listP l (uptoB x.1) x.2 >>= fun y => .ok ((x.1, y.1), y.2)
theorem onl_mod : Onl at2 modP :=
  Onl.bind (pos := at2) (Q := fun x l p => listP l (uptoB x.1) p >>= fun y => .ok ((x.1, y.1), y.2)) (onl_bgG 5000 []) fun x =>
    Onl.bind (pos := at2) (Q := fun y _ p => .ok ((x.1, y.1), p)) (onl_list _) fun y => Onl.ret (fun _ p => ((x.1, y.1), p)) (fun _ _ => rfl) (fun _ _ _ => rfl)
/-- All but the look at the end. -/
def wholeP (l : List Tok) (p : Nat) : Except Nat ((List Bk × List Cn) × Nat) := modP l p >>= fun x => mustP l [59] x.2 >>= fun q => .ok (x.1, q)
theorem onl_whole : Onl at2 wholeP :=
  Onl.bind (pos := at2) (Q := fun x l p => mustP l [59] p >>= fun q => .ok (x.1, q)) onl_mod fun x => Onl.bind (Q := fun _ _ q => .ok (x.1, q)) (onl_must [59]) fun _ => Onl.ret (fun _ p => (x.1, p)) (fun _ _ => rfl) (fun _ _ _ => rfl)
theorem allP_whole (l : List Tok) (p : Nat) : allP l p = wholeP l p >>= fun x => if x.2 < l.length then .error x.2 else .ok (⟨x.1.1, x.1.2⟩, x.2) := by
  unfold allP wholeP modP
  rw [← bgG_eq]
  cases blocksG l 5000 [] p with
  | error k => rfl
  | ok a =>
    simp only [ok_bind]
    cases mustP l kGoal a.2 with
    | error k => rfl
    | ok q =>
      simp only [ok_bind]
      cases listP l (uptoB a.1) q with
      | error k => rfl
      | ok g =>
        simp only [ok_bind]
        cases mustP l [59] g.2 with
        | error k => rfl
        | ok q => rfl
/-- What is whole of fewer tokens is it of more. -/
theorem whole_more {l : List Tok} {j : Nat} (hj : j ≤ l.length) {x : (List Bk × List Cn) × Nat} (h : wholeP (l.take j) 0 = .ok x) : wholeP l 0 = .ok x := by
  unfold wholeP at h
  cases h1 : modP (l.take j) 0 with
  | error k => rw [h1] at h; cases h
  | ok r =>
    rw [h1, ok_bind] at h
    cases h2 : mustP (l.take j) [59] r.2 with
    | error k => rw [h2] at h; cases h
    | ok q =>
      rw [h2, ok_bind] at h
      cases h
      have h3 := mustP_ok h2
      have h4 : r.2 < j := by
        have := (look_ahead [[59]]).lt (l := l.take j) h3.2
        rw [List.length_take] at this
        omega
      have ho := onl_mod l j 0 (Nat.zero_le _) hj
      have h5 : modP l 0 = .ok r := by
        cases h6 : modP l 0 with
        | error k =>
          obtain ⟨_, b, c⟩ := ho.err k h6
          rcases Nat.lt_or_ge k j with e | e
          · rw [b e] at h1; cases h1
          · rcases c e with f | ⟨y, f, g⟩
            · rw [f] at h1; cases h1
            · rw [f] at h1; cases h1
              have g : r.2 = j := g
              omega
        | ok r' =>
          obtain ⟨_, _, c, d⟩ := ho.ok r' h6
          rcases Nat.lt_or_ge j (at2 r') with e | e
          · rcases d e with f | ⟨y, f, g⟩
            · rw [f] at h1; cases h1
            · rw [f] at h1; cases h1
              have g : r.2 = j := g
              omega
          · rw [c e] at h1; cases h1; rfl
      unfold wholeP
      rw [h5, ok_bind]
      have h7 : mustP l [59] r.2 = .ok q := by
        have := h3.2
        rw [(look_ahead [[59]]).same l j r.2 h4 hj] at this
        unfold mustP
        rw [if_pos this, h3.1]
      rw [h7]; rfl
/-- What ends too soon, ends at the end. -/
theorem all_cut {l : List Tok} {j : Nat} (hj : j ≤ l.length) (h : wholeP (l.take j) 0 = .error j ∨ ∃ y, wholeP (l.take j) 0 = .ok y ∧ at2 y = j) :
    allP (l.take j) 0 = .error j ∨ ∃ y, allP (l.take j) 0 = .ok y ∧ wholeP l 0 = .ok ((y.1.blocks, y.1.goal), j) := by
  rw [allP_whole]
  rcases h with h | ⟨y, h, e⟩
  · left; rw [h]; rfl
  · right
    have h2 := whole_more hj h
    have e : y.2 = j := e
    rw [h, ok_bind, if_neg (by rw [List.length_take]; omega)]
    refine ⟨_, rfl, ?_⟩
    rw [h2, ← e]
/-- Of tokens that are none: cut off ahead of where they are wrong they end too soon. -/
theorem cut_err {l : List Tok} {k j : Nat} (h : allP l 0 = .error k) (hj : j < k) (hl : j ≤ l.length) : allP (l.take j) 0 = .error j := by
  rw [allP_whole] at h
  have ho := onl_whole l j 0 (Nat.zero_le _) hl
  cases h1 : wholeP l 0 with
  | error k' =>
    rw [h1] at h; cases h
    obtain ⟨_, _, c⟩ := ho.err k h1
    rcases all_cut hl (c (by omega)) with e | ⟨y, e, f⟩
    · exact e
    · rw [h1] at f; cases f
  | ok x =>
    rw [h1, ok_bind] at h
    split at h
    · cases h
      obtain ⟨_, _, c, d⟩ := ho.ok x h1
      rcases all_cut hl (d hj) with e | ⟨y, e, f⟩
      · exact e
      · rw [h1] at f; cases f
        exact absurd hj (Nat.lt_irrefl _)
    · cases h
theorem cut_at {l : List Tok} {k : Nat} (h : allP l 0 = .error k) (hl : k ≤ l.length) : allP (l.take k) 0 = .error k ∨ ∃ y, allP (l.take k) 0 = .ok y := by
  rw [allP_whole] at h
  have ho := onl_whole l k 0 (Nat.zero_le _) hl
  cases h1 : wholeP l 0 with
  | error k' =>
    rw [h1] at h; cases h
    obtain ⟨_, _, c⟩ := ho.err k h1
    rcases all_cut hl (c (Nat.le_refl _)) with e | ⟨y, e, f⟩
    · exact .inl e
    · exact .inr ⟨y, e⟩
  | ok x =>
    rw [h1, ok_bind] at h
    split at h
    · cases h
      obtain ⟨_, _, c, d⟩ := ho.ok x h1
      have h2 := c (Nat.le_refl _)
      right
      rw [allP_whole, h2, ok_bind, if_neg (by rw [List.length_take]; omega)]
      exact ⟨_, rfl⟩
    · cases h
theorem cut_ok {l : List Tok} {j : Nat} {x : Md × Nat} (h : allP l 0 = .ok x) (hj : j < l.length) : allP (l.take j) 0 = .error j := by
  rw [allP_whole] at h
  have ho := onl_whole l j 0 (Nat.zero_le _) (by omega)
  cases h1 : wholeP l 0 with
  | error k' => rw [h1] at h; cases h
  | ok y =>
    rw [h1, ok_bind] at h
    split at h
    · cases h
    · rename_i hn
      have e : ¬ y.2 < l.length := hn
      obtain ⟨_, b, c, d⟩ := ho.ok y h1
      have e2 : at2 y = y.2 := rfl
      rcases all_cut (by omega) (d (by omega)) with f | ⟨z, f, g⟩
      · exact f
      · rw [h1] at g
        cases g
        exact absurd hj (by assumption)
end Go.T
set_option linter.unusedVariables false
set_option linter.unusedSimpArgs false
namespace Go.T
open Go.Proofs Go.RowKit
theorem tw_take (p : UInt8 → Bool) : ∀ (d : List UInt8) (m : Nat), (d.takeWhile p).length ≤ m → (d.take m).takeWhile p = d.takeWhile p
  | [], m, _ => by simp
  | b :: d, 0, h => by
    have : (b :: d).takeWhile p = [] := List.eq_nil_of_length_eq_zero (by omega)
    rw [this]; rfl
  | b :: d, m + 1, h => by
    rw [List.take_succ_cons, List.takeWhile_cons, List.takeWhile_cons]
    rw [List.takeWhile_cons] at h
    split
    · rename_i hp
      rw [if_pos hp, List.length_cons] at h
      rw [tw_take p d m (by omega)]
    · rfl
theorem first_cut {d : List UInt8} {m : Nat} (h0 : 0 < d.length) (hk : ¬ ((first d).1 == 0) = true) (hm : (first d).2.1.length ≤ m) : first (d.take m) = first d := by
  have hl := first_len h0 hk
  have hg : (d.take m).getD 0 0 = d.getD 0 0 := by
    rw [List.getD_eq_getElem?_getD, List.getElem?_take, if_pos (by omega), ← List.getD_eq_getElem?_getD]
  unfold first at hm hk ⊢
  rw [hg]
  by_cases h1 : isLetter (d.getD 0 0) = true
  · rw [if_pos h1] at hm ⊢
    rw [if_pos h1, tw_take _ _ _ hm]
  rw [if_neg h1] at hm hk ⊢
  rw [if_neg h1]
  by_cases h2 : isDigit (d.getD 0 0) = true
  · rw [if_pos h2] at hm ⊢
    rw [if_pos h2, tw_take _ _ _ hm]
  rw [if_neg h2] at hm hk ⊢
  rw [if_neg h2]
  by_cases h3 : (decide (d.length > 1) && Lib.contains twoText (32 :: (d.take 2 ++ [32]))) = true
  · rw [if_pos h3] at hm ⊢
    have hd : d.length > 1 := by
      simp only [Bool.and_eq_true, decide_eq_true_eq] at h3
      exact h3.1
    have h2' : (d.take 2).length = 2 := by rw [List.length_take]; omega
    have hm : 2 ≤ m := by have : (d.take 2).length ≤ m := hm; omega
    have e : (d.take m).take 2 = d.take 2 := by rw [List.take_take, Nat.min_eq_left hm]
    rw [e, if_pos]
    simp only [Bool.and_eq_true, decide_eq_true_eq] at h3 ⊢
    exact ⟨by rw [List.length_take]; omega, h3.2⟩
  rw [if_neg h3] at hm hk ⊢
  have h3' : ¬ (decide ((d.take m).length > 1) && Lib.contains twoText (32 :: ((d.take m).take 2 ++ [32]))) = true := by
    intro h
    simp only [Bool.and_eq_true, decide_eq_true_eq] at h h3
    have hlt := h.1
    rw [List.length_take] at hlt
    have e : (d.take m).take 2 = d.take 2 := by rw [List.take_take, Nat.min_eq_left (by omega)]
    rw [e] at h
    exact h3 ⟨by omega, h.2⟩
  rw [if_neg h3']
  by_cases h4 : Lib.indexByte oneText (d.getD 0 0) ≥ 0
  · rw [if_pos h4] at hm ⊢
    rw [if_pos h4]
    have h1' : (d.take 1).length = 1 := by rw [List.length_take]; omega
    have hm : 1 ≤ m := by have : (d.take 1).length ≤ m := hm; omega
    have e : (d.take m).take 1 = d.take 1 := by rw [List.take_take, Nat.min_eq_left hm]
    rw [e]
  · rw [if_neg h4] at hk
    exact absurd rfl hk
/-- What is found behind the first tokens. -/
theorem scanG_ext (l : List UInt8) : ∀ (f i : Nat) (acc : List Tk), i ≤ l.length → (scanG l f i acc).2.2 = 0 → ∃ r, (scanG l f i acc).1 = acc ++ r ∧ (∀ t, t ∈ r → (i : Int) ≤ t.pos) ∧ r.Pairwise (fun a b => a.pos < b.pos)
  | 0, i, acc, hi, h => ⟨[], by simp [scanG], by simp, .nil⟩
  | f + 1, i, acc, hi, h => by
    unfold scanG at h ⊢
    by_cases h1 : l.length ≤ i
    · rw [if_pos h1]; exact ⟨[], by simp, by simp, .nil⟩
    rw [if_neg h1] at h ⊢
    by_cases h2 : blank (l.getD i 0) = true
    · rw [if_pos h2] at h ⊢
      obtain ⟨r, e1, e2, e3⟩ := scanG_ext l f (i + 1) acc (by omega) h
      exact ⟨r, e1, fun t ht => by have := e2 t ht; omega, e3⟩
    rw [if_neg h2] at h ⊢
    by_cases h3 : ((first (l.drop i)).1 == 0) = true
    · rw [if_pos h3] at h; cases h
    rw [if_neg h3] at h ⊢
    by_cases h4 : (first (l.drop i)).2.2 > 1099511627776
    · rw [if_pos h4] at h; cases h
    rw [if_neg h4] at h ⊢
    have hdl : (l.drop i).length = l.length - i := List.length_drop
    have hl := first_len (l := l.drop i) (by omega) h3
    obtain ⟨r, e1, e2, e3⟩ := scanG_ext l f _ _ (by omega) h
    refine ⟨_ :: r, by rw [e1, List.append_assoc]; rfl, fun t ht => ?_, List.pairwise_cons.2 ⟨fun t ht => ?_, e3⟩⟩
    · rcases List.mem_cons.1 ht with rfl | ht
      · exact Int.le_refl _
      · have := e2 t ht; omega
    · have := e2 t ht
      dsimp only
      omega
theorem scanG_cut (l : List UInt8) {q j : Nat} (hq : q < l.length) : ∀ (f f' i : Nat) (acc : List Tk), i ≤ l.length → q - i < f' → i ≤ q → acc.length ≤ j → (scanG l f i acc).2.2 = 0 → (∃ t, (scanG l f i acc).1[j]? = some t ∧ t.pos = q) →
    scanG (l.take q) f' i acc = ((scanG l f i acc).1.take j, 0, 0)
  | 0, f', i, acc, hi, hf, hiq, hj, h, ⟨t, ht, _⟩ => by
    unfold scanG at ht
    dsimp only at ht
    rw [List.getElem?_eq_none hj] at ht; cases ht
  | f + 1, 0, i, acc, hi, hf, hiq, hj, h, ht => by omega
  | f + 1, f' + 1, i, acc, hi, hf, hiq, hj, h, ⟨t, ht, hp⟩ => by
    have hlq : (l.take q).length = q := by rw [List.length_take]; omega
    have hgd : i < q → (l.take q).getD i 0 = l.getD i 0 := fun h => by rw [List.getD_eq_getElem?_getD, List.getElem?_take, if_pos h, ← List.getD_eq_getElem?_getD]
    unfold scanG at h ht ⊢
    by_cases h1 : l.length ≤ i
    · omega
    rw [if_neg h1] at h ht ⊢
    by_cases h2 : blank (l.getD i 0) = true
    · rw [if_pos h2] at h ht ⊢
      obtain ⟨r, e1, e2, e3⟩ := scanG_ext l f (i + 1) acc (by omega) h
      have hr : t ∈ r := by
        rw [e1, List.getElem?_append_right hj] at ht
        exact List.mem_of_getElem? ht
      have := e2 t hr
      have hlt : i < q := by omega
      rw [hlq, if_neg (by omega), hgd hlt, if_pos h2]
      exact scanG_cut l hq f f' (i + 1) acc (by omega) (by omega) (by omega) hj h ⟨t, ht, hp⟩
    rw [if_neg h2] at h ht ⊢
    by_cases h3 : ((first (l.drop i)).1 == 0) = true
    · rw [if_pos h3] at h; cases h
    rw [if_neg h3] at h ht ⊢
    by_cases h4 : (first (l.drop i)).2.2 > 1099511627776
    · rw [if_pos h4] at h; cases h
    rw [if_neg h4] at h ht ⊢
    have hdl : (l.drop i).length = l.length - i := List.length_drop
    have hl := first_len (l := l.drop i) (by omega) h3
    obtain ⟨r, e1, e2, e3⟩ := scanG_ext l f _ _ (by omega) h
    rcases Nat.lt_or_ge acc.length j with hj' | hj'
    · have hj2 : (acc ++ [(⟨(first (l.drop i)).1, (first (l.drop i)).2.1, (first (l.drop i)).2.2, i⟩ : Tk)]).length ≤ j := by rw [List.length_append, List.length_singleton]; omega
      have hr : t ∈ r := by
        rw [e1, List.getElem?_append_right hj2] at ht
        exact List.mem_of_getElem? ht
      have h5 := e2 t hr
      have hlt : i < q := by omega
      have hfc : first ((l.take q).drop i) = first (l.drop i) := by
        rw [List.drop_take]
        exact first_cut (by omega) h3 (by omega)
      rw [hlq, if_neg (by omega), hgd hlt, if_neg h2, hfc, if_neg h3, if_neg h4]
      exact scanG_cut l hq f f' _ _ (by omega) (by omega) (by omega) hj2 h ⟨t, ht, hp⟩
    · have hj3 : j = acc.length := by omega
      subst hj3
      rw [e1] at ht
      have : t = (⟨(first (l.drop i)).1, (first (l.drop i)).2.1, (first (l.drop i)).2.2, i⟩ : Tk) := by simpa using ht.symm
      subst this
      have hiq2 : i = q := by have hp : (i : Int) = q := hp; omega
      rw [hlq, if_pos (by omega), e1, List.append_assoc, List.take_left]
theorem scan_cut {l : List UInt8} (h : (scan l).2.2 = 0) {j : Nat} {t : Tk} (ht : (scan l).1[j]? = some t) : t.pos.toNat < l.length ∧ ((t.pos.toNat : Nat) : Int) = t.pos ∧ scan (l.take t.pos.toNat) = ((scan l).1.take j, 0, 0) := by
  obtain ⟨hsc, hl⟩ := scan_toks h
  obtain ⟨p0, p1⟩ := hsc.pos t (List.mem_of_getElem? ht)
  have hq : t.pos.toNat < l.length := by omega
  refine ⟨hq, by omega, ?_⟩
  have hlq : (l.take t.pos.toNat).length = t.pos.toNat := by rw [List.length_take]; omega
  have e : scan l = scanG l (l.length + 1) 0 [] := by unfold scan; rw [if_neg (by omega)]
  rw [e] at h ht ⊢
  unfold scan
  rw [if_neg (by omega)]
  exact scanG_cut l hq _ _ 0 [] (by omega) (by omega) (by omega) (Nat.zero_le _) h ⟨t, ht, by omega⟩
theorem scan_mono {l : List UInt8} (h : (scan l).2.2 = 0) : (scan l).1.Pairwise (fun a b => a.pos < b.pos) := by
  obtain ⟨hsc, hl⟩ := scan_toks h
  have e : scan l = scanG l (l.length + 1) 0 [] := by unfold scan; rw [if_neg (by omega)]
  rw [e] at h ⊢
  obtain ⟨r, e1, e2, e3⟩ := scanG_ext l _ 0 [] (by omega) h
  rw [e1]
  exact e3
end Go.T
set_option linter.unusedVariables false
set_option linter.unusedSimpArgs false
namespace Go.T
open Go.Proofs Go.RowKit
theorem toks_take (ts : List Tk) (j : Nat) : toks (ts.take j) = (toks ts).take j := by unfold toks; rw [List.map_take]
theorem toks_len (ts : List Tk) : (toks ts).length = ts.length := by unfold toks; rw [List.length_map]
/-! ### What is parsed has blocks and variables -/
section
variable {l : List Tok}
theorem declsG_ne : ∀ (f : Nat) {acc : List Dc} {p : Nat} {x : List Dc × Nat}, declsG l f acc p = .ok x → acc ≠ [] → x.1 ≠ []
  | 0, acc, p, x, h, ha => by simp [declsG] at h
  | f + 1, acc, p, x, h, ha => by
    unfold declsG at h
    split at h
    · cases h2 : declP l (p + 1) with
      | error k => rw [h2] at h; cases h
      | ok y => rw [h2] at h; exact declsG_ne f h (by simp)
    · cases h; exact ha
theorem blockP_ne {n p : Nat} {x : Bk × Nat} (h : blockP l n p = .ok x) : x.1.vars ≠ [] := by
  unfold blockP at h
  cases h1 : quantP l p with
  | error k => rw [h1] at h; cases h
  | ok a =>
    rw [h1, ok_bind] at h
    dsimp only at h
    cases h2 : declP l a.2 with
    | error k => rw [h2] at h; cases h
    | ok d =>
      rw [h2, ok_bind] at h
      cases h3 : declsG l 5000 [d.1] d.2 with
      | error k => rw [h3] at h; cases h
      | ok ds =>
        rw [h3, ok_bind] at h
        cases h4 : whereP l (n + ds.1.length) ds.2 with
        | error k => rw [h4] at h; cases h
        | ok cs =>
          rw [h4, ok_bind] at h
          cases h5 : mustP l [59] cs.2 with
          | error k => rw [h5] at h; cases h
          | ok q =>
            rw [h5] at h; cases h
            exact declsG_ne _ h3 (by simp)
theorem blocksG_ne : ∀ (f : Nat) {acc : List Bk} {p : Nat} {x : List Bk × Nat}, blocksG l f acc p = .ok x → (∀ b, b ∈ acc → b.vars ≠ []) → x.1 ≠ [] ∧ ∀ b, b ∈ x.1 → b.vars ≠ []
  | 0, acc, p, x, h, ha => by simp [blocksG] at h
  | f + 1, acc, p, x, h, ha => by
    unfold blocksG at h
    cases h2 : blockP l (uptoB acc) p with
    | error k => rw [h2] at h; cases h
    | ok y =>
      rw [h2] at h
      dsimp only at h
      have hb : ∀ b, b ∈ acc ++ [y.1] → b.vars ≠ [] := fun b hb => by
        rcases List.mem_append.1 hb with h1 | h1
        · exact ha b h1
        · rw [List.mem_singleton.1 h1]; exact blockP_ne h2
      split at h
      · cases h; exact ⟨by simp, hb⟩
      · exact blocksG_ne f h hb
theorem allP_ne {p : Nat} {x : Md × Nat} (h : allP l p = .ok x) : x.1.blocks ≠ [] ∧ ∀ b, b ∈ x.1.blocks → b.vars ≠ [] := by
  unfold allP at h
  cases h1 : blocksG l 5000 [] p with
  | error k => rw [h1] at h; cases h
  | ok a =>
    rw [h1, ok_bind] at h
    dsimp only at h
    cases h2 : mustP l kGoal a.2 with
    | error k => rw [h2] at h; cases h
    | ok q =>
      rw [h2, ok_bind] at h
      cases h3 : listP l (uptoB a.1) q with
      | error k => rw [h3] at h; cases h
      | ok g =>
        rw [h3, ok_bind] at h
        cases h4 : mustP l [59] g.2 with
        | error k => rw [h4] at h; cases h
        | ok q2 =>
          rw [h4, ok_bind] at h
          split at h
          · cases h
          · cases h
            exact blocksG_ne _ h1 (fun b hb => by cases hb)
theorem blocksD_vars (V : List (List UInt8)) : ∀ (n : Nat) (bs : List Bk), (∀ b, b ∈ bs → b.vars ≠ []) → ∀ b, b ∈ blocksD V n bs → b.vars ≠ []
  | n, [], _, b, h => by cases h
  | n, c :: bs, ha, b, h => by
    rw [blocksD] at h
    rcases List.mem_cons.1 h with rfl | h
    · have := ha c (by simp)
      simpa using this
    · exact blocksD_vars V _ bs (fun b hb => ha b (by simp [hb])) b h
theorem check_form {x : Md × Nat} {p : Nat} (h : allP l p = .ok x) : ¬ checkM (modelD x.1) = 2 := by
  obtain ⟨h1, h2⟩ := allP_ne h
  have e1 : (((modelD x.1).blocks.length : Int) == 0) = false := by
    have : 0 < x.1.blocks.length := List.length_pos_iff.2 h1
    have e : (modelD x.1).blocks.length = x.1.blocks.length := blocksD_length _ _ _
    rw [e]
    simp
    exact h1
  have e2 : (modelD x.1).blocks.any (fun b => ((b.vars.length : Int) == 0)) = false := by
    rw [List.any_eq_false]
    intro b hb
    have := blocksD_vars _ _ _ h2 b hb
    simp
    exact this
  unfold checkM
  rw [e1, e2]
  split
  · decide
  · rw [if_neg (by simp)]
    split
    · decide
    · split
      · decide
      · split
        · decide
        · split <;> decide
end
/-- Cut off at a token. -/
theorem parse_cut {l : List UInt8} (h : (scan l).2.2 = 0) {j : Nat} {t : Tk} (ht : (scan l).1[j]? = some t) (he : allP ((toks (scan l).1).take j) 0 = .error j) : parseM (l.take t.pos.toNat) = (noModel, t.pos, 2) := by
  obtain ⟨h1, h2, h3⟩ := scan_cut h ht
  have hj : j < (scan l).1.length := (List.getElem?_eq_some_iff.1 ht).1
  have e1 : (scan (l.take t.pos.toNat)).2.2 = 0 := by rw [h3]
  have e2 : allP (toks (scan (l.take t.pos.toNat)).1) 0 = .error j := by rw [h3]; dsimp only; rw [toks_take]; exact he
  rw [parse_form e1 e2, h3]
  dsimp only
  have e3 : failAt ((scan l).1.take j) j ((l.take t.pos.toNat).length : Nat) = t.pos := by
    unfold failAt
    rw [List.getElem?_eq_none (by rw [List.length_take]; omega)]
    dsimp only
    rw [List.length_take, Nat.min_eq_left (by omega), h2]
  rw [e3]
def cutAt (l : List UInt8) : Int := if (parseM l).2.2 = 2 then (parseM l).2.1 else l.length
theorem parse_nil : parseM [] = (noModel, 0, 2) := by kernel_rfl
theorem cut_A {l : List UInt8} (h : (scan l).2.2 = 0) (h2 : (parseM l).2.2 = 2) (g : (parseM (l.take (parseM l).2.1.toNat)).2.2 = 2) : (parseM (l.take (parseM l).2.1.toNat)).2.1 = (parseM l).2.1 := by
  obtain ⟨hsc, _⟩ := scan_toks h
  cases h3 : allP (toks (scan l).1) 0 with
  | error k =>
    rw [parse_form h h3] at g ⊢
    dsimp only at g ⊢
    cases hk : (scan l).1[k]? with
    | none =>
      have e : failAt (scan l).1 k l.length = l.length := by unfold failAt; rw [hk]
      rw [e, Int.toNat_natCast, List.take_of_length_le (Nat.le_refl _), parse_form h h3]
      exact e
    | some t =>
      have e : failAt (scan l).1 k l.length = t.pos := by unfold failAt; rw [hk]
      rw [e] at g ⊢
      obtain ⟨a1, a2, a3⟩ := scan_cut h hk
      have hkl : k < (scan l).1.length := (List.getElem?_eq_some_iff.1 hk).1
      rcases cut_at h3 (by rw [toks_len]; omega) with c | ⟨y, c⟩
      · rw [parse_cut h hk c]
      · have b1 : (scan (l.take t.pos.toNat)).2.2 = 0 := by rw [a3]
        have b2 : allP (toks (scan (l.take t.pos.toNat)).1) 0 = .ok y := by rw [a3]; dsimp only; rw [toks_take]; exact c
        cases b3 : resolveM y.1 with
        | some n => rw [parse_name b1 b2 b3] at g; exact absurd g (by decide : ¬ (7 : Int) = 2)
        | none =>
          by_cases b4 : checkM (modelD y.1) = 0
          · rw [parse_ok b1 b2 b3 b4] at g; exact absurd g (by decide : ¬ (0 : Int) = 2)
          · rw [parse_bad b1 b2 b3 b4] at g ⊢
            have g : checkM (modelD y.1) = 2 := g
            exact absurd g (check_form c)
  | ok x =>
    have e0 : (parseM l).2.1 = 0 := by
      cases h4 : resolveM x.1 with
      | some n => rw [parse_name h h3 h4] at h2; exact absurd h2 (by decide : ¬ (7 : Int) = 2)
      | none =>
        by_cases h5 : checkM (modelD x.1) = 0
        · rw [parse_ok h h3 h4 h5]
        · rw [parse_bad h h3 h4 h5]
    rw [e0]
    show (parseM (l.take 0)).2.1 = 0
    rw [List.take_zero, parse_nil]
theorem cut_B {l : List UInt8} (h : (scan l).2.2 = 0) (hn : (scan l).1 = []) : parseM l = (noModel, (l.length : Int), 2) := by
  have h3 : allP (toks (scan l).1) 0 = .error 0 := by rw [hn]; rfl
  rw [parse_form h h3, hn]
  rfl
theorem cut_C {l : List UInt8} (h : (scan l).2.2 = 0) {j : Nat} {t : Tk} (ht : (scan l).1[j]? = some t) (hlt : t.pos < cutAt l) : parseM (l.take t.pos.toNat) = (noModel, t.pos, 2) := by
  have hj : j < (scan l).1.length := (List.getElem?_eq_some_iff.1 ht).1
  obtain ⟨hsc, _⟩ := scan_toks h
  refine parse_cut h ht ?_
  cases h3 : allP (toks (scan l).1) 0 with
  | ok x => exact cut_ok h3 (by rw [toks_len]; exact hj)
  | error k =>
    refine cut_err h3 ?_ (by rw [toks_len]; omega)
    unfold cutAt at hlt
    rw [parse_form h h3, if_pos rfl] at hlt
    dsimp only at hlt
    unfold failAt at hlt
    cases hk : (scan l).1[k]? with
    | none =>
      have := List.getElem?_eq_none_iff.1 hk
      omega
    | some u =>
      rw [hk] at hlt
      dsimp only at hlt
      rcases Nat.lt_or_ge j k with e | e
      · exact e
      · exfalso
        obtain ⟨hk1, hk2⟩ := List.getElem?_eq_some_iff.1 hk
        obtain ⟨hj1, hj2⟩ := List.getElem?_eq_some_iff.1 ht
        rcases Nat.eq_or_lt_of_le e with e2 | e2
        · subst e2
          rw [hk] at ht; cases ht
          omega
        · have := List.pairwise_iff_getElem.1 (scan_mono h) k j hk1 hj1 e2
          rw [hk2, hj2] at this
          omega
theorem cutAt_at (l : List UInt8) : 0 ≤ cutAt l ∧ cutAt l ≤ l.length := by
  unfold cutAt
  split
  · rcases parse_may l with ⟨_, e, _⟩ | ⟨_, e1, e2, _⟩
    · rw [e]; exact ⟨Int.le_refl _, Int.natCast_nonneg _⟩
    · exact ⟨e1, e2⟩
  · exact ⟨Int.natCast_nonneg _, Int.le_refl _⟩
end Go.T
set_option linter.unusedVariables false
set_option linter.unusedSimpArgs false
namespace Go.T
open Go.Proofs Go.RowKit
variable {Ev : Env} {H : Nat → Option RObj}
section
variable {l : List UInt8} {k : Nat}
theorem getD_drop0 : (l.drop k).getD 0 0 = l.getD k 0 := by simp [List.getD_eq_getElem?_getD]
theorem first_word (h : isLetter (l.getD k 0) = true) : first (l.drop k) = (1, (l.drop k).takeWhile isPart, 0) := by
  unfold first; rw [getD_drop0, if_pos h]
theorem first_digit (h : isLetter (l.getD k 0) = false) (h2 : isDigit (l.getD k 0) = true) : first (l.drop k) = (2, (l.drop k).takeWhile isDigit, val ((l.drop k).takeWhile isDigit) 0) := by
  unfold first; rw [getD_drop0, if_neg (by rw [h]; simp), if_pos h2]
theorem take2 (h : k + 1 < l.length) : (l.drop k).take 2 = [l.getD k 0, l.getD (k + 1) 0] := by
  have h0 : l[k]? = some (l.getD k 0) := getD_some (by omega) 0
  have h1 : l[k + 1]? = some (l.getD (k + 1) 0) := getD_some (by omega) 0
  rw [drop_get h0, drop_get h1]
  rfl
theorem twoB (h : k + 1 < l.length) : (decide ((l.drop k).length > 1) && Lib.contains twoText (32 :: ((l.drop k).take 2 ++ [32]))) = pairB (l.getD k 0).toNat (l.getD (k + 1) 0).toNat := by
  rw [take2 h, pair_eq, decide_eq_true (by rw [List.length_drop]; omega), Bool.true_and]
theorem twoN (h : ¬ k + 1 < l.length) : (decide ((l.drop k).length > 1) && Lib.contains twoText (32 :: ((l.drop k).take 2 ++ [32]))) = false := by
  rw [decide_eq_false (by rw [List.length_drop]; omega), Bool.false_and]
theorem first_two (h : isLetter (l.getD k 0) = false) (h2 : isDigit (l.getD k 0) = false) (h3 : (decide ((l.drop k).length > 1) && Lib.contains twoText (32 :: ((l.drop k).take 2 ++ [32]))) = true) : first (l.drop k) = (3, (l.drop k).take 2, 0) := by
  unfold first; rw [getD_drop0, if_neg (by rw [h]; simp), if_neg (by rw [h2]; simp), if_pos h3]
theorem first_one (h : isLetter (l.getD k 0) = false) (h2 : isDigit (l.getD k 0) = false) (h3 : (decide ((l.drop k).length > 1) && Lib.contains twoText (32 :: ((l.drop k).take 2 ++ [32]))) = false) (h4 : oneI.contains ((l.getD k 0).toNat : Int) = true) : first (l.drop k) = (3, (l.drop k).take 1, 0) := by
  rw [← one_eq] at h4
  unfold first; rw [getD_drop0, if_neg (by rw [h]; simp), if_neg (by rw [h2]; simp), if_neg (by rw [h3]; simp), if_pos (of_decide_eq_true h4)]
theorem first_none (h : isLetter (l.getD k 0) = false) (h2 : isDigit (l.getD k 0) = false) (h3 : (decide ((l.drop k).length > 1) && Lib.contains twoText (32 :: ((l.drop k).take 2 ++ [32]))) = false) (h4 : oneI.contains ((l.getD k 0).toNat : Int) = false) : first (l.drop k) = (0, [], 0) := by
  rw [← one_eq] at h4
  unfold first; rw [getD_drop0, if_neg (by rw [h]; simp), if_neg (by rw [h2]; simp), if_neg (by rw [h3]; simp), if_neg (of_decide_eq_false h4)]
theorem take_run (p : UInt8 → Bool) : (l.take (k + ((l.drop k).takeWhile p).length)).drop k = (l.drop k).takeWhile p := by
  rw [List.drop_take, Nat.add_sub_cancel_left]
  exact (List.prefix_iff_eq_take.1 (List.takeWhile_prefix p)).symm
theorem run_step (p : UInt8 → Bool) {j : Nat} (hj : j < l.length) (hp : p (l.getD j 0) = true) : j + ((l.drop j).takeWhile p).length = j + 1 + ((l.drop (j + 1)).takeWhile p).length := by
  have h0 : l[j]? = some (l.getD j 0) := getD_some hj 0
  rw [drop_get h0, List.takeWhile_cons, if_pos hp, List.length_cons]
  omega
theorem run_end (p : UInt8 → Bool) {j : Nat} (h : ¬ j < l.length ∨ p (l.getD j 0) = false) : ((l.drop j).takeWhile p).length = 0 := by
  by_cases hj : j < l.length
  · have h0 : l[j]? = some (l.getD j 0) := getD_some hj 0
    rw [drop_get h0, List.takeWhile_cons, if_neg (by rw [h.resolve_left (fun x => x hj)]; simp)]
    rfl
  · rw [List.drop_eq_nil_of_le (by omega)]; rfl
theorem run_le (p : UInt8 → Bool) (hk : k ≤ l.length) : k + ((l.drop k).takeWhile p).length ≤ l.length := by
  have := (List.takeWhile_prefix p (l := l.drop k)).length_le
  rw [List.length_drop] at this
  omega
theorem run_get (p : UInt8 → Bool) {m : Nat} (hm : m < ((l.drop k).takeWhile p).length) : ((l.drop k).takeWhile p)[m]? = some (l.getD (k + m) 0) ∧ p (l.getD (k + m) 0) = true := by
  obtain ⟨t, ht⟩ := List.takeWhile_prefix p (l := l.drop k)
  have h1 : ((l.drop k).takeWhile p)[m]? = some (((l.drop k).takeWhile p)[m]) := List.getElem?_eq_getElem hm
  have h2 : (l.drop k)[m]? = ((l.drop k).takeWhile p)[m]? := by
    conv => lhs; rw [← ht]
    rw [List.getElem?_append_left hm]
  rw [List.getElem?_drop] at h2
  have h3 : l.getD (k + m) 0 = ((l.drop k).takeWhile p)[m] := by rw [List.getD_eq_getElem?_getD, h2, h1]; rfl
  refine ⟨by rw [h1, h3], ?_⟩
  rw [h3]
  exact List.all_eq_true.1 List.all_takeWhile _ (List.getElem_mem hm)
end
theorem dv_digit {b : UInt8} (h : isDigit b = true) : dv b = (b.toNat : Int) - 48 := by
  have h : digitB (b.toNat : Int) = true := h
  simp [digitB] at h
  simp [dv, IntKind.wrap, IntKind.signed, IntKind.bits]
  omega
/-- A token that is being made. -/
def tkCells (kind : Int) (text : List UInt8) (v : Int) (k : Nat) : List CV := [.v (.int .i64 kind), .v (.str text), .v (.int .i64 v), .v (.int .i64 (k : Nat))]
set_option maxHeartbeats 4000000 in
theorem c_scan7 (l : List UInt8) (hl : l.length ≤ 9000000000000000000) : Ret Tryz.prog Ev 9 [.str l] H (scanTV (scan l)) := by
  refine go noStop (stopAt 9) Tryz.func9 rfl (by kernel_rfl) rfl ?_
  conv => whnf
  constructor <;> intro h0
  · have h0' : l.length > 4000 := by have := of_decide_eq_true h0; omega
    conv => whnf
    refine ⟨?_, rfl⟩
    simp only [scan, if_pos h0']
    rfl
  · have h0' : ¬ l.length > 4000 := by have := of_decide_eq_false h0; omega
    conv => whnf
    refine goLoop noStop (stopAt 9) (fun p : Nat × Nat × List Tk => .of [(0, .t (.str l)), (5, .arr 5), (6, .t (.int .i64 p.2.1))] [] [(5, some ⟨4, false, p.2.2.map Tk.tv⟩)] H)
      (fun p => p.2.1 ≤ l.length ∧ l.length - p.2.1 < p.1 ∧ p.2.2.length ≤ p.2.1 ∧ scan l = scanG l p.1 p.2.1 p.2.2) (fun p => l.length - p.2.1) (l.length + 1, 0, []) ⟨by simp, by simp, by simp, by simp only [scan, if_neg h0']⟩
      (.of ⟨rfl, rfl, rfl, trivial⟩ trivial ⟨rfl, trivial⟩ (fun _ => .inr rfl)) ?_
    rintro ⟨f, k, acc⟩ ⟨hi, hf, hacc, he⟩
    dsimp only at hi hf hacc he
    obtain ⟨f, rfl⟩ : ∃ k, f = k + 1 := ⟨f - 1, by omega⟩
    conv => whnf
    constructor <;> intro h1
    · have hlt : k < l.length := by have h1 : decide ((k : Int) < (l.length : Int)) = true := h1; have := of_decide_eq_true h1; omega
      have hstep : IntKind.i64.wrap ((k : Int) + 1) = ((k + 1 : Nat) : Int) := by rw [wrap_i64 (by omega) (by omega)]; simp
      conv => whnf
      refine goSeqTo noStop (stopAt 16) noStop (fun b : Int × Int × Nat => .of [(0, .t (.str l)), (5, .arr 5), (6, .t (.int .i64 (b.2.2 : Nat))), (7, .t (.int .i64 (k : Nat))), (8, .lp 8 0)] [(8, some (.cells (tkCells b.1 [] b.2.1 k)))] [(5, some ⟨4, false, acc.map Tk.tv⟩)] H)
        (fun b => k < b.2.2 ∧ b.2.2 ≤ l.length ∧ first (l.drop k) = (b.1, (l.take b.2.2).drop k, b.2.1) ∧ ¬ b.1 = 0 ∧ b.2.1 ≤ 1099511627776 ∧ blank (l.getD k 0) = false) ?_ ?_
      · conv => whnf
        refine ⟨Int.natCast_nonneg k, Int.ofNat_lt.2 hlt, ?_⟩
        conv => whnf
        have next : blank (l.getD k 0) = true → scan l = scanG l f (k + 1) acc := fun hb => by rw [he, scanG, if_neg (by omega), if_pos hb]
        constructor <;> intro h2
        · have e2 : (((l.getD k 0).toNat : Int) == 32) = false := h2
          conv => whnf
          refine ⟨Int.natCast_nonneg k, Int.ofNat_lt.2 hlt, ?_⟩
          conv => whnf
          constructor <;> intro h3
          · have e3 : (((l.getD k 0).toNat : Int) == 10) = true := h3
            have hb : blank (l.getD k 0) = true := by rw [blank, e2, e3]; rfl
            conv => whnf
            refine ⟨(f, k + 1, acc), ⟨by dsimp only; omega, by dsimp only; omega, by dsimp only; omega, next hb⟩, by dsimp only; omega, .of ⟨rfl, rfl, ?_, trivial⟩ trivial ⟨rfl, trivial⟩ (fun _ => .inr rfl)⟩
            exact congrArg (fun x => SV.t (.int .i64 x)) hstep
          · have e3 : (((l.getD k 0).toNat : Int) == 10) = false := h3
            have hb : blank (l.getD k 0) = false := by rw [blank, e2, e3]; rfl
            conv => whnf
            refine ⟨Int.natCast_nonneg k, Int.ofNat_lt.2 hlt, ?_⟩
            conv => whnf
            refine (c_word7 _).use ?_
            conv => whnf
            constructor <;> intro hw
            · have hw : isLetter (l.getD k 0) = true := hw
              have hfw := first_word hw
              have hpk : isPart (l.getD k 0) = true := by
                have hw : letterB ((l.getD k 0).toNat : Int) = true := hw
                show partB ((l.getD k 0).toNat : Int) = true
                rw [partB, hw]; rfl
              have hE := run_step isPart hlt hpk
              conv => whnf
              refine goLoop noStop noStop (fun j : Nat => .of [(0, .t (.str l)), (5, .arr 5), (6, .t (.int .i64 (j : Nat))), (7, .t (.int .i64 (k : Nat))), (8, .lp 8 0)] [(8, some (.cells (tkCells 1 [] 0 k)))] [(5, some ⟨4, false, acc.map Tk.tv⟩)] H)
                (fun j => k < j ∧ j ≤ l.length ∧ j + ((l.drop j).takeWhile isPart).length = k + ((l.drop k).takeWhile isPart).length) (fun j => l.length - j) (k + 1) ⟨by omega, by omega, hE.symm⟩ (.of ⟨rfl, rfl, congrArg (fun x => SV.t (.int .i64 x)) hstep, rfl, rfl, trivial⟩ ⟨rfl, trivial⟩ ⟨rfl, trivial⟩ (fun _ => .inr rfl)) ?_
              rintro j ⟨j1, j2, j3⟩
              conv => whnf
              have more : isPart (l.getD j 0) = true → j < l.length → j + 1 + ((l.drop (j + 1)).takeWhile isPart).length = k + ((l.drop k).takeWhile isPart).length := fun hp hj => (run_step isPart hj hp).symm.trans j3
              have done : (¬ j < l.length ∨ isPart (l.getD j 0) = false) → first (l.drop k) = (1, (l.take j).drop k, 0) := fun h => by
                have h1 := run_end isPart h
                rw [hfw]
                have h2 : j = k + ((l.drop k).takeWhile isPart).length := by omega
                conv => rhs; rw [h2]
                rw [take_run]
              have hjs : j < l.length → IntKind.i64.wrap ((j : Int) + 1) = ((j + 1 : Nat) : Int) := fun h => by rw [wrap_i64 (by omega) (by omega)]; simp
              constructor <;> intro t1
              · have jlt : j < l.length := by have t1 : decide ((j : Int) < (l.length : Int)) = true := t1; have := of_decide_eq_true t1; omega
                conv => whnf
                refine ⟨Int.natCast_nonneg j, Int.ofNat_lt.2 jlt, ?_⟩
                conv => whnf
                refine (c_word7 _).use ?_
                conv => whnf
                constructor <;> intro t2
                · have t2 : letterB ((l.getD j 0).toNat : Int) = false := t2
                  conv => whnf
                  refine ⟨Int.natCast_nonneg j, Int.ofNat_lt.2 jlt, ?_⟩
                  conv => whnf
                  refine (c_digit7 _).use ?_
                  conv => whnf
                  constructor <;> intro t3
                  · have t3 : digitB ((l.getD j 0).toNat : Int) = false := t3
                    conv => whnf
                    refine ⟨Int.natCast_nonneg j, Int.ofNat_lt.2 jlt, ?_⟩
                    conv => whnf
                    constructor <;> intro t4
                    · have hp : isPart (l.getD j 0) = true := by
                        have t4 : ((l.getD j 0).toNat : Int) == 95 := t4
                        show partB _ = true
                        rw [partB, t4]; simp
                      conv => whnf
                      refine ⟨j + 1, ⟨by omega, by omega, more hp jlt⟩, by omega, .of ⟨rfl, rfl, ?_, rfl, rfl, trivial⟩ ⟨rfl, trivial⟩ ⟨rfl, trivial⟩ (fun _ => .inr rfl)⟩
                      exact congrArg (fun x => SV.t (.int .i64 x)) (hjs jlt)
                    · have hp : isPart (l.getD j 0) = false := by
                        have t4 : (((l.getD j 0).toNat : Int) == 95) = false := t4
                        show partB _ = false
                        rw [partB, t2, t3, t4]; rfl
                      conv => whnf
                      exact ⟨(1, 0, j), ⟨j1, j2, done (.inr hp), (by decide : ¬ (1 : Int) = 0), (by decide : (0 : Int) ≤ 1099511627776), hb⟩, .of ⟨rfl, rfl, rfl, rfl, rfl, trivial⟩ ⟨rfl, trivial⟩ ⟨rfl, trivial⟩ (fun _ => .inr rfl)⟩
                  · have t3 : digitB ((l.getD j 0).toNat : Int) = true := t3
                    have hp : isPart (l.getD j 0) = true := by
                      show partB _ = true
                      rw [partB, t3]; simp
                    conv => whnf
                    refine ⟨fun _ => ?_, fun h => absurd h (by decide)⟩
                    conv => whnf
                    refine ⟨j + 1, ⟨by omega, by omega, more hp jlt⟩, by omega, .of ⟨rfl, rfl, ?_, rfl, rfl, trivial⟩ ⟨rfl, trivial⟩ ⟨rfl, trivial⟩ (fun _ => .inr rfl)⟩
                    exact congrArg (fun x => SV.t (.int .i64 x)) (hjs jlt)
                · have t2 : letterB ((l.getD j 0).toNat : Int) = true := t2
                  have hp : isPart (l.getD j 0) = true := by
                    show partB _ = true
                    rw [partB, t2]; simp
                  repeat ((conv => whnf); constructor <;> intro hh <;> cases hh)
                  conv => whnf
                  refine ⟨j + 1, ⟨by omega, by omega, more hp jlt⟩, by omega, .of ⟨rfl, rfl, ?_, rfl, rfl, trivial⟩ ⟨rfl, trivial⟩ ⟨rfl, trivial⟩ (fun _ => .inr rfl)⟩
                  exact congrArg (fun x => SV.t (.int .i64 x)) (hjs jlt)
              · have jge : ¬ j < l.length := by have t1 : decide ((j : Int) < (l.length : Int)) = !true := t1; have := of_decide_eq_false t1; omega
                repeat ((conv => whnf); constructor <;> intro hh <;> cases hh)
                conv => whnf
                exact ⟨(1, 0, j), ⟨j1, j2, done (.inl jge), (by decide : ¬ (1 : Int) = 0), (by decide : (0 : Int) ≤ 1099511627776), hb⟩, .of ⟨rfl, rfl, rfl, rfl, rfl, trivial⟩ ⟨rfl, trivial⟩ ⟨rfl, trivial⟩ (fun _ => .inr rfl)⟩
            · have hw : isLetter (l.getD k 0) = false := hw
              conv => whnf
              refine ⟨Int.natCast_nonneg k, Int.ofNat_lt.2 hlt, ?_⟩
              conv => whnf
              refine (c_digit7 _).use ?_
              conv => whnf
              constructor <;> intro hd
              · have hd : isDigit (l.getD k 0) = true := hd
                have hfd := first_digit hw hd
                have hE := run_step isDigit hlt hd
                have hEl := run_le (l := l) isDigit hi
                conv => whnf
                refine goSeqTo noStop noStop noStop (fun _ : Unit => .of [(0, .t (.str l)), (5, .arr 5), (6, .t (.int .i64 ((k + ((l.drop k).takeWhile isDigit).length : Nat) : Int))), (7, .t (.int .i64 (k : Nat))), (8, .lp 8 0)] [(8, some (.cells (tkCells 2 [] 0 k)))] [(5, some ⟨4, false, acc.map Tk.tv⟩)] H) (fun _ => True) ?_ ?_
                · conv => whnf
                  refine goLoop noStop noStop (fun j : Nat => .of [(0, .t (.str l)), (5, .arr 5), (6, .t (.int .i64 (j : Nat))), (7, .t (.int .i64 (k : Nat))), (8, .lp 8 0)] [(8, some (.cells (tkCells 2 [] 0 k)))] [(5, some ⟨4, false, acc.map Tk.tv⟩)] H)
                    (fun j => k < j ∧ j ≤ l.length ∧ j + ((l.drop j).takeWhile isDigit).length = k + ((l.drop k).takeWhile isDigit).length) (fun j => l.length - j) (k + 1) ⟨by omega, by omega, hE.symm⟩ (.of ⟨rfl, rfl, congrArg (fun x => SV.t (.int .i64 x)) hstep, rfl, rfl, trivial⟩ ⟨rfl, trivial⟩ ⟨rfl, trivial⟩ (fun _ => .inr rfl)) ?_
                  rintro j ⟨j1, j2, j3⟩
                  conv => whnf
                  have more : isDigit (l.getD j 0) = true → j < l.length → j + 1 + ((l.drop (j + 1)).takeWhile isDigit).length = k + ((l.drop k).takeWhile isDigit).length := fun hp hj => (run_step isDigit hj hp).symm.trans j3
                  have done : (¬ j < l.length ∨ isDigit (l.getD j 0) = false) → j = k + ((l.drop k).takeWhile isDigit).length := fun h => by
                    have h1 := run_end isDigit h
                    omega
                  have hjs : j < l.length → IntKind.i64.wrap ((j : Int) + 1) = ((j + 1 : Nat) : Int) := fun h => by rw [wrap_i64 (by omega) (by omega)]; simp
                  constructor <;> intro t1
                  · have jlt : j < l.length := by have t1 : decide ((j : Int) < (l.length : Int)) = true := t1; have := of_decide_eq_true t1; omega
                    conv => whnf
                    refine ⟨Int.natCast_nonneg j, Int.ofNat_lt.2 jlt, ?_⟩
                    conv => whnf
                    refine (c_digit7 _).use ?_
                    conv => whnf
                    constructor <;> intro t2
                    · have t2 : isDigit (l.getD j 0) = true := t2
                      conv => whnf
                      refine ⟨j + 1, ⟨by omega, by omega, more t2 jlt⟩, by omega, .of ⟨rfl, rfl, ?_, rfl, rfl, trivial⟩ ⟨rfl, trivial⟩ ⟨rfl, trivial⟩ (fun _ => .inr rfl)⟩
                      exact congrArg (fun x => SV.t (.int .i64 x)) (hjs jlt)
                    · have t2 : isDigit (l.getD j 0) = false := t2
                      have hj := done (.inr t2)
                      conv => whnf
                      refine ⟨(), trivial, .of ⟨rfl, rfl, ?_, rfl, rfl, trivial⟩ ⟨rfl, trivial⟩ ⟨rfl, trivial⟩ (fun _ => .inr rfl)⟩
                      exact congrArg (fun x : Nat => SV.t (.int .i64 (x : Int))) hj
                  · have jge : ¬ j < l.length := by have t1 : decide ((j : Int) < (l.length : Int)) = !true := t1; have := of_decide_eq_false t1; omega
                    have hj := done (.inl jge)
                    repeat ((conv => whnf); constructor <;> intro hh <;> cases hh)
                    conv => whnf
                    refine ⟨(), trivial, .of ⟨rfl, rfl, ?_, rfl, rfl, trivial⟩ ⟨rfl, trivial⟩ ⟨rfl, trivial⟩ (fun _ => .inr rfl)⟩
                    exact congrArg (fun x : Nat => SV.t (.int .i64 (x : Int))) hj
                · rintro _ _
                  conv => whnf
                  refine goLoop noStop noStop (fun b : Nat × Int => .of [(0, .t (.str l)), (5, .arr 5), (6, .t (.int .i64 ((k + ((l.drop k).takeWhile isDigit).length : Nat) : Int))), (7, .t (.int .i64 (k : Nat))), (8, .lp 8 0), (9, .t (.int .i64 ((k + b.1 : Nat) : Int)))] [(8, some (.cells (tkCells 2 [] b.2 k)))] [(5, some ⟨4, false, acc.map Tk.tv⟩)] H)
                    (fun b => b.1 ≤ ((l.drop k).takeWhile isDigit).length ∧ 0 ≤ b.2 ∧ b.2 ≤ 1099511627776 ∧ val ((l.drop k).takeWhile isDigit) 0 = val (((l.drop k).takeWhile isDigit).drop b.1) b.2) (fun b => ((l.drop k).takeWhile isDigit).length - b.1) (0, 0) ⟨by simp, by simp, by simp, by simp⟩
                    (.of ⟨rfl, rfl, rfl, rfl, rfl, rfl, trivial⟩ ⟨rfl, trivial⟩ ⟨rfl, trivial⟩ (fun _ => .inr rfl)) ?_
                  rintro ⟨m, n⟩ ⟨m1, m2, m3, m4⟩
                  dsimp only at m1 m2 m3 m4
                  conv => whnf
                  constructor <;> intro t1
                  · have mlt : m < ((l.drop k).takeWhile isDigit).length := by have t1 : decide (((k + m : Nat) : Int) < ((k + ((l.drop k).takeWhile isDigit).length : Nat) : Int)) = true := t1; have := of_decide_eq_true t1; omega
                    obtain ⟨u1, u2⟩ := run_get isDigit mlt
                    have u3 := drop_get u1
                    have u4 := dv_digit u2
                    have u5 := dv_range (l.getD (k + m) 0)
                    have kml : k + m < l.length := by omega
                    conv => whnf
                    refine goDraw noStop [0, 1, 2, 3, 4, 5, 6, 7, 8, 9] (.first 0 false (.first 3 false (.first 4 false (.first 5 false (.first 6 false (.first 1 true (.first 2 false (.first 7 false (.first 8 false (.first 9 false (.alt 10 .fin .noalt))))))))))) (by kernel_rfl) (by kernel_rfl) ?_
                    conv => whnf
                    refine ⟨Int.natCast_nonneg _, Int.ofNat_lt.2 kml, ?_⟩
                    conv => whnf
                    refine ⟨?_, trivial⟩
                    conv => whnf
                    have b8 : ((l.getD (k + m) 0).toNat : Int) ≤ 255 := by have := (l.getD (k + m) 0).toNat_lt; omega
                    have w1 : IntKind.i64.wrap (10 * n) = 10 * n := wrap_i64 (by omega) (by omega)
                    have w2 : IntKind.i64.wrap ((l.getD (k + m) 0).toNat : Int) = ((l.getD (k + m) 0).toNat : Int) := wrap_i64 (by omega) (by omega)
                    have w3 : IntKind.i64.wrap (IntKind.i64.wrap (IntKind.i64.wrap (10 * n) + IntKind.i64.wrap ((l.getD (k + m) 0).toNat : Int)) - 48) = 10 * n + dv (l.getD (k + m) 0) := by
                      rw [w1, w2, wrap_i64 (n := 10 * n + ((l.getD (k + m) 0).toNat : Int)) (by omega) (by omega), wrap_i64 (by omega) (by omega), u4]; omega
                    constructor <;> intro t2
                    · have t2 : 10 * n + dv (l.getD (k + m) 0) > 1099511627776 := by rw [← w3]; exact of_decide_eq_true t2
                      have hv : val ((l.drop k).takeWhile isDigit) 0 = 10 * n + dv (l.getD (k + m) 0) := by rw [m4, u3, val, if_pos t2]
                      conv => whnf
                      refine ⟨?_, rfl⟩
                      rw [he, scanG, if_neg (by omega), if_neg (by rw [hb]; simp), if_neg (by rw [hfd]; exact (by decide : ¬ ((2 : Int) == 0) = true)), if_pos (by rw [hfd, hv]; exact t2)]
                      rfl
                    · have t2 : ¬ 10 * n + dv (l.getD (k + m) 0) > 1099511627776 := by rw [← w3]; exact of_decide_eq_false t2
                      conv => whnf
                      refine ⟨(m + 1, 10 * n + dv (l.getD (k + m) 0)), ⟨by dsimp only; omega, by dsimp only; omega, by dsimp only; omega, ?_⟩, by dsimp only; omega, .of ⟨rfl, rfl, rfl, rfl, rfl, ?_, trivial⟩ ⟨?_, trivial⟩ ⟨rfl, trivial⟩ (fun _ => .inr rfl)⟩
                      · dsimp only; rw [m4, u3, val, if_neg t2]
                      · show SV.t (.int .i64 (IntKind.i64.wrap (((k + m : Nat) : Int) + 1))) = SV.t (.int .i64 ((k + (m + 1) : Nat) : Int))
                        rw [wrap_i64 (by omega) (by omega)]; rfl
                      · exact congrArg (fun x => some (VObj.cells (tkCells 2 [] x k))) w3
                  · have mge : ((l.drop k).takeWhile isDigit).length ≤ m := by have t1 : decide (((k + m : Nat) : Int) < ((k + ((l.drop k).takeWhile isDigit).length : Nat) : Int)) = false := t1; have := of_decide_eq_false t1; omega
                    rw [List.drop_eq_nil_of_le mge] at m4
                    have m4 : val ((l.drop k).takeWhile isDigit) 0 = n := m4
                    have hpos : 0 < ((l.drop k).takeWhile isDigit).length := by omega
                    conv => whnf
                    refine ⟨(2, n, k + ((l.drop k).takeWhile isDigit).length), ⟨by dsimp only; omega, hEl, ?_, (by decide : ¬ (2 : Int) = 0), m3, hb⟩, .of ⟨rfl, rfl, rfl, rfl, rfl, trivial⟩ ⟨rfl, trivial⟩ ⟨rfl, trivial⟩ (fun _ => .inr rfl)⟩
                    dsimp only
                    rw [hfd, take_run, m4]
              · have hd : isDigit (l.getD k 0) = false := hd
                conv => whnf
                refine goDraw noStop [0, 1, 2, 3, 4, 5, 6, 7, 8, 9, 10, 12, 13] (.first 0 false (.first 1 false (.first 2 false (.first 3 false (.first 4 false (.first 5 false (.first 6 false (.first 7 false (.first 8 false (.first 9 false (.first 10 false (.alt 11 (.first 12 false (.first 13 false .fin)) .noalt)))))))))))) (by kernel_rfl) (by kernel_rfl) ?_
                rw [hstep]
                conv => whnf
                constructor <;> intro t1
                · have klt : k + 1 < l.length := by have t1 : decide (((k + 1 : Nat) : Int) < (l.length : Int)) = true := t1; have := of_decide_eq_true t1; omega
                  conv => whnf
                  refine ⟨Int.natCast_nonneg k, Int.ofNat_lt.2 hlt, ?_⟩
                  conv => whnf
                  refine ⟨Int.natCast_nonneg _, Int.ofNat_lt.2 klt, ?_⟩
                  conv => whnf
                  refine ⟨?_, trivial⟩
                  conv => whnf
                  refine (c_pair7 _ _).use ?_
                  conv => whnf
                  constructor <;> intro t3
                  · have two : (decide ((l.drop k).length > 1) && Lib.contains twoText (32 :: ((l.drop k).take 2 ++ [32]))) = true := (twoB klt).trans t3
                    have hf2 := first_two hw hd two
                    conv => whnf
                    refine ⟨(3, 0, k + 2), ⟨by dsimp only; omega, by dsimp only; omega, ?_, (by decide : ¬ (3 : Int) = 0), (by decide : (0 : Int) ≤ 1099511627776), hb⟩, .of ⟨rfl, rfl, ?_, rfl, rfl, trivial⟩ ⟨rfl, trivial⟩ ⟨rfl, trivial⟩ (fun _ => .inr rfl)⟩
                    · dsimp only
                      rw [hf2, List.drop_take, Nat.add_sub_cancel_left]
                    · show SV.t (.int .i64 (IntKind.i64.wrap (((k + 1 : Nat) : Int) + 1))) = SV.t (.int .i64 ((k + 2 : Nat) : Int))
                      rw [wrap_i64 (by omega) (by omega)]; rfl
                  · have two : (decide ((l.drop k).length > 1) && Lib.contains twoText (32 :: ((l.drop k).take 2 ++ [32]))) = false := (twoB klt).trans t3
                    conv => whnf
                    refine ⟨Int.natCast_nonneg k, Int.ofNat_lt.2 hlt, ?_⟩
                    conv => whnf
                    refine (c_one7 _).use ?_
                    conv => whnf
                    constructor <;> intro t5
                    · have t5 : oneI.contains ((l.getD k 0).toNat : Int) = false := by
                        have t5 : (!oneI.contains ((l.getD k 0).toNat : Int)) = true := t5
                        simpa using t5
                      have hf0 := first_none hw hd two t5
                      conv => whnf
                      refine ⟨?_, rfl⟩
                      rw [he, scanG, if_neg (by omega), if_neg (by rw [hb]; simp), if_pos (by rw [hf0]; rfl)]
                      rfl
                    · have t5 : oneI.contains ((l.getD k 0).toNat : Int) = true := by
                        have t5 : (!oneI.contains ((l.getD k 0).toNat : Int)) = false := t5
                        simpa using t5
                      have hf1 := first_one hw hd two t5
                      conv => whnf
                      refine ⟨(3, 0, k + 1), ⟨by dsimp only; omega, by dsimp only; omega, ?_, (by decide : ¬ (3 : Int) = 0), (by decide : (0 : Int) ≤ 1099511627776), hb⟩, .of ⟨rfl, rfl, rfl, rfl, rfl, trivial⟩ ⟨rfl, trivial⟩ ⟨rfl, trivial⟩ (fun _ => .inr rfl)⟩
                      dsimp only
                      rw [hf1, List.drop_take, Nat.add_sub_cancel_left]
                · have kge : ¬ k + 1 < l.length := by have t1 : decide (((k + 1 : Nat) : Int) < (l.length : Int)) = !true := t1; have := of_decide_eq_false t1; omega
                  have two := twoN kge
                  refine ⟨?_, trivial⟩
                  repeat ((conv => whnf); constructor <;> intro hh <;> cases hh)
                  conv => whnf
                  refine ⟨Int.natCast_nonneg k, Int.ofNat_lt.2 hlt, ?_⟩
                  conv => whnf
                  refine (c_one7 _).use ?_
                  conv => whnf
                  constructor <;> intro t5
                  · have t5 : oneI.contains ((l.getD k 0).toNat : Int) = false := by
                      have t5 : (!oneI.contains ((l.getD k 0).toNat : Int)) = true := t5
                      simpa using t5
                    have hf0 := first_none hw hd two t5
                    conv => whnf
                    refine ⟨?_, rfl⟩
                    rw [he, scanG, if_neg (by omega), if_neg (by rw [hb]; simp), if_pos (by rw [hf0]; rfl)]
                    rfl
                  · have t5 : oneI.contains ((l.getD k 0).toNat : Int) = true := by
                      have t5 : (!oneI.contains ((l.getD k 0).toNat : Int)) = false := t5
                      simpa using t5
                    have hf1 := first_one hw hd two t5
                    conv => whnf
                    refine ⟨(3, 0, k + 1), ⟨by dsimp only; omega, by dsimp only; omega, ?_, (by decide : ¬ (3 : Int) = 0), (by decide : (0 : Int) ≤ 1099511627776), hb⟩, .of ⟨rfl, rfl, rfl, rfl, rfl, trivial⟩ ⟨rfl, trivial⟩ ⟨rfl, trivial⟩ (fun _ => .inr rfl)⟩
                    dsimp only
                    rw [hf1, List.drop_take, Nat.add_sub_cancel_left]
        · have e2 : (((l.getD k 0).toNat : Int) == 32) = true := h2
          have hb : blank (l.getD k 0) = true := by rw [blank, e2]; rfl
          conv => whnf
          refine ⟨fun _ => ?_, fun h => absurd h (by decide)⟩
          conv => whnf
          refine ⟨(f, k + 1, acc), ⟨by dsimp only; omega, by dsimp only; omega, by dsimp only; omega, next hb⟩, by dsimp only; omega, .of ⟨rfl, rfl, ?_, trivial⟩ trivial ⟨rfl, trivial⟩ (fun _ => .inr rfl)⟩
          exact congrArg (fun x => SV.t (.int .i64 x)) hstep
      · rintro ⟨kind, v, j⟩ ⟨g1, g2, g3, g4, g5, g6⟩
        dsimp only at g1 g2 g3 g4 g5
        conv => whnf
        refine ⟨Int.natCast_nonneg k, by dsimp only; omega, by dsimp only; omega, ?_⟩
        conv => whnf
        refine ⟨?_, ?_, ?_⟩
        · show ((acc.map Tk.tv).length + 1) * 40 ≤ 140737488355328
          rw [List.length_map]; omega
        · show (acc.map Tk.tv).length + 1 ≤ 9223372036854775807
          rw [List.length_map]; omega
        conv => whnf
        have hlen : ((l.take j).drop k).length = j - k := by rw [List.length_drop, List.length_take]; omega
        refine ⟨(f, j, acc ++ [⟨kind, (l.take j).drop k, v, k⟩]), ⟨by dsimp only; omega, by dsimp only; omega, by dsimp only; rw [List.length_append, List.length_singleton]; omega, ?_⟩, by dsimp only; omega,
          .of ⟨rfl, rfl, rfl, trivial⟩ trivial ⟨?_, trivial⟩ (fun _ => .inr rfl)⟩
        · dsimp only
          rw [he, scanG, if_neg (by omega), if_neg (by rw [g6]; simp), if_neg (by rw [g3]; simpa using g4), if_neg (by rw [g3]; exact Int.not_lt.2 g5), g3]
          dsimp only
          rw [hlen, show k + (j - k) = j by omega]
        · show some (AObj.mk 4 false (acc.map Tk.tv ++ [TV.agg [.int .i64 kind, .str ((l.take ((j : Int)).toNat).drop ((k : Int)).toNat), .int .i64 v, .int .i64 k]])) = _
          rw [Int.toNat_natCast, Int.toNat_natCast, List.map_append]
          rfl
    · have hge : l.length ≤ k := by have h1 : decide ((k : Int) < (l.length : Int)) = false := h1; have := of_decide_eq_false h1; omega
      conv => whnf
      refine ⟨?_, rfl⟩
      rw [he, scanG, if_pos hge]
      rfl
end Go.T
set_option linter.unusedVariables false
set_option linter.unusedSimpArgs false
namespace Go.T
open Go.Proofs Go.RowKit
variable {Ev : Env} {H : Nat → Option RObj}
set_option maxHeartbeats 4000000 in
theorem c_parseCut (hE : ∀ w, Ev.E w → HasMax w) (hn : ∀ i, H i = none) (l : List UInt8) (n : Int) (hn0 : 0 ≤ n) (hn1 : n ≤ 65535) : Ret Tryz.prog Ev 4 [.str l, .int .u16 n] H (.t (.bool true)) := by
  refine go noStop (stopAt 9) Tryz.func4 rfl (by kernel_rfl) rfl ?_
  conv => whnf
  refine (c_awake hE hn).use ?_
  conv => whnf
  refine ⟨fun h => absurd h (by decide), fun _ => ?_⟩
  conv => whnf
  constructor <;> intro h1
  · conv => whnf
    exact ⟨rfl, rfl⟩
  · have h1' : l.length ≤ 1000 := by have := of_decide_eq_false h1; omega
    conv => whnf
    refine (c_scan7 l (by omega)).use ?_
    conv => whnf
    refine (c_parse hE hn l (by omega)).use ?_
    conv => whnf
    constructor <;> intro he
    · have he' : ¬ (scan l).2.2 = 0 := by simpa using he
      rw [parse_scan he']
      conv => whnf
      refine ⟨?_, rfl⟩
      show TOut.ret (RV.t (TV.bool ((scan l).2.2 == (scan l).2.2))) = _
      rw [beq_self_eq_true]
    · have he' : (scan l).2.2 = 0 := by simpa using he
      conv => whnf
      refine goSeqTo noStop noStop (stopAt 14) (fun _ : Unit => .of [(0, .t (.str l)), (1, .t (.int .u16 n)), (5, .t (.sl 4 ((scan l).1.map Tk.tv))), (9, .t (.int .i64 (cutAt l))), (10, .t (.int .i64 (parseM l).2.2))] [] [] H) (fun _ => True) ?_ ?_
      · conv => whnf
        constructor <;> intro h2
        · have e : cutAt l = l.length := by
            have h2 : ((parseM l).2.2 != 2) = true := h2
            unfold cutAt; rw [if_neg (by simpa using h2)]
          conv => whnf
          exact ⟨(), trivial, .of ⟨rfl, rfl, rfl, congrArg (fun x => SV.t (.int .i64 x)) e.symm, rfl, trivial⟩ trivial trivial (fun _ => .inr rfl)⟩
        · have e : cutAt l = (parseM l).2.1 := by
            have h2 : ((parseM l).2.2 != 2) = false := h2
            unfold cutAt; rw [if_pos (by simpa using h2)]
          conv => whnf
          exact ⟨(), trivial, .of ⟨rfl, rfl, rfl, congrArg (fun x => SV.t (.int .i64 x)) e.symm, rfl, trivial⟩ trivial trivial (fun _ => .inr rfl)⟩
      · rintro _ _
        obtain ⟨a0, a1⟩ := cutAt_at l
        conv => whnf
        refine ⟨fun _ => ?_, fun h => absurd ((decide_eq_false (Int.not_lt.2 a0)).symm.trans h) (by decide)⟩
        conv => whnf
        refine ⟨fun h => absurd ((decide_eq_false (Int.not_lt.2 a1)).symm.trans h) (by decide), fun _ => ?_⟩
        conv => whnf
        refine ⟨Int.le_refl _, a0, a1, ?_⟩
        conv => whnf
        have hX : (l.take (cutAt l).toNat).drop (0 : Int).toNat = l.take (cutAt l).toNat := rfl
        refine (c_parse hE hn (l.take (cutAt l).toNat) (by rw [List.length_take]; omega)).use ?_
        conv => whnf
        refine goSeqTo noStop noStop noStop (fun _ : Unit => .of [(0, .t (.str l)), (1, .t (.int .u16 n)), (5, .t (.sl 4 ((scan l).1.map Tk.tv))), (9, .t (.int .i64 (cutAt l))), (10, .t (.int .i64 (parseM l).2.2))] [] [] H) (fun _ => True) ?_ ?_
        · have fin : ((parseM l).2.2 == 2) = true → ((parseM (l.take (cutAt l).toNat)).2.2 == 2) = true → ((parseM (l.take (cutAt l).toNat)).2.1 != cutAt l) = false := fun h2 h3 => by
            have h2 : (parseM l).2.2 = 2 := by simpa using h2
            have h3 : (parseM (l.take (cutAt l).toNat)).2.2 = 2 := by simpa using h3
            have e : cutAt l = (parseM l).2.1 := by unfold cutAt; rw [if_pos h2]
            rw [e] at h3 ⊢
            rw [cut_A he' h2 h3]
            simp
          conv => whnf
          constructor <;> intro h2
          · conv => whnf
            constructor <;> intro h3
            · have h4 := fin h2 h3
              conv => whnf
              refine ⟨fun h => absurd (h4.symm.trans h) (by decide), fun _ => ?_⟩
              conv => whnf
              exact ⟨(), trivial, .of ⟨rfl, rfl, rfl, rfl, rfl, trivial⟩ trivial trivial (fun _ => .inr rfl)⟩
            · repeat ((conv => whnf); constructor <;> intro hh <;> cases hh)
              conv => whnf
              exact ⟨(), trivial, .of ⟨rfl, rfl, rfl, rfl, rfl, trivial⟩ trivial trivial (fun _ => .inr rfl)⟩
          · repeat ((conv => whnf); constructor <;> intro hh <;> cases hh)
            conv => whnf
            exact ⟨(), trivial, .of ⟨rfl, rfl, rfl, rfl, rfl, trivial⟩ trivial trivial (fun _ => .inr rfl)⟩
        · rintro _ _
          have hlm : ((scan l).1.map Tk.tv).length = (scan l).1.length := List.length_map ..
          have hsl := (scan_toks he').1.len
          conv => whnf
          intro hm
          conv => whnf
          constructor <;> intro h5
          · have h5 : (scan l).1 = [] := by
              have h5 : ((((scan l).1.map Tk.tv).length : Int) == 0) = true := h5
              rw [hlm] at h5
              have : (scan l).1.length = 0 := by have := eq_of_beq h5; omega
              exact List.eq_nil_of_length_eq_zero this
            have h6 := cut_B he' h5
            have e : cutAt l = l.length := by unfold cutAt; rw [h6]; rfl
            rw [e, h6]
            conv => whnf
            refine ⟨fun _ => ?_, fun h => absurd (show ((2 : Int) == 2) = false from h) (by decide)⟩
            conv => whnf
            refine ⟨?_, rfl⟩
            show TOut.ret (RV.t (TV.bool (bif true then ((l.length : Int) == (l.length : Int)) else false))) = _
            rw [beq_self_eq_true]
            rfl
          · have h5 : 0 < (scan l).1.length := by
              have h5 : ((((scan l).1.map Tk.tv).length : Int) == 0) = false := h5
              rw [hlm] at h5
              rcases Nat.eq_zero_or_pos (scan l).1.length with e | e
              · rw [e] at h5; cases h5
              · exact e
            conv => whnf
            intro hm2
            conv => whnf
            obtain ⟨m, rfl⟩ : ∃ m : Nat, n = m := ⟨n.toNat, by omega⟩
            have hw : IntKind.i64.wrap (m : Int) = m := wrap_i64 (by omega) (by omega)
            have hix : (IntKind.i64.wrap (m : Int)).tmod (((scan l).1.map Tk.tv).length : Int) = ((m % (scan l).1.length : Nat) : Int) := by rw [hw, hlm]; rfl
            have hlt : m % (scan l).1.length < (scan l).1.length := Nat.mod_lt _ h5
            refine ⟨by rw [hlm]; omega, ?_⟩
            rw [hix]
            conv => whnf
            refine ⟨Int.natCast_nonneg _, by rw [hlm]; exact Int.ofNat_lt.2 hlt, fun y hy => ?_⟩
            obtain ⟨t, ht⟩ : ∃ t, (scan l).1[m % (scan l).1.length]? = some t := ⟨_, List.getElem?_eq_getElem hlt⟩
            obtain rfl := get_map2 hy ht
            obtain ⟨p0, p1⟩ := (scan_toks he').1.pos t (List.mem_of_getElem? ht)
            conv => whnf
            constructor <;> intro h7
            · conv => whnf
              exact ⟨rfl, rfl⟩
            · have h7 : t.pos < cutAt l := by
                have h7 : decide (t.pos ≥ cutAt l) = false := h7
                have := of_decide_eq_false h7; omega
              have hc := cut_C he' ht h7
              conv => whnf
              refine ⟨Int.le_refl _, p0, by omega, ?_⟩
              conv => whnf
              refine (c_parse hE hn (l.take t.pos.toNat) (by rw [List.length_take]; omega)).use ?_
              rw [hc]
              conv => whnf
              refine ⟨fun _ => ?_, fun h => absurd (show ((2 : Int) == 2) = false from h) (by decide)⟩
              conv => whnf
              refine ⟨?_, rfl⟩
              show TOut.ret (RV.t (TV.bool (bif true then (t.pos == t.pos) else false))) = _
              rw [beq_self_eq_true]
              rfl
theorem vvs_two (s : ByteArray) (k : IntKind) (n : Int) (g : Gh) (w : World) : VVs g w [.str s.data.toList, .int k n] [.string s, .int k n] := by
  refine ⟨rfl, fun i t u h1 h2 => ?_⟩
  match i, h1, h2 with
  | 0, h1, h2 => simp at h1 h2; subst h1; subst h2; exact .str s
  | 1, h1, h2 => simp at h1 h2; subst h1; subst h2; exact .int k n
  | i + 2, h1, h2 => simp at h1
theorem x_parseCut (s : ByteArray) (n : Int) (w : World) (hs : s.size ≤ maxLen) (h0 : 0 ≤ n) (h1 : n ≤ 65535) (hm : HasMax w) : Calls Tryz.prog 4 #[.string s, .int .u16 n] w fun e w' => e = .returned (.bool true) ∧ Below w.heap.size w w' :=
  Ret.run maxEnv (c_parseCut (fun _ h => h) (fun _ => rfl) _ n h0 h1) hm.pos hm (fun g => vvs_two s .u16 n g w)
end Go.T
