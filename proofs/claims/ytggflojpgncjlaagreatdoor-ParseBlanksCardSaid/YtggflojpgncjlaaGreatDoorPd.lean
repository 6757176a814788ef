/-
  May a constraint be, of whatever kind?
  Spans, variables.
  Sizes, copies, all variables, ends of blocks.
  May a model be?
  What Parse answers.
  Parse.
-/
import Derived.Test.YtggflojpgncjlaaGreatDoorPc
set_option linter.unusedVariables false
set_option linter.unusedSimpArgs false
set_option linter.unusedSectionVars false
set_option linter.unusedVariables false
set_option linter.unusedSimpArgs false
namespace Go.T
open Go.Proofs Go.RowKit
variable {Ev : Env} {H : Nat → Option RObj}
set_option maxHeartbeats 2000000 in
theorem c_right (c : ConD) (vars : Int) : Ret Tryz.prog Ev 46 [c.tv, .int .i64 vars] H (.t (.bool (rightM c vars))) := by
  refine go (at1 2) noStop Tryz.func46 rfl (by kernel_rfl) rfl ?_
  conv => whnf
  refine goDraw noStop [0, 1, 2, 3, 4, 5, 6, 7, 8, 9, 10, 11, 12, 13, 14, 15, 17, 18, 21, 22] (.first 0 false (.first 1 false (.first 2 false (.first 3 false (.first 4 false (.first 5 false (.first 6 false (.first 7 false (.first 8 false (.first 9 false (.first 10 false (.first 11 false (.first 12 false (.first 13 false (.first 14 false (.first 15 false (.first 17 false (.first 18 false (.alt 16 (.alt 19 (.alt 20 (.first 21 false (.first 22 false .fin)) .noalt) .noalt) (.alt 19 (.alt 16 (.alt 20 (.first 21 false (.first 22 false .fin)) .noalt) .noalt) .noalt)))))))))))))))))))) (by kernel_rfl) (by kernel_rfl) ?_
  conv => whnf
  constructor <;> intro h1
  · have g1 : 1 ≤ c.kind := of_decide_eq_true h1
    conv => whnf
    intro hm
    conv => whnf
    constructor <;> intro h2
    · have g2 : c.kind ≤ 6 := of_decide_eq_true h2
      have hw : IntKind.i64.wrap (c.kind - 1) = c.kind - 1 := wrap_i64 (by omega) (by omega)
      conv => whnf
      refine ⟨by rw [hw]; omega, by rw [hw]; show c.kind - 1 < 6; omega, ?_⟩
      conv => whnf
      have hk : c.kind = 1 ∨ c.kind = 2 ∨ c.kind = 3 ∨ c.kind = 4 ∨ c.kind = 5 ∨ c.kind = 6 := by omega
      rcases hk with hk | hk | hk | hk | hk | hk
      · refine ⟨?_, ?_, trivial⟩
        · conv => whnf
          refine ⟨by show (IntKind.i64.wrap (c.kind - 1)).toNat < 6; rw [hw, hk]; decide, ?_⟩
          intro x hx
          have hx : ([TV.fn (.func 70) [] [], .fn (.func 71) [] [], .fn (.func 72) [] [], .fn (.func 73) [] [], .fn (.func 74) [] [], .fn (.func 75) [] []] : List TV)[(IntKind.i64.wrap (c.kind - 1)).toNat]? = some x := hx
          rw [hw, hk] at hx
          obtain rfl : TV.fn (.func 70) [] [] = x := Option.some.inj hx
          conv => whnf
          refine ⟨?_, trivial⟩
          conv => whnf
          refine ⟨(c_llinear c vars).use ?_, trivial⟩
          conv => whnf
          refine ⟨?_, rfl⟩
          simp only [rightM, hk]
          rfl
        · conv => whnf
          refine ⟨?_, trivial⟩
          conv => whnf
          refine ⟨by show (IntKind.i64.wrap (c.kind - 1)).toNat < 6; rw [hw, hk]; decide, ?_⟩
          intro x hx
          have hx : ([TV.fn (.func 70) [] [], .fn (.func 71) [] [], .fn (.func 72) [] [], .fn (.func 73) [] [], .fn (.func 74) [] [], .fn (.func 75) [] []] : List TV)[(IntKind.i64.wrap (c.kind - 1)).toNat]? = some x := hx
          rw [hw, hk] at hx
          obtain rfl : TV.fn (.func 70) [] [] = x := Option.some.inj hx
          conv => whnf
          refine ⟨(c_llinear c vars).use ?_, trivial⟩
          conv => whnf
          refine ⟨?_, rfl⟩
          simp only [rightM, hk]
          rfl
      · refine ⟨?_, ?_, trivial⟩
        · conv => whnf
          refine ⟨by show (IntKind.i64.wrap (c.kind - 1)).toNat < 6; rw [hw, hk]; decide, ?_⟩
          intro x hx
          have hx : ([TV.fn (.func 70) [] [], .fn (.func 71) [] [], .fn (.func 72) [] [], .fn (.func 73) [] [], .fn (.func 74) [] [], .fn (.func 75) [] []] : List TV)[(IntKind.i64.wrap (c.kind - 1)).toNat]? = some x := hx
          rw [hw, hk] at hx
          obtain rfl : TV.fn (.func 71) [] [] = x := Option.some.inj hx
          conv => whnf
          refine ⟨?_, trivial⟩
          conv => whnf
          refine ⟨(c_lproduct c vars).use ?_, trivial⟩
          conv => whnf
          refine ⟨?_, rfl⟩
          simp only [rightM, hk]
          rfl
        · conv => whnf
          refine ⟨?_, trivial⟩
          conv => whnf
          refine ⟨by show (IntKind.i64.wrap (c.kind - 1)).toNat < 6; rw [hw, hk]; decide, ?_⟩
          intro x hx
          have hx : ([TV.fn (.func 70) [] [], .fn (.func 71) [] [], .fn (.func 72) [] [], .fn (.func 73) [] [], .fn (.func 74) [] [], .fn (.func 75) [] []] : List TV)[(IntKind.i64.wrap (c.kind - 1)).toNat]? = some x := hx
          rw [hw, hk] at hx
          obtain rfl : TV.fn (.func 71) [] [] = x := Option.some.inj hx
          conv => whnf
          refine ⟨(c_lproduct c vars).use ?_, trivial⟩
          conv => whnf
          refine ⟨?_, rfl⟩
          simp only [rightM, hk]
          rfl
      · refine ⟨?_, ?_, trivial⟩
        · conv => whnf
          refine ⟨by show (IntKind.i64.wrap (c.kind - 1)).toNat < 6; rw [hw, hk]; decide, ?_⟩
          intro x hx
          have hx : ([TV.fn (.func 70) [] [], .fn (.func 71) [] [], .fn (.func 72) [] [], .fn (.func 73) [] [], .fn (.func 74) [] [], .fn (.func 75) [] []] : List TV)[(IntKind.i64.wrap (c.kind - 1)).toNat]? = some x := hx
          rw [hw, hk] at hx
          obtain rfl : TV.fn (.func 72) [] [] = x := Option.some.inj hx
          conv => whnf
          refine ⟨?_, trivial⟩
          conv => whnf
          refine ⟨(c_liff c vars).use ?_, trivial⟩
          conv => whnf
          refine ⟨?_, rfl⟩
          simp only [rightM, hk]
          rfl
        · conv => whnf
          refine ⟨?_, trivial⟩
          conv => whnf
          refine ⟨by show (IntKind.i64.wrap (c.kind - 1)).toNat < 6; rw [hw, hk]; decide, ?_⟩
          intro x hx
          have hx : ([TV.fn (.func 70) [] [], .fn (.func 71) [] [], .fn (.func 72) [] [], .fn (.func 73) [] [], .fn (.func 74) [] [], .fn (.func 75) [] []] : List TV)[(IntKind.i64.wrap (c.kind - 1)).toNat]? = some x := hx
          rw [hw, hk] at hx
          obtain rfl : TV.fn (.func 72) [] [] = x := Option.some.inj hx
          conv => whnf
          refine ⟨(c_liff c vars).use ?_, trivial⟩
          conv => whnf
          refine ⟨?_, rfl⟩
          simp only [rightM, hk]
          rfl
      · refine ⟨?_, ?_, trivial⟩
        · conv => whnf
          refine ⟨by show (IntKind.i64.wrap (c.kind - 1)).toNat < 6; rw [hw, hk]; decide, ?_⟩
          intro x hx
          have hx : ([TV.fn (.func 70) [] [], .fn (.func 71) [] [], .fn (.func 72) [] [], .fn (.func 73) [] [], .fn (.func 74) [] [], .fn (.func 75) [] []] : List TV)[(IntKind.i64.wrap (c.kind - 1)).toNat]? = some x := hx
          rw [hw, hk] at hx
          obtain rfl : TV.fn (.func 73) [] [] = x := Option.some.inj hx
          conv => whnf
          refine ⟨?_, trivial⟩
          conv => whnf
          refine ⟨(c_lelement c vars).use ?_, trivial⟩
          conv => whnf
          refine ⟨?_, rfl⟩
          simp only [rightM, hk]
          rfl
        · conv => whnf
          refine ⟨?_, trivial⟩
          conv => whnf
          refine ⟨by show (IntKind.i64.wrap (c.kind - 1)).toNat < 6; rw [hw, hk]; decide, ?_⟩
          intro x hx
          have hx : ([TV.fn (.func 70) [] [], .fn (.func 71) [] [], .fn (.func 72) [] [], .fn (.func 73) [] [], .fn (.func 74) [] [], .fn (.func 75) [] []] : List TV)[(IntKind.i64.wrap (c.kind - 1)).toNat]? = some x := hx
          rw [hw, hk] at hx
          obtain rfl : TV.fn (.func 73) [] [] = x := Option.some.inj hx
          conv => whnf
          refine ⟨(c_lelement c vars).use ?_, trivial⟩
          conv => whnf
          refine ⟨?_, rfl⟩
          simp only [rightM, hk]
          rfl
      · refine ⟨?_, ?_, trivial⟩
        · conv => whnf
          refine ⟨by show (IntKind.i64.wrap (c.kind - 1)).toNat < 6; rw [hw, hk]; decide, ?_⟩
          intro x hx
          have hx : ([TV.fn (.func 70) [] [], .fn (.func 71) [] [], .fn (.func 72) [] [], .fn (.func 73) [] [], .fn (.func 74) [] [], .fn (.func 75) [] []] : List TV)[(IntKind.i64.wrap (c.kind - 1)).toNat]? = some x := hx
          rw [hw, hk] at hx
          obtain rfl : TV.fn (.func 74) [] [] = x := Option.some.inj hx
          conv => whnf
          refine ⟨?_, trivial⟩
          conv => whnf
          refine ⟨(c_ldiffer c vars).use ?_, trivial⟩
          conv => whnf
          refine ⟨?_, rfl⟩
          simp only [rightM, hk]
          rfl
        · conv => whnf
          refine ⟨?_, trivial⟩
          conv => whnf
          refine ⟨by show (IntKind.i64.wrap (c.kind - 1)).toNat < 6; rw [hw, hk]; decide, ?_⟩
          intro x hx
          have hx : ([TV.fn (.func 70) [] [], .fn (.func 71) [] [], .fn (.func 72) [] [], .fn (.func 73) [] [], .fn (.func 74) [] [], .fn (.func 75) [] []] : List TV)[(IntKind.i64.wrap (c.kind - 1)).toNat]? = some x := hx
          rw [hw, hk] at hx
          obtain rfl : TV.fn (.func 74) [] [] = x := Option.some.inj hx
          conv => whnf
          refine ⟨(c_ldiffer c vars).use ?_, trivial⟩
          conv => whnf
          refine ⟨?_, rfl⟩
          simp only [rightM, hk]
          rfl
      · refine ⟨?_, ?_, trivial⟩
        · conv => whnf
          refine ⟨by show (IntKind.i64.wrap (c.kind - 1)).toNat < 6; rw [hw, hk]; decide, ?_⟩
          intro x hx
          have hx : ([TV.fn (.func 70) [] [], .fn (.func 71) [] [], .fn (.func 72) [] [], .fn (.func 73) [] [], .fn (.func 74) [] [], .fn (.func 75) [] []] : List TV)[(IntKind.i64.wrap (c.kind - 1)).toNat]? = some x := hx
          rw [hw, hk] at hx
          obtain rfl : TV.fn (.func 75) [] [] = x := Option.some.inj hx
          conv => whnf
          refine ⟨?_, trivial⟩
          conv => whnf
          refine ⟨(c_ltable c vars).use ?_, trivial⟩
          conv => whnf
          refine ⟨?_, rfl⟩
          simp only [rightM, hk]
          rfl
        · conv => whnf
          refine ⟨?_, trivial⟩
          conv => whnf
          refine ⟨by show (IntKind.i64.wrap (c.kind - 1)).toNat < 6; rw [hw, hk]; decide, ?_⟩
          intro x hx
          have hx : ([TV.fn (.func 70) [] [], .fn (.func 71) [] [], .fn (.func 72) [] [], .fn (.func 73) [] [], .fn (.func 74) [] [], .fn (.func 75) [] []] : List TV)[(IntKind.i64.wrap (c.kind - 1)).toNat]? = some x := hx
          rw [hw, hk] at hx
          obtain rfl : TV.fn (.func 75) [] [] = x := Option.some.inj hx
          conv => whnf
          refine ⟨(c_ltable c vars).use ?_, trivial⟩
          conv => whnf
          refine ⟨?_, rfl⟩
          simp only [rightM, hk]
          rfl
    · have g2 : ¬ c.kind ≤ 6 := of_decide_eq_false h2
      have hr : rightM c vars = false := by
        simp only [rightM]
        rw [if_neg (by omega), if_neg (by omega), if_neg (by omega), if_neg (by omega), if_neg (by omega), if_neg (by omega)]
      rw [hr]
      conv => whnf
      refine ⟨?_, ?_, trivial⟩
      · conv => whnf
        refine ⟨?_, trivial⟩
        conv => whnf
        refine ⟨?_, trivial⟩
        conv => whnf
        exact ⟨rfl, rfl⟩
      · conv => whnf
        refine ⟨?_, trivial⟩
        conv => whnf
        refine ⟨?_, trivial⟩
        conv => whnf
        exact ⟨rfl, rfl⟩
  · have g1 : ¬ 1 ≤ c.kind := of_decide_eq_false h1
    have hr : rightM c vars = false := by
      simp only [rightM]
      rw [if_neg (by omega), if_neg (by omega), if_neg (by omega), if_neg (by omega), if_neg (by omega), if_neg (by omega)]
    rw [hr]
    repeat ((conv => whnf); constructor <;> intro hh <;> cases hh)
    conv => whnf
    refine ⟨?_, ?_, trivial⟩
    · conv => whnf
      refine ⟨?_, trivial⟩
      conv => whnf
      refine ⟨?_, trivial⟩
      conv => whnf
      exact ⟨rfl, rfl⟩
    · conv => whnf
      refine ⟨?_, trivial⟩
      conv => whnf
      refine ⟨?_, trivial⟩
      conv => whnf
      exact ⟨rfl, rfl⟩
end Go.T
set_option linter.unusedVariables false
set_option linter.unusedSimpArgs false
namespace Go.T
open Go.Proofs Go.RowKit
variable {Ev : Env} {H : Nat → Option RObj}
def lastOf (l : List (Int × Int)) (i : Nat) : Option Int :=
  match i with
  | 0 => none
  | i + 1 => (l[i]?).map Prod.snd
theorem spansG_cons (last : Option Int) (s : Int × Int) (l : List (Int × Int)) : spansG last (s :: l) = (!(decide (s.1 > s.2) || decide (s.1 < -1048576) || decide (s.2 > 1048576) || (match last with
    | some h => decide (s.1 ≤ h + 1)
    | none => false)) && spansG (some s.2) l) := by cases last <;> rfl
theorem spansG_drop {l : List (Int × Int)} {i : Nat} {s : Int × Int} (h : l[i]? = some s) : spansG (lastOf l i) (l.drop i) =
    (!(decide (s.1 > s.2) || decide (s.1 < -1048576) || decide (s.2 > 1048576) || (match lastOf l i with
    | some h => decide (s.1 ≤ h + 1)
    | none => false)) && spansG (lastOf l (i + 1)) (l.drop (i + 1))) := by
  rw [drop_get h, spansG_cons]
  simp only [lastOf, h, Option.map_some]
set_option maxHeartbeats 2000000 in
theorem c_spansR (l : List (Int × Int)) : Ret Tryz.prog Ev 42 [.sl 2 (l.map spanTV)] H (.t (.bool (spansM l))) := by
  refine go noStop noStop Tryz.func42 rfl (by kernel_rfl) rfl ?_
  have hl : (l.map spanTV).length = l.length := List.length_map ..
  conv => whnf
  intro hm
  rw [hl] at hm
  conv => whnf
  refine goLoop noStop (stopAt 4) (fun i : Nat => .of [(0, .t (.sl 2 (l.map spanTV))), (5, .t (.sl 2 (l.map spanTV))), (6, .t (.int .i64 (l.map spanTV).length)), (7, .t (.int .i64 (i : Nat)))] [] [] H)
    (fun i => i ≤ l.length ∧ spansM l = spansG (lastOf l i) (l.drop i) ∧ ∀ h, lastOf l i = some h → -1048576 ≤ h ∧ h ≤ 1048576) (fun i => l.length - i) 0 ⟨by simp, rfl, by simp [lastOf]⟩ (.of ⟨rfl, rfl, rfl, rfl, trivial⟩ trivial trivial (fun _ => .inr rfl)) ?_
  rintro i ⟨hi, he, hlast⟩
  conv => whnf
  constructor <;> intro h1
  · have hlt : i < l.length := by have h1 : decide ((i : Int) < ((l.map spanTV).length : Int)) = true := h1; have := of_decide_eq_true h1; omega
    obtain ⟨s, hs⟩ : ∃ s, l[i]? = some s := ⟨_, List.getElem?_eq_getElem hlt⟩
    rw [spansG_drop hs] at he
    conv => whnf
    refine ⟨by omega, by omega, ?_⟩
    intro y hy
    obtain rfl := get_same hy hs
    conv => whnf
    let C : Bool := decide (s.1 > s.2) || decide (s.1 < -1048576) || decide (s.2 > 1048576) || (match lastOf l i with
      | some h => decide (s.1 ≤ h + 1)
      | none => false)
    have heC : spansM l = (!C && spansG (lastOf l (i + 1)) (l.drop (i + 1))) := he
    let s0 : TS := .of [(0, .t (.sl 2 (l.map spanTV))), (5, .t (.sl 2 (l.map spanTV))), (6, .t (.int .i64 (l.map spanTV).length)), (7, .t (.int .i64 (i : Nat))), (42, .t (.bool C))] [] [] H
    refine goSeqTo noStop noStop noStop (fun _ : Unit => s0) (fun _ => True) ?_ ?_
    · refine goDraw noStop [0, 1, 2, 3, 4, 5, 6, 7, 8, 9, 10, 11, 12, 13, 14, 15, 16, 17, 18, 19, 20, 21, 22, 23, 24, 25, 26, 27, 28, 29, 30] (.first 0 false (.first 2 false (.first 1 true (.first 3 true (.first 4 false (.first 5 false (.first 6 false (.first 7 true (.first 8 false (.first 9 false (.first 10 false (.first 11 false (.first 12 true (.first 13 false (.first 14 false (.first 15 false (.first 16 false (.first 17 false (.first 18 false (.first 19 false (.first 21 false (.first 22 false (.first 23 false (.first 24 false (.first 25 false (.first 26 false (.first 27 false (.first 20 true (.first 28 false (.first 29 false (.first 30 false .fin))))))))))))))))))))))))))))))) (by kernel_rfl) (by kernel_rfl) ?_
      conv => whnf
      constructor <;> intro h2
      · have g2 : decide (s.1 > s.2) = false := h2
        conv => whnf
        constructor <;> intro h3
        · have g3 : decide (s.1 < -1048576) = false := h3
          conv => whnf
          constructor <;> intro h4
          · have g4 : decide (s.2 > 1048576) = false := h4
            conv => whnf
            constructor <;> intro h5
            · have g5 : 0 < i := by have h5 : decide ((i : Int) > 0) = true := h5; have := of_decide_eq_true h5; omega
              have hw : IntKind.i64.wrap ((i : Int) - 1) = ((i - 1 : Nat) : Int) := by rw [wrap_i64 (by omega) (by omega)]; omega
              obtain ⟨u, hu⟩ : ∃ u, l[i - 1]? = some u := ⟨_, List.getElem?_eq_getElem (by omega)⟩
              have hlu : lastOf l i = some u.2 := by
                obtain ⟨k, rfl⟩ : ∃ k, i = k + 1 := ⟨i - 1, by omega⟩
                simp only [lastOf]
                rw [Nat.add_sub_cancel] at hu
                rw [hu]; rfl
              have hb := hlast _ hlu
              have hw2 : IntKind.i64.wrap (u.2 + 1) = u.2 + 1 := wrap_i64 (by omega) (by omega)
              conv => whnf
              refine ⟨by rw [hw]; omega, by rw [hw]; omega, ?_⟩
              intro y hy
              rw [hw] at hy
              obtain rfl := get_same hy hu
              conv => whnf
              refine ⟨(), trivial, .of ⟨rfl, rfl, rfl, rfl, ?_, trivial⟩ trivial trivial (fun _ => .inr rfl)⟩
              show SV.t (TV.bool (decide (s.1 ≤ IntKind.i64.wrap (u.2 + 1)))) = SV.t (TV.bool C)
              simp only [C, g2, g3, g4, hlu, hw2, Bool.false_or]
            · have g5 : i = 0 := by have h5 : decide ((i : Int) > 0) = false := h5; have := of_decide_eq_false h5; omega
              subst g5
              conv => whnf
              refine ⟨(), trivial, .of ⟨rfl, rfl, rfl, rfl, ?_, trivial⟩ trivial trivial (fun _ => .inr rfl)⟩
              show SV.t (TV.bool false) = SV.t (TV.bool C)
              simp only [C, g2, g3, g4, lastOf, Bool.false_or]
          · have g4 : decide (s.2 > 1048576) = true := h4
            repeat ((conv => whnf); constructor <;> intro hh <;> cases hh)
            conv => whnf
            refine ⟨(), trivial, .of ⟨rfl, rfl, rfl, rfl, ?_, trivial⟩ trivial trivial (fun _ => .inr rfl)⟩
            show SV.t (TV.bool true) = SV.t (TV.bool C)
            simp only [C, g2, g3, g4, Bool.false_or, Bool.true_or]
        · have g3 : decide (s.1 < -1048576) = true := h3
          repeat ((conv => whnf); constructor <;> intro hh <;> cases hh)
          conv => whnf
          refine ⟨(), trivial, .of ⟨rfl, rfl, rfl, rfl, ?_, trivial⟩ trivial trivial (fun _ => .inr rfl)⟩
          show SV.t (TV.bool true) = SV.t (TV.bool C)
          simp only [C, g2, g3, Bool.false_or, Bool.true_or]
      · have g2 : decide (s.1 > s.2) = true := h2
        repeat ((conv => whnf); constructor <;> intro hh <;> cases hh)
        conv => whnf
        refine ⟨(), trivial, .of ⟨rfl, rfl, rfl, rfl, ?_, trivial⟩ trivial trivial (fun _ => .inr rfl)⟩
        show SV.t (TV.bool true) = SV.t (TV.bool C)
        simp only [C, g2, Bool.true_or]
    · rintro _ _
      conv => whnf
      constructor <;> intro hC
      · conv => whnf
        refine ⟨?_, rfl⟩
        rw [heC, hC]
        simp
      · have hC : C = false := hC
        rw [hC, Bool.not_false, Bool.true_and] at heC
        have hb : -1048576 ≤ s.2 ∧ s.2 ≤ 1048576 := by
          simp only [C, Bool.or_eq_false_iff, decide_eq_false_iff_not] at hC
          omega
        conv => whnf
        refine ⟨i + 1, ⟨by omega, heC, fun h hh => ?_⟩, by omega, .of ⟨rfl, rfl, rfl, ?_, trivial⟩ trivial trivial (fun _ => .inr rfl)⟩
        · simp only [lastOf, hs, Option.map_some, Option.some.injEq] at hh
          omega
        · show SV.t (.int .i64 (IntKind.i64.wrap ((i : Int) + 1))) = _
          rw [wrap_i64 (by omega) (by omega)]; rfl
  · have hge : l.length ≤ i := by have h1 : decide ((i : Int) < ((l.map spanTV).length : Int)) = false := h1; have := of_decide_eq_false h1; omega
    conv => whnf
    refine ⟨?_, rfl⟩
    rw [he, List.drop_eq_nil_of_le hge, spansG]
/-- Of a right list the sums stay small. -/
theorem spansG_sum : ∀ (l : List (Int × Int)) (last : Option Int), (∀ h, last = some h → -1048578 ≤ h ∧ h ≤ 1048576) → spansG last l = true → ∀ (lo : Int), (lo = match last with
    | some h => h + 2
    | none => -1048576) → ∀ i, i ≤ l.length → 0 ≤ sizeG (l.take i) ∧ sizeG (l.take i) ≤ max 0 (1048576 - lo + 1)
  | [], last, hl, h, lo, hlo, i, hi => by simp [sizeG]; omega
  | s :: l, last, hl, h, lo, hlo, 0, hi => by simp [sizeG]; omega
  | s :: l, last, hl, h, lo, hlo, i + 1, hi => by
    rw [spansG_cons] at h
    simp only [Bool.and_eq_true, Bool.not_eq_true', Bool.or_eq_false_iff, decide_eq_false_iff_not] at h
    obtain ⟨⟨⟨⟨h1, h2⟩, h3⟩, h4⟩, h5⟩ := h
    have hlo2 : lo ≤ s.1 := by
      cases last with
      | none => dsimp only at hlo; omega
      | some b => dsimp only at hlo; simp only [decide_eq_false_iff_not] at h4; omega
    have ih := spansG_sum l (some s.2) (fun h hh => by cases hh; omega) h5 (s.2 + 2) rfl i (by simpa using hi)
    have key : ∀ (l : List (Int × Int)) (n : Int), l.foldl (fun n s => n + (s.2 - s.1 + 1)) n = n + sizeG l := by
      intro l
      induction l with
      | nil => intro n; simp [sizeG]
      | cons a l ih =>
        intro n
        show l.foldl (fun n s => n + (s.2 - s.1 + 1)) (n + (a.2 - a.1 + 1)) = n + l.foldl (fun n s => n + (s.2 - s.1 + 1)) (0 + (a.2 - a.1 + 1))
        rw [ih, ih (0 + (a.2 - a.1 + 1))]; omega
    rw [List.take_succ_cons]
    have e : sizeG (s :: l.take i) = (s.2 - s.1 + 1) + sizeG (l.take i) := by
      show (l.take i).foldl (fun n s => n + (s.2 - s.1 + 1)) (0 + (s.2 - s.1 + 1)) = _
      rw [key]; omega
    rw [e]
    omega
end Go.T
set_option linter.unusedVariables false
set_option linter.unusedSimpArgs false
namespace Go.T
open Go.Proofs Go.RowKit
variable {Ev : Env} {H : Nat → Option RObj}
theorem sizeG_snoc (l : List (Int × Int)) (s : Int × Int) : sizeG (l ++ [s]) = sizeG l + (s.2 - s.1 + 1) := by simp [sizeG, List.foldl_append]
theorem c_size (l : List (Int × Int)) : Ret Tryz.prog Ev 23 [.sl 2 (l.map spanTV)] H (.t (.int .i64 (sizeM l))) := by
  refine go noStop noStop Tryz.func23 rfl (by kernel_rfl) rfl ?_
  have hl : (l.map spanTV).length = l.length := List.length_map ..
  unfold sizeM
  conv => whnf
  refine (c_spansR l).use ?_
  conv => whnf
  cases h1 : spansM l with
  | false =>
    constructor <;> intro g
    · conv => whnf
      exact ⟨rfl, rfl⟩
    · cases g
  | true =>
    constructor <;> intro g
    · cases g
    conv => whnf
    intro hm
    rw [hl] at hm
    have hsum := spansG_sum l none (by simp) h1 (-1048576) rfl
    conv => whnf
    refine goLoop noStop noStop (fun i : Nat => .of [(0, .t (.sl 2 (l.map spanTV))), (3, .t (.int .i64 (sizeG (l.take i)))), (9, .t (.sl 2 (l.map spanTV))), (10, .t (.int .i64 (l.map spanTV).length)), (11, .t (.int .i64 (i : Nat)))] [] [] H)
      (fun i => i ≤ l.length) (fun i => l.length - i) 0 (by simp) (.of ⟨rfl, rfl, rfl, rfl, rfl, trivial⟩ trivial trivial (fun _ => .inr rfl)) ?_
    intro i hi
    conv => whnf
    constructor <;> intro h2
    · have hlt : i < l.length := by have h2 : decide ((i : Int) < ((l.map spanTV).length : Int)) = true := h2; have := of_decide_eq_true h2; omega
      obtain ⟨s, hs⟩ : ∃ s, l[i]? = some s := ⟨_, List.getElem?_eq_getElem hlt⟩
      have e : sizeG (l.take (i + 1)) = sizeG (l.take i) + (s.2 - s.1 + 1) := by rw [take_succ_get hs, sizeG_snoc]
      have b1 := hsum i (by omega)
      have b2 := hsum (i + 1) (by omega)
      have hw1 : IntKind.i64.wrap (sizeG (l.take i) + IntKind.i64.wrap (IntKind.i64.wrap (s.2 - s.1) + 1)) = sizeG (l.take (i + 1)) := by
        rw [wrap_i64 (n := s.2 - s.1) (by omega) (by omega), wrap_i64 (n := s.2 - s.1 + 1) (by omega) (by omega), wrap_i64 (by omega) (by omega), e]
      conv => whnf
      refine ⟨by omega, by omega, ?_⟩
      intro y hy
      obtain rfl := get_same hy hs
      conv => whnf
      refine ⟨i + 1, by omega, by omega, .of ⟨rfl, ?_, rfl, rfl, ?_, trivial⟩ trivial trivial (fun _ => .inr rfl)⟩
      · exact congrArg (fun n => SV.t (TV.int .i64 n)) hw1
      · show SV.t (.int .i64 (IntKind.i64.wrap ((i : Int) + 1))) = _
        rw [wrap_i64 (by omega) (by omega)]; rfl
    · have hge : l.length ≤ i := by have h2 : decide ((i : Int) < ((l.map spanTV).length : Int)) = false := h2; have := of_decide_eq_false h2; omega
      rw [List.take_of_length_le hge]
      conv => whnf
      exact ⟨rfl, rfl⟩
theorem c_clone (l : List (Int × Int)) (hl : l.length ≤ 1000000) : Ret Tryz.prog Ev 38 [.sl 2 (l.map spanTV)] H (.own 2 (l.map spanTV)) := by
  refine go noStop noStop Tryz.func38 rfl (by kernel_rfl) rfl ?_
  have hl' : (l.map spanTV).length = l.length := List.length_map ..
  conv => whnf
  intro b hb
  conv => whnf
  constructor <;> intro h1
  · have : l.map spanTV = [] := by
      by_cases e : l.map spanTV = []
      · exact e
      · have := hb e; rw [this] at h1; cases h1
    rw [this]
    conv => whnf
    exact ⟨rfl, rfl⟩
  · conv => whnf
    refine ⟨by show (0 + (l.map spanTV).length) * 16 ≤ _; omega, by show 0 + (l.map spanTV).length ≤ _; omega, ?_⟩
    conv => whnf
    exact ⟨rfl, rfl⟩
theorem varsM_eq (m : ModelD) : varsM m = m.blocks.flatMap BlockD.vars := rfl
set_option maxHeartbeats 2000000 in
theorem c_vars (m : ModelD) (hv : (varsM m).length ≤ 1000000) (hd : ∀ d, d ∈ varsM m → d.dom.length ≤ 1000000) : Ret Tryz.prog Ev 17 [m.tv] H (.own 2 ((varsM m).map DeclD.tv)) := by
  refine go (at1 1) noStop Tryz.func17 rfl (by kernel_rfl) rfl ?_
  have hl : (m.blocks.map BlockD.tv).length = m.blocks.length := List.length_map ..
  conv => whnf
  intro hm
  rw [hl] at hm
  conv => whnf
  refine goLoop (at1 1) noStop (fun k : Nat => .of [(3, .arr 3), (9, .t (.sl 3 (m.blocks.map BlockD.tv))), (10, .t (.int .i64 (m.blocks.map BlockD.tv).length)), (11, .t (.int .i64 (k : Nat)))] [] [(3, some ⟨2, false, ((m.blocks.take k).flatMap BlockD.vars).map DeclD.tv⟩)] H)
    (fun k => k ≤ m.blocks.length) (fun k => m.blocks.length - k) 0 (by simp) (.of ⟨rfl, rfl, rfl, rfl, trivial⟩ trivial ⟨rfl, trivial⟩ (fun _ => .inr rfl)) ?_
  intro k hk
  conv => whnf
  constructor <;> intro h1
  · have hlt : k < m.blocks.length := by have h1 : decide ((k : Int) < ((m.blocks.map BlockD.tv).length : Int)) = true := h1; have := of_decide_eq_true h1; omega
    obtain ⟨b, hb⟩ : ∃ b, m.blocks[k]? = some b := ⟨_, List.getElem?_eq_getElem hlt⟩
    have hpre : ((m.blocks.take k).flatMap BlockD.vars).length + b.vars.length ≤ (varsM m).length := by
      have e : varsM m = (m.blocks.take (k + 1)).flatMap BlockD.vars ++ (m.blocks.drop (k + 1)).flatMap BlockD.vars := by rw [← List.flatMap_append, List.take_append_drop]; rfl
      rw [e, take_succ_get hb, List.flatMap_append]
      simp
    have hdm : ∀ d, d ∈ b.vars → d.dom.length ≤ 1000000 := fun d h => hd d (List.mem_flatMap.2 ⟨b, List.mem_of_getElem? hb, h⟩)
    conv => whnf
    refine ⟨by omega, by omega, ?_⟩
    intro y hy
    obtain rfl := get_same hy hb
    conv => whnf
    intro hm2
    have hbl : (b.vars.map DeclD.tv).length = b.vars.length := List.length_map ..
    conv => whnf
    refine goLoop (at1 1) noStop (fun j : Nat => .of [(3, .arr 3), (9, .t (.sl 3 (m.blocks.map BlockD.tv))), (10, .t (.int .i64 (m.blocks.map BlockD.tv).length)), (11, .t (.int .i64 (k : Nat))), (16, .t (.sl 2 (b.vars.map DeclD.tv))), (17, .t (.int .i64 (b.vars.map DeclD.tv).length)), (18, .t (.int .i64 (j : Nat)))] [] [(3, some ⟨2, false, ((m.blocks.take k).flatMap BlockD.vars ++ b.vars.take j).map DeclD.tv⟩)] H)
      (fun j => j ≤ b.vars.length) (fun j => b.vars.length - j) 0 (by simp) (.of ⟨rfl, rfl, rfl, rfl, rfl, rfl, rfl, trivial⟩ trivial ⟨by simp; rfl, trivial⟩ (fun _ => .inr rfl)) ?_
    intro j hj
    conv => whnf
    constructor <;> intro h2
    · have hlt2 : j < b.vars.length := by have h2 : decide ((j : Int) < ((b.vars.map DeclD.tv).length : Int)) = true := h2; have := of_decide_eq_true h2; omega
      obtain ⟨d, hdj⟩ : ∃ d, b.vars[j]? = some d := ⟨_, List.getElem?_eq_getElem hlt2⟩
      have hap : ((m.blocks.take k).flatMap BlockD.vars ++ b.vars.take j).map DeclD.tv ++ [d.tv] = ((m.blocks.take k).flatMap BlockD.vars ++ b.vars.take (j + 1)).map DeclD.tv := by rw [take_succ_get hdj]; simp
      have hcl := hdm d (List.mem_of_getElem? hdj)
      have hlen : (((m.blocks.take k).flatMap BlockD.vars ++ b.vars.take j).map DeclD.tv).length + 1 ≤ 1000000 := by rw [List.length_map, List.length_append, List.length_take]; omega
      conv => whnf
      refine ⟨by omega, by omega, ?_⟩
      intro y hy
      obtain rfl := get_same hy hdj
      conv => whnf
      refine goDrawTo noStop [0, 1, 3, 4] (.first 0 false (.first 1 false (.first 3 false (.first 4 true (.alt 2 (.alt 5 (.alt 6 (.alt 7 (.alt 8 (.alt 9 .fin .noalt) .noalt) .noalt) .noalt) .noalt) (.alt 5 (.alt 2 (.alt 6 (.alt 7 (.alt 8 (.alt 9 .fin .noalt) .noalt) .noalt) .noalt) .noalt) .noalt)))))) (by kernel_rfl) (by kernel_rfl) (fun _ : Unit => .of [(3, .arr 3), (9, .t (.sl 3 (m.blocks.map BlockD.tv))), (10, .t (.int .i64 (m.blocks.map BlockD.tv).length)), (11, .t (.int .i64 (k : Nat))), (16, .t (.sl 2 (b.vars.map DeclD.tv))), (17, .t (.int .i64 (b.vars.map DeclD.tv).length)), (18, .t (.int .i64 (j : Nat)))] [] [(3, some ⟨2, false, ((m.blocks.take k).flatMap BlockD.vars ++ b.vars.take (j + 1)).map DeclD.tv⟩)] H) (fun _ => True) ?_ ?_
      · conv => whnf
        refine ⟨?_, ?_, trivial⟩
        · conv => whnf
          refine ⟨(c_clone d.dom hcl).use ?_, trivial⟩
          conv => whnf
          refine ⟨?_, trivial⟩
          conv => whnf
          refine ⟨?_, trivial⟩
          conv => whnf
          refine ⟨⟨by show ((((m.blocks.take k).flatMap BlockD.vars ++ b.vars.take j).map DeclD.tv).length + 1) * 40 ≤ _; omega, by show (((m.blocks.take k).flatMap BlockD.vars ++ b.vars.take j).map DeclD.tv).length + 1 ≤ _; omega, ?_⟩, trivial⟩
          conv => whnf
          refine ⟨?_, trivial⟩
          conv => whnf
          refine ⟨(), trivial, .of ⟨rfl, rfl, rfl, rfl, rfl, rfl, rfl, trivial⟩ trivial ⟨?_, trivial⟩ (fun _ => .inr rfl)⟩
          rw [← hap]; rfl
        · conv => whnf
          refine (c_clone d.dom hcl).use ?_
          conv => whnf
          refine ⟨?_, trivial⟩
          conv => whnf
          refine ⟨?_, trivial⟩
          conv => whnf
          refine ⟨?_, trivial⟩
          conv => whnf
          refine ⟨⟨by show ((((m.blocks.take k).flatMap BlockD.vars ++ b.vars.take j).map DeclD.tv).length + 1) * 40 ≤ _; omega, by show (((m.blocks.take k).flatMap BlockD.vars ++ b.vars.take j).map DeclD.tv).length + 1 ≤ _; omega, ?_⟩, trivial⟩
          conv => whnf
          refine ⟨?_, trivial⟩
          conv => whnf
          refine ⟨(), trivial, .of ⟨rfl, rfl, rfl, rfl, rfl, rfl, rfl, trivial⟩ trivial ⟨?_, trivial⟩ (fun _ => .inr rfl)⟩
          rw [← hap]; rfl
      · rintro _ _
        conv => whnf
        refine ⟨j + 1, by omega, by omega, .of ⟨rfl, rfl, rfl, rfl, rfl, rfl, ?_, trivial⟩ trivial ⟨rfl, trivial⟩ (fun _ => .inr rfl)⟩
        show SV.t (.int .i64 (IntKind.i64.wrap ((j : Int) + 1))) = _
        rw [wrap_i64 (by omega) (by omega)]; rfl
    · have hge2 : b.vars.length ≤ j := by have h2 : decide ((j : Int) < ((b.vars.map DeclD.tv).length : Int)) = false := h2; have := of_decide_eq_false h2; omega
      have hap : (m.blocks.take k).flatMap BlockD.vars ++ b.vars.take j = (m.blocks.take (k + 1)).flatMap BlockD.vars := by rw [take_succ_get hb, List.take_of_length_le hge2]; simp
      conv => whnf
      refine ⟨k + 1, by omega, by omega, .of ⟨rfl, rfl, rfl, ?_, trivial⟩ trivial ⟨?_, trivial⟩ (fun _ => .inr rfl)⟩
      · show SV.t (.int .i64 (IntKind.i64.wrap ((k : Int) + 1))) = _
        rw [wrap_i64 (by omega) (by omega)]; rfl
      · rw [← hap]; rfl
  · have hge : m.blocks.length ≤ k := by have h1 : decide ((k : Int) < ((m.blocks.map BlockD.tv).length : Int)) = false := h1; have := of_decide_eq_false h1; omega
    rw [List.take_of_length_le hge]
    conv => whnf
    exact ⟨rfl, rfl⟩
theorem endsG_snoc (b : BlockD) : ∀ (n : Nat) (l : List BlockD), endsG n (l ++ [b]) = endsG n l ++ [((n + (l.flatMap BlockD.vars).length + b.vars.length : Nat) : Int)]
  | n, [] => by simp [endsG]
  | n, a :: l => by
    rw [List.cons_append, endsG, endsG, endsG_snoc b]
    simp only [List.cons_append, List.flatMap_cons, List.length_append]
    congr 4
    omega
theorem endsG_length : ∀ (n : Nat) (l : List BlockD), (endsG n l).length = l.length
  | n, [] => rfl
  | n, a :: l => by rw [endsG, List.length_cons, endsG_length, List.length_cons]
theorem c_ends (m : ModelD) (hv : (varsM m).length ≤ 1000000) (hb : m.blocks.length ≤ 1000000) : Ret Tryz.prog Ev 43 [m.tv] H (.own 1 (ints (endsM m))) := by
  refine go (at1 1) noStop Tryz.func43 rfl (by kernel_rfl) rfl ?_
  have hl : (m.blocks.map BlockD.tv).length = m.blocks.length := List.length_map ..
  conv => whnf
  intro hm
  conv => whnf
  refine goLoop (at1 1) noStop (fun k : Nat => .of [(3, .arr 3), (4, .t (.int .i64 (((m.blocks.take k).flatMap BlockD.vars).length : Nat))), (8, .t (.sl 3 (m.blocks.map BlockD.tv))), (9, .t (.int .i64 (m.blocks.map BlockD.tv).length)), (10, .t (.int .i64 (k : Nat)))] [] [(3, some ⟨1, false, ints (endsG 0 (m.blocks.take k))⟩)] H)
    (fun k => k ≤ m.blocks.length) (fun k => m.blocks.length - k) 0 (by simp) (.of ⟨rfl, rfl, rfl, rfl, rfl, trivial⟩ trivial ⟨rfl, trivial⟩ (fun _ => .inr rfl)) ?_
  intro k hk
  conv => whnf
  constructor <;> intro h1
  · have hlt : k < m.blocks.length := by have h1 : decide ((k : Int) < ((m.blocks.map BlockD.tv).length : Int)) = true := h1; have := of_decide_eq_true h1; omega
    obtain ⟨b, hbk⟩ : ∃ b, m.blocks[k]? = some b := ⟨_, List.getElem?_eq_getElem hlt⟩
    have hpre : ((m.blocks.take k).flatMap BlockD.vars).length + b.vars.length ≤ (varsM m).length := by
      have e : varsM m = (m.blocks.take (k + 1)).flatMap BlockD.vars ++ (m.blocks.drop (k + 1)).flatMap BlockD.vars := by rw [← List.flatMap_append, List.take_append_drop]; rfl
      rw [e, take_succ_get hbk, List.flatMap_append]
      simp
    have hbl : (b.vars.map DeclD.tv).length = b.vars.length := List.length_map ..
    have hel : (ints (endsG 0 (m.blocks.take k))).length ≤ 1000000 := by rw [ints_len, endsG_length, List.length_take]; omega
    have hsum : ((m.blocks.take (k + 1)).flatMap BlockD.vars).length = ((m.blocks.take k).flatMap BlockD.vars).length + b.vars.length := by rw [take_succ_get hbk, List.flatMap_append]; simp
    have hw : IntKind.i64.wrap ((((m.blocks.take k).flatMap BlockD.vars).length : Int) + ((b.vars.map DeclD.tv).length : Int)) = ((((m.blocks.take (k + 1)).flatMap BlockD.vars).length : Nat) : Int) := by
      rw [hbl, hsum, wrap_i64 (by omega) (by omega)]; simp
    have hap : ints (endsG 0 (m.blocks.take k)) ++ [.int .i64 ((((m.blocks.take (k + 1)).flatMap BlockD.vars).length : Nat) : Int)] = ints (endsG 0 (m.blocks.take (k + 1))) := by
      have e : m.blocks.take (k + 1) = m.blocks.take k ++ [b] := take_succ_get hbk
      rw [hsum, e, endsG_snoc]
      simp [ints]
    conv => whnf
    refine ⟨by omega, by omega, ?_⟩
    intro y hy
    obtain rfl := get_same hy hbk
    conv => whnf
    intro hm2
    conv => whnf
    refine ⟨by show ((ints (endsG 0 (m.blocks.take k))).length + 1) * 8 ≤ _; omega, by show (ints (endsG 0 (m.blocks.take k))).length + 1 ≤ _; omega, ?_⟩
    conv => whnf
    refine ⟨k + 1, by omega, by omega, .of ⟨rfl, ?_, rfl, rfl, ?_, trivial⟩ trivial ⟨?_, trivial⟩ (fun _ => .inr rfl)⟩
    · exact congrArg (fun n => SV.t (TV.int .i64 n)) hw
    · show SV.t (.int .i64 (IntKind.i64.wrap ((k : Int) + 1))) = _
      rw [wrap_i64 (by omega) (by omega)]; rfl
    · rw [← hap, ← hw]; rfl
  · have hge : m.blocks.length ≤ k := by have h1 : decide ((k : Int) < ((m.blocks.map BlockD.tv).length : Int)) = false := h1; have := of_decide_eq_false h1; omega
    rw [List.take_of_length_le hge]
    conv => whnf
    exact ⟨rfl, rfl⟩
end Go.T
set_option linter.unusedVariables false
set_option linter.unusedSimpArgs false
namespace Go.T
open Go.Proofs Go.RowKit
variable {Ev : Env} {H : Nat → Option RObj}
theorem c_empty (b : BlockD) : Ret Tryz.prog Ev 16 [b.tv] H (.t (.bool ((b.vars.length : Int) == 0))) := by
  refine go (at1 1) noStop Tryz.func16 rfl (by kernel_rfl) rfl ?_
  conv => whnf
  intro hm
  conv => whnf
  refine ⟨?_, rfl⟩
  rw [← List.length_map (f := DeclD.tv)]
theorem c_many (b : BlockD) : Ret Tryz.prog Ev 36 [b.tv] H (.t (.bool (decide ((b.cons.length : Int) > 16)))) := by
  refine go (at1 1) noStop Tryz.func36 rfl (by kernel_rfl) rfl ?_
  conv => whnf
  intro hm
  conv => whnf
  refine ⟨?_, rfl⟩
  rw [← List.length_map (f := ConD.tv)]
theorem c_badName (hE : ∀ w, Ev.E w → HasMax w) (d : DeclD) (hd : d.name.length ≤ 9000000000000000000) : Ret Tryz.prog Ev 19 [d.tv] H (.t (.bool (!nameM d.name))) := by
  refine go (at1 1) noStop Tryz.func19 rfl (by kernel_rfl) rfl ?_
  conv => whnf
  refine (c_name8 hE d.name hd).use ?_
  conv => whnf
  exact ⟨rfl, rfl⟩
theorem c_sameName (d : DeclD) (j : Nat) (c : CV) (n : List UInt8) (hH : H j = some (.cells [.v (.str n), c])) : Ret Tryz.prog Ev 21 [d.tv, .ptr j 0] H (.t (.bool (d.name == n))) := by
  refine go (at1 2) noStop Tryz.func21 rfl (by kernel_rfl) rfl ?_
  conv => whnf
  refine ⟨_, hH, ?_⟩
  conv => whnf
  exact ⟨rfl, rfl⟩
theorem c_valsBad (d : DeclD) : Ret Tryz.prog Ev 22 [d.tv] H (.t (.bool (valsM d))) := by
  refine go (at1 1) noStop Tryz.func22 rfl (by kernel_rfl) rfl ?_
  conv => whnf
  refine (c_size d.dom).use ?_
  unfold valsM
  conv => whnf
  constructor <;> intro h1
  · have g1 : decide (sizeM d.dom < 1) = false := h1
    conv => whnf
    refine ⟨?_, rfl⟩
    rw [g1]; rfl
  · have g1 : decide (sizeM d.dom < 1) = true := h1
    repeat ((conv => whnf); constructor <;> intro hh <;> cases hh)
    conv => whnf
    refine ⟨?_, rfl⟩
    rw [g1]; rfl
/-- What is known of a model's size. -/
structure Fits (m : ModelD) : Prop where
  vars : (varsM m).length ≤ 1000000
  dom : ∀ d, d ∈ varsM m → d.dom.length ≤ 1000000
  name : ∀ d, d ∈ varsM m → d.name.length ≤ 9000000000000000000
  blocks : m.blocks.length ≤ 1000000
set_option maxHeartbeats 2000000 in
theorem c_big (m : ModelD) (hf : Fits m) : Ret Tryz.prog Ev 14 [m.tv] H (.t (.bool (bigM m))) := by
  refine go (at1 1) noStop Tryz.func14 rfl (by kernel_rfl) rfl ?_
  have hl1 : (m.blocks.map BlockD.tv).length = m.blocks.length := List.length_map ..
  have hl2 : (m.goal.map ConD.tv).length = m.goal.length := List.length_map ..
  have hl3 : ((varsM m).map DeclD.tv).length = (varsM m).length := List.length_map ..
  unfold bigM
  conv => whnf
  intro hm
  conv => whnf
  constructor <;> intro h1
  · have g1 : decide ((m.blocks.length : Int) > 8) = false := by rw [← hl1]; exact h1
    conv => whnf
    refine (c_vars m hf.vars hf.dom).use ?_
    conv => whnf
    intro hm2
    conv => whnf
    constructor <;> intro h2
    · have g2 : decide (((varsM m).length : Int) > 16) = false := by rw [← hl3]; exact h2
      conv => whnf
      intro hm3
      conv => whnf
      constructor <;> intro h3
      · have g3 : decide ((m.goal.length : Int) > 16) = false := by rw [← hl2]; exact h3
        conv => whnf
        refine (c_anyF_block (fs := []) (cs := []) (fun b => decide ((b.cons.length : Int) > 16)) m.blocks fun b _ => c_many b).use ?_
        conv => whnf
        refine ⟨?_, rfl⟩
        rw [g1, g2, g3]; rfl
      · have g3 : decide ((m.goal.length : Int) > 16) = true := by rw [← hl2]; exact h3
        repeat ((conv => whnf); constructor <;> intro hh <;> cases hh)
        conv => whnf
        refine ⟨?_, rfl⟩
        rw [g1, g2, g3]; rfl
    · have g2 : decide (((varsM m).length : Int) > 16) = true := by rw [← hl3]; exact h2
      repeat ((conv => whnf); constructor <;> intro hh <;> cases hh)
      conv => whnf
      refine ⟨?_, rfl⟩
      rw [g1, g2]; rfl
  · have g1 : decide ((m.blocks.length : Int) > 8) = true := by rw [← hl1]; exact h1
    repeat ((conv => whnf); constructor <;> intro hh <;> cases hh)
    conv => whnf
    refine ⟨?_, rfl⟩
    rw [g1]; rfl
theorem c_wrong1 (c : ConD) (j j2 : Nat) (ends : List Int) (i : Nat) (n : Int) (hH : H j = some (.cells [.own 1 (ints ends)])) (hI : H j2 = some (.cells [.v (.int .i64 (i : Nat))])) (hn : ends[i]? = some n) :
    Ret Tryz.prog Ev 45 [c.tv, .ptr j 0, .ptr j2 0] H (.t (.bool (!rightM c n))) := by
  refine go (at1 3) noStop Tryz.func45 rfl (by kernel_rfl) rfl ?_
  have hlt : i < ends.length := (List.getElem?_eq_some_iff.1 hn).1
  conv => whnf
  refine goDraw (at1 3) [0, 1, 2, 3, 4, 6, 7] (.first 0 false (.first 1 true (.first 2 true (.first 3 false (.first 4 false (.alt 5 (.first 6 false (.first 7 false .fin)) .noalt)))))) (by kernel_rfl) (by kernel_rfl) ?_
  refine ⟨_, hH, ?_⟩
  conv => whnf
  refine ⟨_, hI, ?_⟩
  conv => whnf
  refine ⟨by omega, by rw [ints_len]; omega, ?_⟩
  intro y hy
  obtain rfl : y = .int .i64 n := get_same (f := TV.int .i64) hy hn
  conv => whnf
  refine ⟨(c_right c n).use ?_, trivial⟩
  conv => whnf
  exact ⟨rfl, rfl⟩
theorem c_wrong2 (c : ConD) (j : Nat) (ends : List Int) (n : Int) (hH : H j = some (.cells [.own 1 (ints ends)])) (hn : ends[ends.length - 1]? = some n) (hl : ends.length ≤ 1000000) :
    Ret Tryz.prog Ev 47 [c.tv, .ptr j 0] H (.t (.bool (!rightM c n))) := by
  refine go (at1 2) noStop Tryz.func47 rfl (by kernel_rfl) rfl ?_
  have hlt : ends.length - 1 < ends.length := (List.getElem?_eq_some_iff.1 hn).1
  have hw : IntKind.i64.wrap (((ints ends).length : Int) - 1) = ((ends.length - 1 : Nat) : Int) := by rw [ints_len, wrap_i64 (by omega) (by omega)]; omega
  conv => whnf
  refine goDraw (at1 2) [0, 1, 2, 3, 4, 5, 6, 8, 9] (.first 0 false (.first 1 true (.first 2 true (.first 3 false (.first 4 false (.first 5 false (.first 6 false (.alt 7 (.first 8 false (.first 9 false .fin)) .noalt)))))))) (by kernel_rfl) (by kernel_rfl) ?_
  refine ⟨_, hH, ?_⟩
  conv => whnf
  refine ⟨_, hH, ?_⟩
  conv => whnf
  intro hm
  conv => whnf
  refine ⟨by rw [hw]; omega, by rw [hw, ints_len]; omega, ?_⟩
  intro y hy
  rw [hw] at hy
  obtain rfl : y = .int .i64 n := get_same (f := TV.int .i64) hy hn
  conv => whnf
  refine ⟨(c_right c n).use ?_, trivial⟩
  conv => whnf
  exact ⟨rfl, rfl⟩
theorem endsG_get : ∀ (n : Nat) (l : List BlockD) (i : Nat), i < l.length → (endsG n l)[i]? = some ((n + ((l.take (i + 1)).flatMap BlockD.vars).length : Nat) : Int)
  | n, [], i, h => by simp at h
  | n, b :: l, 0, h => by simp [endsG]
  | n, b :: l, i + 1, h => by
    rw [endsG, List.getElem?_cons_succ, endsG_get _ l i (by simpa using h)]
    simp; omega
theorem wrongG_drop {l : List BlockD} {k : Nat} {b : BlockD} (h : l[k]? = some b) : wrongG ((l.take k).flatMap BlockD.vars).length (l.drop k) =
    (b.cons.any (fun c => !rightM c ((((l.take (k + 1)).flatMap BlockD.vars).length : Nat) : Int)) || wrongG ((l.take (k + 1)).flatMap BlockD.vars).length (l.drop (k + 1))) := by
  rw [drop_get h, wrongG, take_succ_get h, List.flatMap_append]
  simp
set_option maxHeartbeats 2000000 in
theorem c_mwrong (m : ModelD) (hf : Fits m) (h0 : m.blocks ≠ []) : Ret Tryz.prog Ev 24 [m.tv] H (.t (.bool (wrongM m))) := by
  refine Ret.tol ?_
  refine go (at1 1) (stopAt 2) Tryz.func24 rfl (by kernel_rfl) rfl ?_
  have hl1 : (m.blocks.map BlockD.tv).length = m.blocks.length := List.length_map ..
  have hpos : 0 < m.blocks.length := List.length_pos_iff.2 h0
  have hel : (endsM m).length = m.blocks.length := endsG_length 0 m.blocks
  have hbl := hf.blocks
  conv => whnf
  refine (c_ends m hf.vars hf.blocks).use ?_
  conv => whnf
  refine ⟨TWp.promote (d := 3) (cs := [.own 1 (ints (endsM m))]) rfl fun j hj => ?_⟩
  have hj : H j = none := hj
  refine goOn (at1 1) noStop ?_
  conv => whnf
  intro hm
  conv => whnf
  have hfr : ∀ (j2 : Nat) (B : Option RObj), upd H j (some (.cells [.own 1 (ints (endsM m))])) j2 = none → ∀ i, upd H j (some (.cells [.own 1 (ints (endsM m))])) i = none ∨ upd (upd H j (some (.cells [.own 1 (ints (endsM m))]))) j2 B i = upd H j (some (.cells [.own 1 (ints (endsM m))])) i := by
    intro j2 B h i
    by_cases e : i = j2
    · subst e; exact .inl h
    · exact .inr (upd_ne _ _ e)
  refine goLoop (at1 1) noStop (fun k : Nat => .of [(1, .ea m.tv.cells), (3, .lp 3 0), (9, .t (.sl 3 (m.blocks.map BlockD.tv))), (10, .t (.int .i64 (m.blocks.map BlockD.tv).length)), (11, .t (.int .i64 (k : Nat)))] [(3, some (.esc j))] [] (upd H j (some (.cells [.own 1 (ints (endsM m))]))))
    (fun k => k ≤ m.blocks.length ∧ wrongG 0 m.blocks = wrongG ((m.blocks.take k).flatMap BlockD.vars).length (m.blocks.drop k)) (fun k => m.blocks.length - k) 0 ⟨by simp, by simp⟩ (.of ⟨rfl, rfl, rfl, rfl, rfl, trivial⟩ ⟨rfl, trivial⟩ trivial (fun _ => .inr rfl)) ?_
  rintro k ⟨hk, he⟩
  conv => whnf
  constructor <;> intro h1
  · have hlt : k < m.blocks.length := by have h1 : decide ((k : Int) < ((m.blocks.map BlockD.tv).length : Int)) = true := h1; have := of_decide_eq_true h1; omega
    obtain ⟨b, hb⟩ : ∃ b, m.blocks[k]? = some b := ⟨_, List.getElem?_eq_getElem hlt⟩
    rw [wrongG_drop hb] at he
    have hend := endsG_get 0 m.blocks k hlt
    rw [Nat.zero_add] at hend
    conv => whnf
    refine ⟨by omega, by omega, ?_⟩
    intro y hy
    obtain rfl := get_same hy hb
    conv => whnf
    intro j2 hj2
    have hj2 : upd H j (some (.cells [.own 1 (ints (endsM m))])) j2 = none := hj2
    have hne : j ≠ j2 := by rintro rfl; rw [upd_same] at hj2; cases hj2
    conv => whnf
    refine (c_anyF_con (fs := []) (cs := [.ptr j 0, .ptr j2 0]) _ b.cons fun c _ => c_wrong1 c j j2 (endsM m) k _ ((upd_ne _ _ hne).trans (upd_same _ _ _)) (upd_same _ _ _) hend).use ?_
    conv => whnf
    constructor <;> intro h2
    · have g2 : b.cons.any (fun c => !rightM c ((((m.blocks.take (k + 1)).flatMap BlockD.vars).length : Nat) : Int)) = true := h2
      conv => whnf
      refine ⟨?_, fun i => ?_⟩
      · rw [wrongM, he, g2]; rfl
      · show H i = none ∨ upd (upd H j _) j2 _ i = H i
        by_cases e : i = j2
        · subst e
          rw [upd_ne _ _ (Ne.symm hne)] at hj2
          exact .inl hj2
        · rw [upd_ne _ _ e]
          by_cases e2 : i = j
          · subst e2; exact .inl hj
          · exact .inr (upd_ne _ _ e2)
    · have g2 : b.cons.any (fun c => !rightM c ((((m.blocks.take (k + 1)).flatMap BlockD.vars).length : Nat) : Int)) = false := h2
      rw [g2, Bool.false_or] at he
      conv => whnf
      refine ⟨k + 1, ⟨by omega, he⟩, by omega, .of ⟨rfl, rfl, rfl, rfl, ?_, trivial⟩ ⟨rfl, trivial⟩ trivial (hfr j2 _ hj2)⟩
      show SV.t (.int .i64 (IntKind.i64.wrap ((k : Int) + 1))) = _
      rw [wrap_i64 (by omega) (by omega)]; rfl
  · have hge : m.blocks.length ≤ k := by have h1 : decide ((k : Int) < ((m.blocks.map BlockD.tv).length : Int)) = false := h1; have := of_decide_eq_false h1; omega
    rw [List.drop_eq_nil_of_le hge, wrongG] at he
    have hend := endsG_get 0 m.blocks (m.blocks.length - 1) (by omega)
    rw [Nat.zero_add, Nat.sub_add_cancel hpos, List.take_of_length_le (Nat.le_refl _), ← hel] at hend
    conv => whnf
    refine (c_anyF_con (fs := []) (cs := [.ptr j 0]) _ m.goal fun c _ => c_wrong2 c j (endsM m) _ (upd_same _ _ _) hend (by omega)).use ?_
    conv => whnf
    refine ⟨?_, fun i => ?_⟩
    · rw [wrongM, he]; rfl
    · show H i = none ∨ upd H j _ i = H i
      by_cases e : i = j
      · subst e; exact .inl hj
      · exact .inr (upd_ne _ _ e)
theorem twiceG_drop {l : List DeclD} {i : Nat} {d : DeclD} (h : l[i]? = some d) : twiceG l (l.drop i) i = ((l.take i).any (fun x => x.name == d.name) || twiceG l (l.drop (i + 1)) (i + 1)) := by
  rw [drop_get h, twiceG]
set_option maxHeartbeats 4000000 in
theorem c_check (hE : ∀ w, Ev.E w → HasMax w) (m : ModelD) (hf : Fits m) : Ret Tryz.prog Ev 8 [m.tv] H (.t (.int .i64 (checkM m))) := by
  refine Ret.tol ?_
  refine go (at1 1) noStop Tryz.func8 rfl (by kernel_rfl) rfl ?_
  have hl1 : (m.blocks.map BlockD.tv).length = m.blocks.length := List.length_map ..
  have hl3 : ((varsM m).map DeclD.tv).length = (varsM m).length := List.length_map ..
  have hv := hf.vars
  unfold checkM
  conv => whnf
  refine (c_big m hf).use ?_
  conv => whnf
  cases h1 : bigM m with
  | true =>
    constructor <;> intro g
    · conv => whnf
      exact ⟨rfl, fun i => .inr rfl⟩
    · cases g
  | false =>
    constructor <;> intro g
    · cases g
    rw [if_neg (by simp)]
    conv => whnf
    intro hm
    conv => whnf
    -- no blocks, or one of no variables
    have form : ∀ b : Bool, (((m.blocks.length : Int) == 0) || m.blocks.any (fun b => ((b.vars.length : Int) == 0))) = b → True := fun _ _ => trivial
    constructor <;> intro h2
    · have g2 : ((m.blocks.length : Int) == 0) = false := by rw [← hl1]; exact h2
      have hne : m.blocks ≠ [] := by intro e; rw [e] at g2; cases g2
      rw [g2, Bool.false_or]
      conv => whnf
      refine (c_anyF_block (fs := []) (cs := []) (fun b => ((b.vars.length : Int) == 0)) m.blocks fun b _ => c_empty b).use ?_
      conv => whnf
      cases h3 : m.blocks.any (fun b => ((b.vars.length : Int) == 0)) with
      | true =>
        constructor <;> intro g
        · conv => whnf
          exact ⟨rfl, fun i => .inr rfl⟩
        · cases g
      | false =>
        constructor <;> intro g
        · cases g
        rw [if_neg (by simp)]
        conv => whnf
        refine (c_vars m hf.vars hf.dom).use ?_
        conv => whnf
        refine (c_anyF_decl (fs := []) (cs := []) (fun d => !nameM d.name) (varsM m) fun d hd => c_badName hE d (hf.name d hd)).use ?_
        conv => whnf
        cases h4 : (varsM m).any (fun d => !nameM d.name) with
        | true =>
          constructor <;> intro g
          · conv => whnf
            exact ⟨rfl, fun i => .inr rfl⟩
          · cases g
        | false =>
          constructor <;> intro g
          · cases g
          rw [if_neg (by simp)]
          generalize hL : varsM m = L at *
          conv => whnf
          intro hm2
          conv => whnf
          refine goLoop (at1 1) noStop (fun i : Nat => .of [(1, .ea m.tv.cells), (3, .arr 3), (21, .arr 3), (22, .t (.int .i64 (L.map DeclD.tv).length)), (23, .t (.int .i64 (i : Nat)))] [] [(3, some ⟨2, true, L.map DeclD.tv⟩)] H)
            (fun i => i ≤ L.length ∧ twiceM L = twiceG L (L.drop i) i) (fun i => L.length - i) 0 ⟨by simp, rfl⟩ (.of ⟨rfl, rfl, rfl, rfl, rfl, trivial⟩ trivial ⟨rfl, trivial⟩ (fun _ => .inr rfl)) ?_
          rintro i ⟨hi, he⟩
          conv => whnf
          constructor <;> intro h5
          · have hlt : i < L.length := by have h5 : decide ((i : Int) < ((L.map DeclD.tv).length : Int)) = true := h5; have := of_decide_eq_true h5; omega
            obtain ⟨d, hd⟩ : ∃ d, L[i]? = some d := ⟨_, List.getElem?_eq_getElem hlt⟩
            rw [twiceG_drop hd] at he
            have hcut : ((L.map DeclD.tv).take ((i : Nat) : Int).toNat).drop (0 : Int).toNat = (L.take i).map DeclD.tv := by simp
            conv => whnf
            refine ⟨by omega, by show (i : Int) < ((L.map DeclD.tv).length : Int); omega, ?_⟩
            conv => whnf
            refine ⟨by show (i : Int).toNat < (L.map DeclD.tv).length; omega, ?_⟩
            intro y hy
            obtain rfl := get_same hy hd
            conv => whnf
            refine ⟨by omega, by omega, by show (i : Int) ≤ ((L.map DeclD.tv).length : Int); omega, by omega, ?_⟩
            conv => whnf
            intro j hj
            have hj : H j = none := hj
            conv => whnf
            have hany : ∀ H, H j = some (.cells [.v (.str d.name), .v (.sl 2 (d.dom.map spanTV))]) → Ret Tryz.prog Ev 18 [.sl 2 (((L.map DeclD.tv).take ((i : Nat) : Int).toNat).drop (0 : Int).toNat), .fn (.func 21) [] [.ptr j 0]] H (.t (.bool ((L.take i).any (fun x => x.name == d.name)))) := by
              intro H hH
              rw [hcut]
              exact c_anyF_decl (fs := []) (cs := [.ptr j 0]) (fun x => x.name == d.name) (L.take i) fun x _ => c_sameName x j _ d.name hH
            refine (hany _ (upd_same _ _ _)).use ?_
            conv => whnf
            cases h6 : (L.take i).any (fun x => x.name == d.name) with
            | true =>
              rw [h6, Bool.true_or] at he
              rw [he, if_pos rfl]
              constructor <;> intro g
              · conv => whnf
                refine ⟨rfl, fun k => ?_⟩
                show H k = none ∨ upd H j _ k = H k
                by_cases e : k = j
                · subst e; exact .inl hj
                · exact .inr (upd_ne _ _ e)
              · cases g
            | false =>
              rw [h6, Bool.false_or] at he
              constructor <;> intro g
              · cases g
              conv => whnf
              refine ⟨i + 1, ⟨by omega, he⟩, by omega, .of ⟨rfl, rfl, rfl, rfl, ?_, trivial⟩ trivial ⟨rfl, trivial⟩ fun k => ?_⟩
              · show SV.t (.int .i64 (IntKind.i64.wrap ((i : Int) + 1))) = _
                rw [wrap_i64 (by omega) (by omega)]; rfl
              · show H k = none ∨ upd H j _ k = H k
                by_cases e : k = j
                · subst e; exact .inl hj
                · exact .inr (upd_ne _ _ e)
          · have hge : L.length ≤ i := by have h5 : decide ((i : Int) < ((L.map DeclD.tv).length : Int)) = false := h5; have := of_decide_eq_false h5; omega
            rw [List.drop_eq_nil_of_le hge, twiceG] at he
            rw [he, if_neg (by simp)]
            conv => whnf
            refine (c_anyF_decl (fs := []) (cs := []) valsM L fun d _ => c_valsBad d).use ?_
            conv => whnf
            cases h6 : L.any valsM with
            | true =>
              constructor <;> intro g
              · conv => whnf
                exact ⟨rfl, fun i => .inr rfl⟩
              · cases g
            | false =>
              rw [if_neg (by simp)]
              constructor <;> intro g
              · cases g
              conv => whnf
              refine (c_mwrong m hf hne).use ?_
              conv => whnf
              cases h7 : wrongM m with
              | true =>
                constructor <;> intro g
                · conv => whnf
                  exact ⟨rfl, fun i => .inr rfl⟩
                · cases g
              | false =>
                constructor <;> intro g
                · cases g
                conv => whnf
                exact ⟨rfl, fun i => .inr rfl⟩
    · have g2 : ((m.blocks.length : Int) == 0) = true := by rw [← hl1]; exact h2
      rw [g2, Bool.true_or, if_pos rfl]
      repeat ((conv => whnf); constructor <;> intro hh <;> cases hh)
      conv => whnf
      exact ⟨rfl, fun i => .inr rfl⟩
end Go.T
set_option linter.unusedVariables false
set_option linter.unusedSimpArgs false
namespace Go.T
open Go.Proofs Go.RowKit
/-! ### Tokens of a text -/
theorem first_text (l : List UInt8) : (first l).2.1.length ≤ l.length := by
  have hp : ∀ p : UInt8 → Bool, (l.takeWhile p).length ≤ l.length := fun p => (List.takeWhile_prefix p).length_le
  unfold first
  split
  · exact hp _
  · split
    · exact hp _
    · split
      · simp; omega
      · split
        · simp; omega
        · simp
theorem dv_nonneg (b : UInt8) : 0 ≤ dv b := by
  unfold dv
  simp [IntKind.wrap, IntKind.signed, IntKind.bits]
  omega
theorem val_nonneg : ∀ (l : List UInt8) (n : Int), 0 ≤ n → 0 ≤ val l n
  | [], n, hn => by simpa [val] using hn
  | b :: l, n, hn => by
    have h2 := dv_nonneg b
    unfold val
    split
    · omega
    · exact val_nonneg l _ (by omega)
theorem first_val (l : List UInt8) : 0 ≤ (first l).2.2 := by
  unfold first
  split
  · simp
  · split
    · exact val_nonneg _ _ (by omega)
    · split
      · simp
      · split <;> simp
/-- What is known of a text's tokens. -/
structure Scanned (l : List UInt8) (ts : List Tk) : Prop where
  len : ts.length ≤ l.length
  text : ∀ t, t ∈ ts → t.text.length ≤ l.length
  val : ∀ t, t ∈ ts → 0 ≤ t.value ∧ t.value ≤ 1099511627776
  pos : ∀ t, t ∈ ts → 0 ≤ t.pos ∧ t.pos < l.length
theorem scanG_toks (l : List UInt8) : ∀ (f i : Nat) (acc : List Tk), i ≤ l.length → acc.length ≤ i → (∀ t, t ∈ acc → t.text.length ≤ l.length ∧ (0 ≤ t.value ∧ t.value ≤ 1099511627776) ∧ 0 ≤ t.pos ∧ t.pos < l.length) → (scanG l f i acc).2.2 = 0 → Scanned l (scanG l f i acc).1
  | 0, i, acc, hi, ha, hb, h => by
    unfold scanG
    exact ⟨by dsimp only; omega, fun t ht => (hb t ht).1, fun t ht => (hb t ht).2.1, fun t ht => (hb t ht).2.2⟩
  | f + 1, i, acc, hi, ha, hb, h => by
    unfold scanG at h ⊢
    by_cases h1 : l.length ≤ i
    · rw [if_pos h1]
      exact ⟨by dsimp only; omega, fun t ht => (hb t ht).1, fun t ht => (hb t ht).2.1, fun t ht => (hb t ht).2.2⟩
    rw [if_neg h1] at h ⊢
    by_cases h2 : blank (l.getD i 0) = true
    · rw [if_pos h2] at h ⊢
      exact scanG_toks l f (i + 1) acc (by omega) (by omega) hb h
    rw [if_neg h2] at h ⊢
    by_cases h3 : ((first (l.drop i)).1 == 0) = true
    · rw [if_pos h3] at h; cases h
    rw [if_neg h3] at h ⊢
    by_cases h4 : (first (l.drop i)).2.2 > 1099511627776
    · rw [if_pos h4] at h; cases h
    rw [if_neg h4] at h ⊢
    have hdl : (l.drop i).length = l.length - i := List.length_drop
    have hl := first_len (l := l.drop i) (by omega) h3
    refine scanG_toks l f _ _ (by omega) (by simp; omega) (fun t ht => ?_) h
    rcases List.mem_append.1 ht with h5 | h5
    · exact hb t h5
    · rw [List.mem_singleton.1 h5]
      have := first_val (l.drop i)
      dsimp only
      omega
theorem scan_toks {l : List UInt8} (h : (scan l).2.2 = 0) : Scanned l (scan l).1 ∧ l.length ≤ 4000 := by
  unfold scan at h ⊢
  by_cases h1 : l.length > 4000
  · rw [if_pos h1] at h; cases h
  · rw [if_neg h1] at h ⊢
    exact ⟨scanG_toks l _ 0 [] (by omega) (by simp) (by simp) h, by omega⟩
theorem Scanned.toks {l : List UInt8} {ts : List Tk} (h : Scanned l ts) (hl : l.length ≤ 4000) : Toks ts := ⟨by have := h.len; omega, fun t ht => by have := h.text t ht; omega, h.val⟩
/-! ### The model of what was parsed -/
def conD (V : List (List UInt8)) (n : Nat) (c : Cn) : ConD := ⟨c.kind, c.vars.map (valOf V n), c.coefs, c.rel, c.const, c.nums⟩
def declD (d : Dc) : DeclD := ⟨d.name, d.dom⟩
def blocksD (V : List (List UInt8)) : Nat → List Bk → List BlockD
  | _, [] => []
  | n, b :: bs => ⟨b.all, b.vars.map declD, b.cons.map (conD V (n + b.vars.length))⟩ :: blocksD V (n + b.vars.length) bs
def namesD (bs : List Bk) : List (List UInt8) := bs.flatMap fun b => b.vars.map Dc.name
def modelD (m : Md) : ModelD := ⟨blocksD (namesD m.blocks) 0 m.blocks, m.goal.map (conD (namesD m.blocks) (namesD m.blocks).length)⟩
def consD : Nat → List Bk → List (Cn × Nat)
  | _, [] => []
  | n, b :: bs => b.cons.map (·, n + b.vars.length) ++ consD (n + b.vars.length) bs
def allCons (m : Md) : List (Cn × Nat) := consD 0 m.blocks ++ m.goal.map (·, (namesD m.blocks).length)
def resolveC (V : List (List UInt8)) : List (Cn × Nat) → Option Nm
  | [] => none
  | q :: U => match badIn V q.2 q.1.vars with
    | some x => some x
    | none => resolveC V U
def resolveM (m : Md) : Option Nm := resolveC (namesD m.blocks) (allCons m)
def noModel : ModelD := ⟨[], []⟩
/-- The model of a text, or where, and why, it is none. -/
def parseM (l : List UInt8) : ModelD × Int × Int :=
  if (scan l).2.2 = 0 then
    match allP (toks (scan l).1) 0 with
    | .error k => (noModel, failAt (scan l).1 k l.length, 2)
    | .ok x => match resolveM x.1 with
      | some n => (noModel, ((scan l).1.getD n.ix ⟨0, [], 0, 0⟩).pos, 7)
      | none => if checkM (modelD x.1) = 0 then (modelD x.1, 0, 0) else (noModel, 0, checkM (modelD x.1))
  else (noModel, (scan l).2.1, (scan l).2.2)
/-! ### With where the arrays stand -/
theorem namesB_eq (bs : List BkX) : namesB bs = namesD (bs.map BkX.b) := by
  induction bs with
  | nil => rfl
  | cons y bs ih => rw [show y :: bs = [y] ++ bs from rfl, namesB_append, namesB_one, ih]; simp [namesD]
theorem uconsB_eq : ∀ (n : Nat) (bs : List BkX), (∀ y, y ∈ bs → y.xs.map Cr.c = y.b.cons) → (uconsB n bs).map (fun q => (q.1.c, q.2)) = consD n (bs.map BkX.b)
  | n, [], _ => rfl
  | n, y :: bs, h => by
    rw [uconsB, List.map_append, uconsB_eq _ bs (fun z hz => h z (by simp [hz])), List.map_cons, consD, ← h y (by simp)]
    simp [Function.comp_def]
theorem resolveU_eq (V : List (List UInt8)) : ∀ (U : List (Cr × Nat)), resolveU V U = resolveC V (U.map (fun q => (q.1.c, q.2)))
  | [] => rfl
  | q :: U => by simp only [resolveU, List.map_cons, resolveC, resolveU_eq V U]; cases badIn V q.2 q.1.c.vars <;> rfl
theorem ucons_all {m : Md} {bs : List BkX} {g : List Cr} (h1 : bs.map BkX.b = m.blocks) (h2 : ∀ y, y ∈ bs → y.xs.map Cr.c = y.b.cons) (h3 : g.map Cr.c = m.goal) : (ucons bs g).map (fun q => (q.1.c, q.2)) = allCons m := by
  rw [ucons, List.map_append, uconsB_eq 0 bs h2, allCons, h1, namesB_eq, h1, ← h3]
  simp [Function.comp_def]
/-- The arrays, as lists of numbers. -/
def frzF (V : List (List UInt8)) (U : List (Cr × Nat)) (r : Nat) : Option (Nat × List TV) := (U.find? fun x => x.1.r == r).map fun x => (1, ints (x.1.c.vars.map (valOf V x.2)))
theorem frzF_at {V : List (List UInt8)} {U : List (Cr × Nat)} (ap : (U.map Prod.fst).Pairwise (fun x y => x.r ≠ y.r)) {x : Cr × Nat} (hx : x ∈ U) : frzF V U x.1.r = some (1, ints (x.1.c.vars.map (valOf V x.2))) := by
  induction U with
  | nil => cases hx
  | cons y U ih =>
    rw [List.map_cons, List.pairwise_cons] at ap
    unfold frzF
    rcases List.mem_cons.1 hx with rfl | hx
    · simp
    · have hne : y.1.r ≠ x.1.r := ap.1 x.1 (List.mem_map.2 ⟨x, hx, rfl⟩)
      rw [List.find?_cons]
      have : (y.1.r == x.1.r) = false := by simpa using hne
      rw [this]
      exact ih ap.2 hx
theorem frzF_mem {V : List (List UInt8)} {U : List (Cr × Nat)} {r : Nat} {p : Nat × List TV} (h : frzF V U r = some p) : ∃ x, x ∈ U ∧ x.1.r = r ∧ p = (1, ints (x.1.c.vars.map (valOf V x.2))) := by
  unfold frzF at h
  rw [Option.map_eq_some_iff] at h
  obtain ⟨x, h1, h2⟩ := h
  have h3 := List.find?_some h1
  exact ⟨x, List.mem_of_find?_eq_some h1, by simpa using h3, h2.symm⟩
theorem part_full (V : List (List UInt8)) (n : Nat) (xs : List Nm) : part V n xs xs.length = ints (xs.map (valOf V n)) := by
  simp [part, zeros, ints]
theorem fr_con {F : Nat → Option (Nat × List TV)} {V : List (List UInt8)} {n : Nat} {x : Cr} (h : F x.r = some (1, ints (x.c.vars.map (valOf V n)))) : Fr F x.tv (conD V n x.c).tv := by
  refine .agg _ _ rfl (FrL.cons (.refl _) (FrL.cons ?_ (FrL.cons (.refl _) (FrL.cons (.refl _) (FrL.cons (.refl _) (FrL.cons (.refl _) .nil)))))).2
  have := Fr.slr (F := F) 1 x.r x.cap _ h
  rw [ints_len, List.length_map] at this
  exact this
theorem fr_cons {F : Nat → Option (Nat × List TV)} {V : List (List UInt8)} {n : Nat} {xs : List Cr} (h : ∀ x, x ∈ xs → F x.r = some (1, ints (x.c.vars.map (valOf V n)))) : FrL F (xs.map Cr.tv) ((xs.map Cr.c).map (fun c => (conD V n c).tv)) := by
  rw [List.map_map]
  exact FrL.map fun x hx => fr_con (h x hx)
theorem fr_blocks {F : Nat → Option (Nat × List TV)} {V : List (List UInt8)} : ∀ (n : Nat) (bs : List BkX), (∀ y, y ∈ bs → y.xs.map Cr.c = y.b.cons) → (∀ q, q ∈ uconsB n bs → F q.1.r = some (1, ints (q.1.c.vars.map (valOf V q.2)))) →
    FrL F (bs.map BkX.tv) ((blocksD V n (bs.map BkX.b)).map BlockD.tv)
  | n, [], _, _ => .nil
  | n, y :: bs, h, hF => by
    rw [List.map_cons, List.map_cons, blocksD, List.map_cons]
    refine FrL.cons ?_ (fr_blocks _ bs (fun z hz => h z (by simp [hz])) fun q hq => hF q (by rw [uconsB]; exact List.mem_append_right _ hq))
    refine .agg _ _ rfl (FrL.cons (.refl _) (FrL.cons ?_ (FrL.cons ?_ .nil))).2
    · rw [List.map_map]; exact .refl _
    · have hc := fr_cons (F := F) (V := V) (n := n + y.b.vars.length) (xs := y.xs) fun x hx => hF (x, _) (by rw [uconsB]; exact List.mem_append_left _ (List.mem_map.2 ⟨x, hx, rfl⟩))
      rw [h y (by simp)] at hc
      rw [List.map_map]
      exact .sl 6 _ _ hc.1 hc.2
end Go.T
set_option linter.unusedVariables false
set_option linter.unusedSimpArgs false
namespace Go.T
open Go.Proofs Go.RowKit
variable {Ev : Env} {H : Nat → Option RObj}
def parseTV (x : ModelD × Int × Int) : RV := .tup [x.1.tv, .int .i64 x.2.1, .int .i64 x.2.2]
/-! ### The size of what is parsed -/
section
variable {l : List Tok}
def DcOk (d : Dc) : Prop := d.dom.length ≤ 5000 ∧ d.name.length ≤ 4000
theorem domG_size : ∀ (f : Nat) {acc : List (Int × Int)} {p : Nat} {x : List (Int × Int) × Nat}, domG l f acc p = .ok x → x.1.length ≤ acc.length + f
  | 0, acc, p, x, h => by simp [domG] at h
  | f + 1, acc, p, x, h => by
    unfold domG at h
    cases h1 : spanP l p with
    | error k => rw [h1] at h; cases h
    | ok y =>
      rw [h1] at h
      dsimp only at h
      split at h
      · have := domG_size f h; simp at this; omega
      · cases h; simp
theorem declP_size (ht : ∀ t, t ∈ l → t.text.length ≤ 4000) {p : Nat} {x : Dc × Nat} (h : declP l p = .ok x) : DcOk x.1 := by
  unfold declP at h
  cases h1 : nameP l p with
  | error k => rw [h1] at h; cases h
  | ok q =>
    rw [h1, ok_bind] at h
    cases h2 : mustP l kIn q with
    | error k => rw [h2] at h; cases h
    | ok q2 =>
      rw [h2, ok_bind] at h
      cases h3 : domG l 5000 [] q2 with
      | error k => rw [h3] at h; cases h
      | ok y =>
        rw [h3, ok_bind] at h; cases h
        have := domG_size _ h3
        refine ⟨by simpa using this, ?_⟩
        unfold textP
        rw [List.getD_eq_getElem?_getD]
        cases hk : l[p]? with
        | none => exact Nat.zero_le _
        | some t => exact ht t (List.mem_of_getElem? hk)
theorem declsG_size (ht : ∀ t, t ∈ l → t.text.length ≤ 4000) : ∀ (f : Nat) {acc : List Dc} {p : Nat} {x : List Dc × Nat}, declsG l f acc p = .ok x → (∀ d, d ∈ acc → DcOk d) → ∀ d, d ∈ x.1 → DcOk d
  | 0, acc, p, x, h, ha => by simp [declsG] at h
  | f + 1, acc, p, x, h, ha => by
    unfold declsG at h
    split at h
    · cases h2 : declP l (p + 1) with
      | error k => rw [h2] at h; cases h
      | ok y =>
        rw [h2] at h
        refine declsG_size ht f h fun d hd => ?_
        rcases List.mem_append.1 hd with h1 | h1
        · exact ha d h1
        · rw [List.mem_singleton.1 h1]; exact declP_size ht h2
    · cases h; exact ha
theorem blockP_size (ht : ∀ t, t ∈ l → t.text.length ≤ 4000) {n p : Nat} {x : Bk × Nat} (h : blockP l n p = .ok x) : ∀ d, d ∈ x.1.vars → DcOk d := by
  unfold blockP at h
  cases h1 : quantP l p with
  | error k => rw [h1] at h; cases h
  | ok a =>
    rw [h1, ok_bind] at h
    dsimp only at h
    cases h2 : declP l a.2 with
    | error k => rw [h2] at h; cases h
    | ok d =>
      rw [h2, ok_bind] at h
      cases h3 : declsG l 5000 [d.1] d.2 with
      | error k => rw [h3] at h; cases h
      | ok ds =>
        rw [h3, ok_bind] at h
        cases h4 : whereP l (n + ds.1.length) ds.2 with
        | error k => rw [h4] at h; cases h
        | ok cs =>
          rw [h4, ok_bind] at h
          cases h5 : mustP l [59] cs.2 with
          | error k => rw [h5] at h; cases h
          | ok q =>
            rw [h5] at h; cases h
            exact declsG_size ht _ h3 fun e he => by rw [List.mem_singleton.1 he]; exact declP_size ht h2
theorem blocksG_size (ht : ∀ t, t ∈ l → t.text.length ≤ 4000) : ∀ (f : Nat) {acc : List Bk} {p : Nat} {x : List Bk × Nat}, blocksG l f acc p = .ok x → (∀ b, b ∈ acc → ∀ d, d ∈ b.vars → DcOk d) → (∀ b, b ∈ x.1 → ∀ d, d ∈ b.vars → DcOk d) ∧ x.1.length ≤ acc.length + f
  | 0, acc, p, x, h, ha => by simp [blocksG] at h
  | f + 1, acc, p, x, h, ha => by
    unfold blocksG at h
    cases h2 : blockP l (uptoB acc) p with
    | error k => rw [h2] at h; cases h
    | ok y =>
      rw [h2] at h
      dsimp only at h
      have hb : ∀ b, b ∈ acc ++ [y.1] → ∀ d, d ∈ b.vars → DcOk d := fun b hb => by
        rcases List.mem_append.1 hb with h1 | h1
        · exact ha b h1
        · rw [List.mem_singleton.1 h1]; exact blockP_size ht h2
      split at h
      · cases h; exact ⟨hb, by simp⟩
      · have h3 := blocksG_size ht f h hb
        exact ⟨h3.1, by have := h3.2; simp at this; omega⟩
theorem allP_size (ht : ∀ t, t ∈ l → t.text.length ≤ 4000) {p : Nat} {x : Md × Nat} (h : allP l p = .ok x) : (∀ b, b ∈ x.1.blocks → ∀ d, d ∈ b.vars → DcOk d) ∧ x.1.blocks.length ≤ 5000 := by
  unfold allP at h
  cases h1 : blocksG l 5000 [] p with
  | error k => rw [h1] at h; cases h
  | ok a =>
    rw [h1, ok_bind] at h
    dsimp only at h
    have h0 := blocksG_size ht _ h1 (fun b hb => by cases hb)
    cases h2 : mustP l kGoal a.2 with
    | error k => rw [h2] at h; cases h
    | ok q =>
      rw [h2, ok_bind] at h
      cases h3 : listP l (uptoB a.1) q with
      | error k => rw [h3] at h; cases h
      | ok g =>
        rw [h3, ok_bind] at h
        cases h4 : mustP l [59] g.2 with
        | error k => rw [h4] at h; cases h
        | ok q2 =>
          rw [h4, ok_bind] at h
          split at h
          · cases h
          · cases h
            exact ⟨h0.1, by simpa using h0.2⟩
end
theorem varsB_eq (V : List (List UInt8)) : ∀ (n : Nat) (bs : List Bk), (blocksD V n bs).flatMap BlockD.vars = bs.flatMap fun b => b.vars.map declD
  | n, [] => rfl
  | n, b :: bs => by rw [blocksD, List.flatMap_cons, List.flatMap_cons, varsB_eq]
theorem blocksD_length (V : List (List UInt8)) : ∀ (n : Nat) (bs : List Bk), (blocksD V n bs).length = bs.length
  | n, [] => rfl
  | n, b :: bs => by rw [blocksD, List.length_cons, List.length_cons, blocksD_length]
theorem varsD_eq (m : Md) : varsM (modelD m) = m.blocks.flatMap fun b => b.vars.map declD := varsB_eq _ _ _
theorem varsD_names (bs : List Bk) : (bs.flatMap fun b => b.vars.map declD).map DeclD.name = namesD bs := by
  rw [namesD, List.map_flatMap]
  congr 1; funext b
  simp [declD]
theorem fits {l : List Tk} (hl : Toks l) {x : Md × Nat} (h : allP (toks l) 0 = .ok x) (hV : (namesD x.1.blocks).length ≤ 4000) : Fits (modelD x.1) := by
  have ht : ∀ t, t ∈ toks l → t.text.length ≤ 4000 := fun t h => by
    unfold toks at h
    obtain ⟨y, hy, rfl⟩ := List.mem_map.1 h
    exact hl.text y hy
  obtain ⟨h1, h2⟩ := allP_size ht h
  have hd : ∀ d, d ∈ varsM (modelD x.1) → d.dom.length ≤ 5000 ∧ d.name.length ≤ 4000 := fun d hd => by
    rw [varsD_eq] at hd
    obtain ⟨b, hb, hd⟩ := List.mem_flatMap.1 hd
    obtain ⟨c, hc, rfl⟩ := List.mem_map.1 hd
    exact h1 b hb c hc
  refine ⟨?_, fun d h => by have := (hd d h).1; omega, fun d h => by have := (hd d h).2; omega, ?_⟩
  · have e := varsD_names x.1.blocks
    rw [← varsD_eq] at e
    have := congrArg List.length e
    rw [List.length_map] at this
    omega
  · show (blocksD _ _ _).length ≤ _
    rw [blocksD_length]; omega
/-! ### What is known of the arrays -/
theorem len_flat {α β : Type} (f : α → List β) : ∀ (l : List α), (∀ x, x ∈ l → 1 ≤ (f x).length) → l.length ≤ (l.flatMap f).length
  | [], _ => Nat.zero_le _
  | x :: l, h => by
    rw [List.flatMap_cons, List.length_append, List.length_cons]
    have := h x (by simp)
    have := len_flat f l fun y hy => h y (by simp [hy])
    omega
structure UK (Hc : Nat → Option RObj) (i : Nat) (U : List (Cr × Nat)) (l : List Tk) (H1 : Nat → Option RObj) : Prop where
  len : U.length ≤ 4000
  uses : (U.flatMap (useOf l)).length ≤ 4000
  at_ : ∀ x, x ∈ U → H1 x.1.r = some (.arr 1 x.1.cap (zeros x.1.c.vars.length))
  apart : (U.map Prod.fst).Pairwise (fun x y => x.r ≠ y.r)
  new : ∀ x, x ∈ U → Hc x.1.r = none
theorem MD.uk {Hc H1 : Nat → Option RObj} {i : Nat} {l : List Tk} {e : Int} {m : Md} {bs : List BkX} {g : List Cr} (md : MD Hc i l e m bs g H1) (hl : l.length ≤ 4000) (hn : (∀ b, b ∈ m.blocks → ∀ c, c ∈ b.cons → Named c) ∧ ∀ c, c ∈ m.goal → Named c) : UK Hc i (ucons bs g) l H1 := by
  have hfst := ucons_fst bs g
  have hmem : ∀ q, q ∈ ucons bs g → q.1 ∈ bs.flatMap BkX.xs ++ g := fun q hq => by rw [← hfst]; exact List.mem_map.2 ⟨q, hq, rfl⟩
  have hN : ∀ x, x ∈ bs.flatMap BkX.xs ++ g → Named x.c := fun x hx => by
    rcases List.mem_append.1 hx with h | h
    · obtain ⟨y, hy, hx⟩ := List.mem_flatMap.1 h
      exact hn.1 y.b (by rw [← md.bk]; exact List.mem_map.2 ⟨y, hy, rfl⟩) x.c (by rw [← md.cs y hy]; exact List.mem_map.2 ⟨x, hx, rfl⟩)
    · exact hn.2 x.c (by rw [← md.gl]; exact List.mem_map.2 ⟨x, h, rfl⟩)
  have hu := md.hu
  rw [uses_eq] at hu
  have h1 := len_flat (useOf l) (ucons bs g) fun q hq => by
    have := hN _ (hmem q hq)
    rw [useOf, List.length_map]; exact this
  refine ⟨by omega, by omega, fun q hq => ?_, ?_, fun q hq => ?_⟩
  · rcases md.ar.at_ _ (hmem q hq) with h | h
    · have : 1 ≤ _ := hN _ (hmem q hq); omega
    · exact h
  · rw [hfst]
    refine md.ar.apart.imp_of_mem fun {a b} ha hb h => ?_
    have h1 : 1 ≤ _ := hN a ha
    have h2 : 1 ≤ _ := hN b hb
    rcases h with h | h | h
    · omega
    · omega
    · exact h
  · rcases md.ar.new _ (hmem q hq) with h | h
    · have : 1 ≤ _ := hN _ (hmem q hq); omega
    · exact h
theorem MD.names {Hc H1 : Nat → Option RObj} {i : Nat} {l : List Tk} {e : Int} {m : Md} {bs : List BkX} {g : List Cr} (md : MD Hc i l e m bs g H1) : namesB bs = namesD m.blocks := by rw [namesB_eq, md.bk]
theorem MD.frz {Hc H1 : Nat → Option RObj} {i : Nat} {l : List Tk} {e : Int} {m : Md} {bs : List BkX} {g : List Cr} (md : MD Hc i l e m bs g H1) (uk : UK Hc i (ucons bs g) l H1) :
    FrL (frzF (namesB bs) (ucons bs g)) (bs.map BkX.tv) ((modelD m).blocks.map BlockD.tv) ∧ FrL (frzF (namesB bs) (ucons bs g)) (g.map Cr.tv) ((modelD m).goal.map ConD.tv) := by
  have hF := fun q hq => frzF_at (V := namesB bs) uk.apart (x := q) hq
  constructor
  · have := fr_blocks (F := frzF (namesB bs) (ucons bs g)) (V := namesB bs) 0 bs md.cs fun q hq => hF q (List.mem_append_left _ hq)
    rw [md.bk, md.names] at this
    rw [md.names]
    exact this
  · have := fr_cons (F := frzF (namesB bs) (ucons bs g)) (V := namesB bs) (n := (namesB bs).length) (xs := g) fun x hx => hF (x, _) (List.mem_append_right _ (List.mem_map.2 ⟨x, hx, rfl⟩))
    rw [md.gl] at this
    rw [modelD]
    dsimp only
    rw [List.map_map, ← md.names]
    exact this
theorem MD.res {Hc H1 : Nat → Option RObj} {i : Nat} {l : List Tk} {e : Int} {m : Md} {bs : List BkX} {g : List Cr} (md : MD Hc i l e m bs g H1) : resolveM m = resolveU (namesB bs) (ucons bs g) := by
  rw [resolveU_eq, ucons_all md.bk md.cs md.gl, md.names]; rfl
def FrCs (F : Nat → Option (Nat × List TV)) (cs cs' : List CV) : Prop := cs'.length = cs.length ∧ ∀ (j : Nat) (c c' : CV), cs[j]? = some c → cs'[j]? = some c' → FrC F c c'
theorem FrCs.nil {F : Nat → Option (Nat × List TV)} : FrCs F [] [] := ⟨rfl, fun j c c' h => by simp at h⟩
theorem FrCs.cons {F : Nat → Option (Nat × List TV)} {c c' : CV} {cs cs' : List CV} (h : FrC F c c') (hs : FrCs F cs cs') : FrCs F (c :: cs) (c' :: cs') := by
  refine ⟨by simp [hs.1], fun k a b h1 h2 => ?_⟩
  cases k with
  | zero => simp at h1 h2; subst h1; subst h2; exact h
  | succ k => exact hs.2 k a b (by simpa using h1) (by simpa using h2)
/-! ### What is answered, case by case -/
section
variable {l : List UInt8}
theorem parse_scan (h : ¬ (scan l).2.2 = 0) : parseM l = (noModel, (scan l).2.1, (scan l).2.2) := by unfold parseM; rw [if_neg h]
theorem parse_form (h : (scan l).2.2 = 0) {k : Nat} (h2 : allP (toks (scan l).1) 0 = .error k) : parseM l = (noModel, failAt (scan l).1 k l.length, 2) := by unfold parseM; rw [if_pos h, h2]
theorem parse_name (h : (scan l).2.2 = 0) {x : Md × Nat} (h2 : allP (toks (scan l).1) 0 = .ok x) {n : Nm} (h3 : resolveM x.1 = some n) : parseM l = (noModel, ((scan l).1.getD n.ix ⟨0, [], 0, 0⟩).pos, 7) := by unfold parseM; rw [if_pos h, h2]; dsimp only; rw [h3]
theorem parse_bad (h : (scan l).2.2 = 0) {x : Md × Nat} (h2 : allP (toks (scan l).1) 0 = .ok x) (h3 : resolveM x.1 = none) (h4 : ¬ checkM (modelD x.1) = 0) : parseM l = (noModel, 0, checkM (modelD x.1)) := by unfold parseM; rw [if_pos h, h2]; dsimp only; rw [h3]; dsimp only; rw [if_neg h4]
theorem parse_ok (h : (scan l).2.2 = 0) {x : Md × Nat} (h2 : allP (toks (scan l).1) 0 = .ok x) (h3 : resolveM x.1 = none) (h4 : checkM (modelD x.1) = 0) : parseM l = (modelD x.1, 0, 0) := by unfold parseM; rw [if_pos h, h2]; dsimp only; rw [h3]; dsimp only; rw [if_pos h4]
end
set_option maxHeartbeats 2000000 in
theorem c_parse (hE : ∀ w, Ev.E w → HasMax w) (hn : ∀ i, H i = none) (l : List UInt8) (hl : l.length ≤ 9000000000000000000) : Ret Tryz.prog Ev 7 [.str l] H (parseTV (parseM l)) := by
  refine Ret.tol ?_
  refine go (at1 1) (stopAt 11) Tryz.func7 rfl (by kernel_rfl) rfl ?_
  conv => whnf
  refine (c_scan hE l hl).use ?_
  conv => whnf
  constructor <;> intro h1
  · have h1' : ¬ (scan l).2.2 = 0 := by simpa using h1
    conv => whnf
    rw [parse_scan h1']
    exact ⟨rfl, fun _ => .inr rfl⟩
  · have h1' : (scan l).2.2 = 0 := by simpa using h1
    obtain ⟨hsc, hl4⟩ := scan_toks h1'
    have hlen := hsc.len
    have htk := hsc.toks hl4
    conv => whnf
    intro i hi
    conv => whnf
    refine ⟨(TCalls.heapLe (HLe.upd (cs := pcells (scan l).1 0 l.length [.nils, .nils, .nils, .nils]) (cs' := pcells (scan l).1 0 l.length [.own 3 [], .own 6 [], .own 1 [], .own 3 []]) (upd_same _ _ _) ⟨.refl _, .refl _, .refl _, .own 3, .own 6, .own 1, .own 3, trivial⟩) (c_prun hE htk (upd_same _ _ _))).mono fun o H1 ho => ?_⟩
    cases hp : allP (toks (scan l).1) 0 with
    | error k =>
      rw [hp] at ho
      have ho : o = _ := ho
      subst ho
      have h0 : 0 ≤ failAt (scan l).1 k l.length := by
        unfold failAt
        cases hk : (scan l).1[k]? with
        | none => dsimp only; omega
        | some t => exact (hsc.pos t (List.mem_of_getElem? hk)).1
      conv => whnf
      constructor <;> intro g1
      · conv => whnf
        rw [parse_form h1' hp]
        exact ⟨rfl, fun y => .inl (hn y)⟩
      · have : ¬ _ := of_decide_eq_false g1
        omega
    | ok x =>
      rw [hp] at ho
      obtain ⟨rfl, bs, g, md⟩ := ho
      conv => whnf
      refine ⟨fun g1 => absurd g1 (by decide), fun _ => ?_⟩
      conv => whnf
      have uk := md.uk htk.len (allP_vars hp)
      have hV : (namesB bs).length ≤ 4000 := by have := md.hV; omega
      refine ⟨(c_resolve (Ev := Ev) i (scan l).1 (scan l).1.length l.length bs g H1 md.hi uk.len uk.uses hV uk.at_ uk.apart).mono fun o2 H2 ho2 => ?_⟩
      cases hr : resolveU (namesB bs) (ucons bs g) with
      | some n =>
        rw [hr] at ho2
        have ho2 : o2 = _ := ho2
        subst ho2
        conv => whnf
        constructor <;> intro g1
        · conv => whnf
          refine ⟨?_, fun y => ?_⟩
          · rw [parse_name h1' hp (md.res.trans hr)]; rfl
          · exact .inl (hn y)
        · have : ¬ _ := of_decide_eq_false g1
          have h5 : 0 ≤ ((scan l).1.getD n.ix ⟨0, [], 0, 0⟩).pos := by
            rw [List.getD_eq_getElem?_getD]
            cases hk : (scan l).1[n.ix]? with
            | none => exact Int.le_refl _
            | some t => exact (hsc.pos t (List.mem_of_getElem? hk)).1
          omega
      | none =>
        rw [hr] at ho2
        obtain ⟨rfl, rs⟩ := ho2
        conv => whnf
        refine ⟨fun g1 => absurd g1 (by decide), fun _ => ?_⟩
        conv => whnf
        have hi0 : H i = none := hi
        have hne : ∀ x, x ∈ ucons bs g → i ≠ x.1.r := fun x hx e => by
          have := uk.new x hx
          rw [← e] at this
          cases ((upd_same _ _ _).symm.trans this)
        have hnew : ∀ k o', k ≠ i → H k = some o' → ∀ x, x ∈ ucons bs g → k ≠ x.1.r := fun k o' hk ho x hx e => by
          have h := uk.new x hx
          rw [← e] at h
          have h2 : H k = none := (upd_ne _ _ hk).symm.trans ((upd_ne _ _ hk).symm.trans h)
          rw [h2] at ho; cases ho
        have hFn : ∀ k, (∀ x, x ∈ ucons bs g → k ≠ x.1.r) → frzF (namesB bs) (ucons bs g) k = none := fun k hk => by
          cases hf : frzF (namesB bs) (ucons bs g) k with
          | none => rfl
          | some p =>
            obtain ⟨x, hx, e, _⟩ := frzF_mem hf
            exact absurd e.symm (hk x hx)
        refine ⟨TWp.freeze (frzF (namesB bs) (ucons bs g)) (H' := upd H i (some (.cells (pcells (scan l).1 (scan l).1.length l.length [.own 3 ((modelD x.1).blocks.map BlockD.tv), .own 6 ((modelD x.1).goal.map ConD.tv), .own 1 ((namesB bs).map .str), .own 3 (usesB (scan l).1 0 bs ++ usesOf (scan l).1 (namesB bs).length g)])))) ?_ ?_ (goOn (at1 1) noStop ?_)⟩
        · intro r sz xs hf
          obtain ⟨y, hy, e, hp⟩ := frzF_mem hf
          obtain ⟨q, hq⟩ := List.getElem?_of_mem hy
          have h1 := rs.at_ q y hq
          have hlt : q < (ucons bs g).length := (List.getElem?_eq_some_iff.1 hq).1
          rw [if_pos hlt, part_full] at h1
          cases hp
          exact ⟨_, by rw [← e]; exact h1⟩
        · intro k o' ho
          by_cases hk : k = i
          · subst hk
            rw [upd_same] at ho
            cases ho
            refine ⟨hFn k hne, .inr ⟨_, _, (rs.fr k hne).trans md.hi, rfl, ?_⟩⟩
            obtain ⟨f1, f2⟩ := md.frz uk
            exact FrCs.cons (.refl _) (FrCs.cons (.refl _) (FrCs.cons (.refl _) (FrCs.cons (.own _ _ _ f1) (FrCs.cons (.own _ _ _ f2) (FrCs.cons (.refl _) (FrCs.cons (.refl _) FrCs.nil))))))
          · rw [upd_ne _ _ hk] at ho
            have h2 := hnew k o' hk ho
            have h3 : (upd (upd H i (some (.cells []))) i (some (.cells []))) k = some o' := by rw [upd_ne _ _ hk, upd_ne _ _ hk]; exact ho
            refine ⟨hFn k h2, .inl ((rs.fr k h2).trans ((md.fr k hk ?_).trans ?_))⟩
            · intro h4
              have h4 : H k = none := (upd_ne _ _ hk).symm.trans ((upd_ne _ _ hk).symm.trans h4)
              rw [h4] at ho; cases ho
            · exact (upd_ne _ _ hk).trans ((upd_ne _ _ hk).trans ho)
        · conv => whnf
          refine ⟨_, upd_same _ _ _, ?_⟩
          conv => whnf
          refine (c_check hE (modelD x.1) (fits htk hp (by rw [← md.names]; exact hV))).use ?_
          conv => whnf
          constructor <;> intro g1
          · have g2 : ¬ checkM (modelD x.1) = 0 := by simpa using g1
            conv => whnf
            rw [parse_bad h1' hp (md.res.trans hr) g2]
            exact ⟨rfl, fun y => .inl (hn y)⟩
          · have g2 : checkM (modelD x.1) = 0 := by simpa using g1
            conv => whnf
            rw [parse_ok h1' hp (md.res.trans hr) g2]
            refine ⟨_, upd_same _ _ _, ?_⟩
            conv => whnf
            exact ⟨rfl, fun y => .inl (hn y)⟩
end Go.T
