/-
  Whether models are the same.
  What is parsed: the laws of ParseMay; some texts.
  The law's own look at what is fixed; ParseMay.
-/
import Derived.Test.YtggflojpgncjlaaGreatDoorPd
import Derived.Laws.StructEq
import Derived.Below
set_option linter.unusedVariables false
set_option linter.unusedSimpArgs false
set_option linter.unusedSectionVars false
set_option linter.unusedVariables false
set_option linter.unusedSimpArgs false
namespace Go.T
open Go.Proofs Go.RowKit
variable {Ev : Env} {H : Nat → Option RObj}
/-! ### Lists, one by one -/
section
variable {α : Type} {a b : List α} {i : Nat}
theorem same_end (hl : a.length = b.length) (hi : a.length ≤ i) (h : a.take i = b.take i) : a = b := by
  rwa [List.take_of_length_le hi, List.take_of_length_le (by omega)] at h
theorem same_next {x : α} (ha : a[i]? = some x) (hb : b[i]? = some x) (h : a.take i = b.take i) : a.take (i + 1) = b.take (i + 1) := by
  rw [take_succ_get ha, take_succ_get hb, h]
theorem same_ne {x y : α} (ha : a[i]? = some x) (hb : b[i]? = some y) (h : x ≠ y) : a ≠ b := fun e => by
  subst e; rw [ha] at hb; exact h (Option.some.inj hb)
end
/-! ### Spans -/
theorem flds41 : Tryz.prog.fieldsOf 41 = #[{ name := "Low", type := 3, offset := 0, embedded := false, tag := "", pkgPath := "", byteOffset := 0 }, { name := "High", type := 3, offset := 1, embedded := false, tag := "", pkgPath := "", byteOffset := 8 }] := by kernel_rfl
theorem und41 : Tryz.prog.underlying 41 = some (.struct (Tryz.prog.fieldsOf 41)) := by kernel_rfl
theorem und3 : Tryz.prog.underlying 3 = some (.int .i64) := by kernel_rfl
theorem held41 : Tryz.prog.stoodInHeld 41 = false := by kernel_rfl
theorem eq_span (a b c d : Int) : EqAgg Tryz.prog 41 [.int .i64 a, .int .i64 b] [.int .i64 c, .int .i64 d] (a == c && b == d) := by
  refine ⟨by kernel_rfl, fun g w vx vy hx hy w1 => ?_⟩
  have key : ∀ {p q : Int} {v : Value}, g.VV w (.agg [.int .i64 p, .int .i64 q]) v → v = .agg #[.int .i64 p, .int .i64 q] := by
    intro p q v h
    cases h with
    | agg _ vs hl h1 hv =>
      have hl : vs.size = 2 := hl
      have e0 := VV.int_inv (hv 0 _ (vs[0]'(by omega)) rfl (by simp))
      have e1 := VV.int_inv (hv 1 _ (vs[1]'(by omega)) rfl (by simp))
      congr 1
      apply Array.ext
      · exact hl
      · intro i h1 h2
        match i, h1, h2 with
        | 0, _, _ => exact e0
        | 1, _, _ => exact e1
        | i + 2, h1, h2 => omega
  rw [key hx, key hy]
  show (Op.equalIn (9998 + 1 + 1) 41 _ _).run _ _ = _
  have hp : ∀ (xs : Array Value) (off : Nat) (v : Value) (w : World), xs[off]? = some v → (_root_.Go.part 3 xs off).run Tryz.prog w = .ok v w := fun xs off v w h => by
    simp [_root_.Go.part, isAgg, run_underlying und3, h]
  have hq : ∀ (p q : Int) (w : World), (Op.equalIn (9998 + 1) 3 (.int .i64 p) (.int .i64 q)).run Tryz.prog w = .ok (p == q) w := fun p q w => run_equalIn_int w _ _ _ .i64 _ _ und3
  rw [run_equalIn_struct _ _ _ _ _ und41 held41, flds41]
  simp only [Op.eqFields, ne_eq, Sem.run_bind]
  rw [if_pos (by decide), if_pos (by decide)]
  simp only [Sem.run_bind, hp #[.int .i64 a, .int .i64 b] 0 (.int .i64 a) _ rfl, hp #[.int .i64 c, .int .i64 d] 0 (.int .i64 c) _ rfl, Result.andThen_ok, hq]
  cases h : a == c
  · simp
  · simp only [Bool.not_true, Bool.false_eq_true, if_false, Sem.run_bind, hp #[.int .i64 a, .int .i64 b] 1 (.int .i64 b) _ rfl, hp #[.int .i64 c, .int .i64 d] 1 (.int .i64 d) _ rfl, Result.andThen_ok, hq]
    cases h2 : b == d
    · simp
    · simp
theorem get_ints {l : List Int} {i : Nat} {y : TV} {u : Int} (h : (ints l)[(i : Int).toNat]? = some y) (hu : l[i]? = some u) : y = .int .i64 u := by
  simp [ints, hu] at h; exact h.symm
theorem get_map2 {α : Type} {f : α → TV} {l : List α} {i : Nat} {y : TV} {u : α} (h : (l.map f)[(i : Int).toNat]? = some y) (hu : l[i]? = some u) : y = f u := by
  simp [hu] at h; exact h.symm
theorem c_sameI (a b : List Int) : Ret Tryz.prog Ev 49 [.sl 1 (ints a), .sl 1 (ints b)] H (.t (.bool (decide (a = b)))) := by
  refine go noStop noStop Tryz.func49 rfl (by kernel_rfl) rfl ?_
  have hla : (ints a).length = a.length := by simp [ints]
  have hlb : (ints b).length = b.length := by simp [ints]
  conv => whnf
  intro hm1
  conv => whnf
  intro hm2
  conv => whnf
  rw [hla] at hm1
  constructor <;> intro h0
  · have h0' : ¬ a.length = b.length := fun e => by
      have : (((ints a).length : Int) != ((ints b).length : Int)) = true := h0
      simp [hla, hlb, e] at this
    conv => whnf
    refine ⟨?_, rfl⟩
    rw [decide_eq_false fun e => h0' (congrArg List.length e)]
  · have h0' : a.length = b.length := by
      have : (((ints a).length : Int) != ((ints b).length : Int)) = false := h0
      simp [hla, hlb] at this
      omega
    conv => whnf
    refine goLoop noStop noStop (fun i : Nat => .of [(0, .t (.sl 1 (ints a))), (1, .t (.sl 1 (ints b))), (5, .t (.int .i64 (i : Nat)))] [] [] H)
      (fun i => i ≤ a.length ∧ a.take i = b.take i) (fun i => a.length - i) 0 ⟨by simp, by simp⟩ (.of ⟨rfl, rfl, rfl, trivial⟩ trivial trivial (fun _ => .inr rfl)) ?_
    rintro i ⟨hi, he⟩
    conv => whnf
    intro hm3
    conv => whnf
    constructor <;> intro h1
    · have hlt : i < a.length := by have h1 : decide ((i : Int) < ((ints a).length : Int)) = true := h1; have := of_decide_eq_true h1; omega
      obtain ⟨u, hu⟩ : ∃ u, a[i]? = some u := ⟨_, List.getElem?_eq_getElem hlt⟩
      obtain ⟨v, hv⟩ : ∃ v, b[i]? = some v := ⟨_, List.getElem?_eq_getElem (by omega)⟩
      conv => whnf
      refine goDraw noStop [0, 1, 2, 3, 4, 5, 6, 7, 8] (.first 0 false (.first 1 false (.first 2 false (.first 3 false (.first 4 false (.first 5 false (.first 6 false (.first 7 false (.first 8 false .fin))))))))) (by kernel_rfl) (by kernel_rfl) ?_
      conv => whnf
      refine ⟨by omega, by show (i : Int) < ((ints a).length : Int); omega, ?_⟩
      intro y hy
      obtain rfl := get_ints hy hu
      conv => whnf
      refine ⟨by omega, by show (i : Int) < ((ints b).length : Int); omega, ?_⟩
      intro z hz
      obtain rfl := get_ints hz hv
      conv => whnf
      constructor <;> intro h2
      · have h2' : u ≠ v := by simpa using h2
        conv => whnf
        refine ⟨?_, rfl⟩
        rw [decide_eq_false (same_ne hu hv h2')]
      · have h2' : u = v := by simpa using h2
        subst h2'
        conv => whnf
        refine ⟨i + 1, ⟨by omega, same_next hu hv he⟩, by omega, .of ⟨rfl, rfl, ?_, trivial⟩ trivial trivial (fun _ => .inr rfl)⟩
        show SV.t (.int .i64 (IntKind.i64.wrap ((i : Int) + 1))) = _
        rw [wrap_i64 (by omega) (by omega)]; rfl
    · have hge : a.length ≤ i := by have h1 : decide ((i : Int) < ((ints a).length : Int)) = false := h1; have := of_decide_eq_false h1; omega
      conv => whnf
      refine ⟨?_, rfl⟩
      rw [decide_eq_true (same_end h0' hge he)]
theorem c_sameS (a b : List (Int × Int)) : Ret Tryz.prog Ev 48 [.sl 2 (a.map spanTV), .sl 2 (b.map spanTV)] H (.t (.bool (decide (a = b)))) := by
  refine go noStop noStop Tryz.func48 rfl (by kernel_rfl) rfl ?_
  have hla : (a.map spanTV).length = a.length := by simp
  have hlb : (b.map spanTV).length = b.length := by simp
  conv => whnf
  intro hm1
  conv => whnf
  intro hm2
  conv => whnf
  rw [hla] at hm1
  constructor <;> intro h0
  · have h0' : ¬ a.length = b.length := fun e => by
      have : (((a.map spanTV).length : Int) != ((b.map spanTV).length : Int)) = true := h0
      simp [hla, hlb, e] at this
    conv => whnf
    refine ⟨?_, rfl⟩
    rw [decide_eq_false fun e => h0' (congrArg List.length e)]
  · have h0' : a.length = b.length := by
      have : (((a.map spanTV).length : Int) != ((b.map spanTV).length : Int)) = false := h0
      simp [hla, hlb] at this
      omega
    conv => whnf
    refine goLoop noStop noStop (fun i : Nat => .of [(0, .t (.sl 2 (a.map spanTV))), (1, .t (.sl 2 (b.map spanTV))), (5, .t (.int .i64 (i : Nat)))] [] [] H)
      (fun i => i ≤ a.length ∧ a.take i = b.take i) (fun i => a.length - i) 0 ⟨by simp, by simp⟩ (.of ⟨rfl, rfl, rfl, trivial⟩ trivial trivial (fun _ => .inr rfl)) ?_
    rintro i ⟨hi, he⟩
    conv => whnf
    intro hm3
    conv => whnf
    constructor <;> intro h1
    · have hlt : i < a.length := by have h1 : decide ((i : Int) < ((a.map spanTV).length : Int)) = true := h1; have := of_decide_eq_true h1; omega
      obtain ⟨u, hu⟩ : ∃ u, a[i]? = some u := ⟨_, List.getElem?_eq_getElem hlt⟩
      obtain ⟨v, hv⟩ : ∃ v, b[i]? = some v := ⟨_, List.getElem?_eq_getElem (by omega)⟩
      have ga : ∀ y, (a.map spanTV)[(i : Int).toNat]? = some y → y = _ := fun y hy => get_map2 hy hu
      have gb : ∀ y, (b.map spanTV)[(i : Int).toNat]? = some y → y = _ := fun y hy => get_map2 hy hv
      have ba : (0 : Int) ≤ i ∧ (i : Int) < ((a.map spanTV).length : Int) := ⟨by omega, by omega⟩
      have bb : (0 : Int) ≤ i ∧ (i : Int) < ((b.map spanTV).length : Int) := ⟨by omega, by omega⟩
      conv => whnf
      refine goDraw noStop [0, 1, 2, 3, 4, 5, 6, 7, 8] (.first 0 false (.first 1 false (.first 2 false (.first 3 false (.first 4 false (.first 5 false (.first 6 false (.first 7 false (.first 8 false .fin))))))))) (by kernel_rfl) (by kernel_rfl) ?_
      conv => whnf
      refine ⟨ba.1, ba.2, fun y hy => ?_⟩
      obtain rfl := ga y hy
      conv => whnf
      refine ⟨bb.1, bb.2, fun z hz => ?_⟩
      obtain rfl := gb z hz
      conv => whnf
      refine ⟨_, eq_span _ _ _ _, ?_⟩
      conv => whnf
      constructor <;> intro h2
      · have h2' : u ≠ v := by
          rintro rfl
          simp at h2
        conv => whnf
        refine ⟨?_, rfl⟩
        rw [decide_eq_false (same_ne hu hv h2')]
      · have h2' : u = v := by
          obtain ⟨u1, u2⟩ := u
          obtain ⟨v1, v2⟩ := v
          simpa using h2
        subst h2'
        conv => whnf
        refine ⟨i + 1, ⟨by omega, same_next hu hv he⟩, by omega, .of ⟨rfl, rfl, ?_, trivial⟩ trivial trivial (fun _ => .inr rfl)⟩
        show SV.t (.int .i64 (IntKind.i64.wrap ((i : Int) + 1))) = _
        rw [wrap_i64 (by omega) (by omega)]; rfl
    · have hge : a.length ≤ i := by have h1 : decide ((i : Int) < ((a.map spanTV).length : Int)) = false := h1; have := of_decide_eq_false h1; omega
      conv => whnf
      refine ⟨?_, rfl⟩
      rw [decide_eq_true (same_end h0' hge he)]
theorem c_decls (a b : List DeclD) : Ret Tryz.prog Ev 29 [.sl 2 (a.map DeclD.tv), .sl 2 (b.map DeclD.tv)] H (.t (.bool (decide (a = b)))) := by
  refine go noStop noStop Tryz.func29 rfl (by kernel_rfl) rfl ?_
  have hla : (a.map DeclD.tv).length = a.length := by simp
  have hlb : (b.map DeclD.tv).length = b.length := by simp
  conv => whnf
  intro hm1
  conv => whnf
  intro hm2
  conv => whnf
  rw [hla] at hm1
  constructor <;> intro h0
  · have h0' : ¬ a.length = b.length := fun e => by
      have : (((a.map DeclD.tv).length : Int) != ((b.map DeclD.tv).length : Int)) = true := h0
      simp [hla, hlb, e] at this
    conv => whnf
    refine ⟨?_, rfl⟩
    rw [decide_eq_false fun e => h0' (congrArg List.length e)]
  · have h0' : a.length = b.length := by
      have : (((a.map DeclD.tv).length : Int) != ((b.map DeclD.tv).length : Int)) = false := h0
      simp [hla, hlb] at this
      omega
    conv => whnf
    refine goLoop noStop noStop (fun i : Nat => .of [(0, .t (.sl 2 (a.map DeclD.tv))), (1, .t (.sl 2 (b.map DeclD.tv))), (5, .t (.int .i64 (i : Nat)))] [] [] H)
      (fun i => i ≤ a.length ∧ a.take i = b.take i) (fun i => a.length - i) 0 ⟨by simp, by simp⟩ (.of ⟨rfl, rfl, rfl, trivial⟩ trivial trivial (fun _ => .inr rfl)) ?_
    rintro i ⟨hi, he⟩
    conv => whnf
    intro hm3
    conv => whnf
    constructor <;> intro h1
    · have hlt : i < a.length := by have h1 : decide ((i : Int) < ((a.map DeclD.tv).length : Int)) = true := h1; have := of_decide_eq_true h1; omega
      obtain ⟨u, hu⟩ : ∃ u, a[i]? = some u := ⟨_, List.getElem?_eq_getElem hlt⟩
      obtain ⟨v, hv⟩ : ∃ v, b[i]? = some v := ⟨_, List.getElem?_eq_getElem (by omega)⟩
      have ga : ∀ y, (a.map DeclD.tv)[(i : Int).toNat]? = some y → y = _ := fun y hy => get_map2 hy hu
      have gb : ∀ y, (b.map DeclD.tv)[(i : Int).toNat]? = some y → y = _ := fun y hy => get_map2 hy hv
      have ba : (0 : Int) ≤ i ∧ (i : Int) < ((a.map DeclD.tv).length : Int) := ⟨by omega, by omega⟩
      have bb : (0 : Int) ≤ i ∧ (i : Int) < ((b.map DeclD.tv).length : Int) := ⟨by omega, by omega⟩
      conv => whnf
      refine goDraw noStop [0, 1, 2, 3, 4, 5, 6, 7, 8, 9, 10, 11, 12, 13, 14, 15, 16, 17, 18, 19, 20, 21, 23, 24] (.first 0 false (.first 1 false (.first 2 false (.first 3 false (.first 4 false (.first 5 false (.first 6 false (.first 7 false (.first 8 false (.first 9 false (.first 10 false (.first 11 false (.first 12 false (.first 13 false (.first 14 false (.first 15 false (.first 16 false (.first 17 false (.first 18 false (.first 19 false (.first 20 false (.first 21 false (.alt 22 (.first 23 false (.first 24 false .fin)) .noalt))))))))))))))))))))))) (by kernel_rfl) (by kernel_rfl) ?_
      conv => whnf
      refine ⟨ba.1, ba.2, fun y hy => ?_⟩
      obtain rfl := ga y hy
      conv => whnf
      refine ⟨bb.1, bb.2, fun z hz => ?_⟩
      obtain rfl := gb z hz
      conv => whnf
      constructor <;> intro h2
      · conv => whnf
        refine ⟨ba.1, ba.2, fun y hy => ?_⟩
        obtain rfl := ga y hy
        conv => whnf
        refine ⟨bb.1, bb.2, fun z hz => ?_⟩
        obtain rfl := gb z hz
        conv => whnf
        refine ⟨?_, trivial⟩
        conv => whnf
        refine (c_sameS u.dom v.dom).use ?_
        conv => whnf
        have h2' : u.name = v.name := by simpa using h2
        constructor <;> intro h3
        · have h3' : u ≠ v := by
            rintro rfl
            simp at h3
          conv => whnf
          refine ⟨?_, rfl⟩
          rw [decide_eq_false (same_ne hu hv h3')]
        · have h3' : u = v := by
            obtain ⟨u1, u2⟩ := u
            obtain ⟨v1, v2⟩ := v
            have : u1 = v1 := h2'
            have : u2 = v2 := by simpa using h3
            simp [*]
          subst h3'
          conv => whnf
          refine ⟨i + 1, ⟨by omega, same_next hu hv he⟩, by omega, .of ⟨rfl, rfl, ?_, trivial⟩ trivial trivial (fun _ => .inr rfl)⟩
          show SV.t (.int .i64 (IntKind.i64.wrap ((i : Int) + 1))) = _
          rw [wrap_i64 (by omega) (by omega)]; rfl
      · refine ⟨?_, trivial⟩
        conv => whnf
        have h2' : u ≠ v := by
          rintro rfl
          simp at h2
        refine ⟨fun _ => ?_, fun h => absurd h (by decide)⟩
        conv => whnf
        refine ⟨?_, rfl⟩
        rw [decide_eq_false (same_ne hu hv h2')]
    · have hge : a.length ≤ i := by have h1 : decide ((i : Int) < ((a.map DeclD.tv).length : Int)) = false := h1; have := of_decide_eq_false h1; omega
      conv => whnf
      refine ⟨?_, rfl⟩
      rw [decide_eq_true (same_end h0' hge he)]
theorem c_alike (a b : List ConD) : Ret Tryz.prog Ev 30 [.sl 6 (a.map ConD.tv), .sl 6 (b.map ConD.tv)] H (.t (.bool (decide (a = b)))) := by
  refine go (fun d => Nat.beq d 6 || Nat.beq d 7) noStop Tryz.func30 rfl (by kernel_rfl) rfl ?_
  have hla : (a.map ConD.tv).length = a.length := by simp
  have hlb : (b.map ConD.tv).length = b.length := by simp
  conv => whnf
  intro hm1
  conv => whnf
  intro hm2
  conv => whnf
  rw [hla] at hm1
  constructor <;> intro h0
  · have h0' : ¬ a.length = b.length := fun e => by
      have : (((a.map ConD.tv).length : Int) != ((b.map ConD.tv).length : Int)) = true := h0
      simp [hla, hlb, e] at this
    conv => whnf
    refine ⟨?_, rfl⟩
    rw [decide_eq_false fun e => h0' (congrArg List.length e)]
  · have h0' : a.length = b.length := by
      have : (((a.map ConD.tv).length : Int) != ((b.map ConD.tv).length : Int)) = false := h0
      simp [hla, hlb] at this
      omega
    conv => whnf
    refine goLoop (fun d => Nat.beq d 6 || Nat.beq d 7) noStop (fun i : Nat => .of [(0, .t (.sl 6 (a.map ConD.tv))), (1, .t (.sl 6 (b.map ConD.tv))), (5, .t (.int .i64 (i : Nat)))] [] [] H)
      (fun i => i ≤ a.length ∧ a.take i = b.take i) (fun i => a.length - i) 0 ⟨by simp, by simp⟩ (.of ⟨rfl, rfl, rfl, trivial⟩ trivial trivial (fun _ => .inr rfl)) ?_
    rintro i ⟨hi, he⟩
    conv => whnf
    intro hm3
    conv => whnf
    constructor <;> intro h1
    · have hlt : i < a.length := by have h1 : decide ((i : Int) < ((a.map ConD.tv).length : Int)) = true := h1; have := of_decide_eq_true h1; omega
      obtain ⟨u, hu⟩ : ∃ u, a[i]? = some u := ⟨_, List.getElem?_eq_getElem hlt⟩
      obtain ⟨v, hv⟩ : ∃ v, b[i]? = some v := ⟨_, List.getElem?_eq_getElem (by omega)⟩
      have ga : ∀ y, (a.map ConD.tv)[(i : Int).toNat]? = some y → y = _ := fun y hy => get_map2 hy hu
      have gb : ∀ y, (b.map ConD.tv)[(i : Int).toNat]? = some y → y = _ := fun y hy => get_map2 hy hv
      have ba : (0 : Int) ≤ i ∧ (i : Int) < ((a.map ConD.tv).length : Int) := ⟨by omega, by omega⟩
      have bb : (0 : Int) ≤ i ∧ (i : Int) < ((b.map ConD.tv).length : Int) := ⟨by omega, by omega⟩
      conv => whnf
      refine ⟨ba.1, ba.2, fun y hy => ?_⟩
      obtain rfl := ga y hy
      conv => whnf
      refine ⟨bb.1, bb.2, fun z hz => ?_⟩
      obtain rfl := gb z hz
      conv => whnf
      constructor <;> intro t0
      rotate_left
      · have h' : u ≠ v := by
          rintro rfl
          simp at t0
        repeat ((conv => whnf); constructor <;> intro hh <;> cases hh)
        refine ⟨?_, rfl⟩
        rw [decide_eq_false (same_ne hu hv h')]
      conv => whnf
      constructor <;> intro t1
      rotate_left
      · have h' : u ≠ v := by
          rintro rfl
          simp at t1
        repeat ((conv => whnf); constructor <;> intro hh <;> cases hh)
        refine ⟨?_, rfl⟩
        rw [decide_eq_false (same_ne hu hv h')]
      conv => whnf
      constructor <;> intro t2
      rotate_left
      · have h' : u ≠ v := by
          rintro rfl
          simp at t2
        repeat ((conv => whnf); constructor <;> intro hh <;> cases hh)
        refine ⟨?_, rfl⟩
        rw [decide_eq_false (same_ne hu hv h')]
      conv => whnf
      refine (c_sameI u.vars v.vars).use ?_
      conv => whnf
      constructor <;> intro t3
      rotate_left
      · have h' : u ≠ v := by
          rintro rfl
          simp at t3
        repeat ((conv => whnf); constructor <;> intro hh <;> cases hh)
        refine ⟨?_, rfl⟩
        rw [decide_eq_false (same_ne hu hv h')]
      conv => whnf
      refine (c_sameI u.coefs v.coefs).use ?_
      conv => whnf
      constructor <;> intro t4
      rotate_left
      · have h' : u ≠ v := by
          rintro rfl
          simp at t4
        repeat ((conv => whnf); constructor <;> intro hh <;> cases hh)
        refine ⟨?_, rfl⟩
        rw [decide_eq_false (same_ne hu hv h')]
      conv => whnf
      refine (c_sameI u.nums v.nums).use ?_
      conv => whnf
      constructor <;> intro t5
      · have h' : u ≠ v := by
          rintro rfl
          simp at t5
        repeat ((conv => whnf); constructor <;> intro hh <;> cases hh)
        refine ⟨?_, rfl⟩
        rw [decide_eq_false (same_ne hu hv h')]
      have h' : u = v := by
        obtain ⟨u1, u2, u3, u4, u5, u6⟩ := u
        obtain ⟨v1, v2, v3, v4, v5, v6⟩ := v
        simp_all
      subst h'
      conv => whnf
      refine ⟨i + 1, ⟨by omega, same_next hu hv he⟩, by omega, .of ⟨rfl, rfl, ?_, trivial⟩ trivial trivial (fun _ => .inr rfl)⟩
      show SV.t (.int .i64 (IntKind.i64.wrap ((i : Int) + 1))) = _
      rw [wrap_i64 (by omega) (by omega)]; rfl
    · have hge : a.length ≤ i := by have h1 : decide ((i : Int) < ((a.map ConD.tv).length : Int)) = false := h1; have := of_decide_eq_false h1; omega
      conv => whnf
      refine ⟨?_, rfl⟩
      rw [decide_eq_true (same_end h0' hge he)]
theorem same_blocks {m n : ModelD} (h : m.blocks = n.blocks) : decide (m = n) = decide (m.goal = n.goal) := by
  obtain ⟨m1, m2⟩ := m
  obtain ⟨n1, n2⟩ := n
  have h : m1 = n1 := h
  subst h
  simp
theorem c_same (m n : ModelD) : Ret Tryz.prog Ev 10 [m.tv, n.tv] H (.t (.bool (decide (m = n)))) := by
  refine go (fun d => Nat.beq d 2 || Nat.beq d 3) noStop Tryz.func10 rfl (by kernel_rfl) rfl ?_
  have hla : (m.blocks.map BlockD.tv).length = m.blocks.length := by simp
  have hlb : (n.blocks.map BlockD.tv).length = n.blocks.length := by simp
  conv => whnf
  intro hm1
  conv => whnf
  intro hm2
  conv => whnf
  rw [hla] at hm1
  constructor <;> intro h0
  · have h0' : ¬ m.blocks.length = n.blocks.length := fun e => by
      have : (((m.blocks.map BlockD.tv).length : Int) != ((n.blocks.map BlockD.tv).length : Int)) = true := h0
      simp [e] at this
    conv => whnf
    refine ⟨?_, rfl⟩
    rw [decide_eq_false fun e => h0' (by rw [e])]
  · have h0' : m.blocks.length = n.blocks.length := by
      have : (((m.blocks.map BlockD.tv).length : Int) != ((n.blocks.map BlockD.tv).length : Int)) = false := h0
      simp at this
      omega
    conv => whnf
    refine goLoop (fun d => Nat.beq d 2 || Nat.beq d 3) noStop (fun i : Nat => .of [(2, .ea m.tv.cells), (3, .ea n.tv.cells), (5, .t (.int .i64 (i : Nat)))] [] [] H)
      (fun i => i ≤ m.blocks.length ∧ m.blocks.take i = n.blocks.take i) (fun i => m.blocks.length - i) 0 ⟨by simp, by simp⟩ (.of ⟨rfl, rfl, rfl, trivial⟩ trivial trivial (fun _ => .inr rfl)) ?_
    rintro i ⟨hi, he⟩
    conv => whnf
    intro hm3
    conv => whnf
    constructor <;> intro h1
    · have hlt : i < m.blocks.length := by have h1 : decide ((i : Int) < ((m.blocks.map BlockD.tv).length : Int)) = true := h1; have := of_decide_eq_true h1; omega
      obtain ⟨u, hu⟩ : ∃ u, m.blocks[i]? = some u := ⟨_, List.getElem?_eq_getElem hlt⟩
      obtain ⟨v, hv⟩ : ∃ v, n.blocks[i]? = some v := ⟨_, List.getElem?_eq_getElem (by omega)⟩
      have ga : ∀ y, (m.blocks.map BlockD.tv)[(i : Int).toNat]? = some y → y = _ := fun y hy => get_map2 hy hu
      have gb : ∀ y, (n.blocks.map BlockD.tv)[(i : Int).toNat]? = some y → y = _ := fun y hy => get_map2 hy hv
      have ba : (0 : Int) ≤ i ∧ (i : Int) < ((m.blocks.map BlockD.tv).length : Int) := ⟨by omega, by omega⟩
      have bb : (0 : Int) ≤ i ∧ (i : Int) < ((n.blocks.map BlockD.tv).length : Int) := ⟨by omega, by omega⟩
      have hne : u ≠ v → decide (m = n) = false := fun h => decide_eq_false fun e => same_ne hu hv h (by rw [e])
      conv => whnf
      refine goDraw (fun d => Nat.beq d 2 || Nat.beq d 3) [0, 1, 2, 3, 4, 5, 6, 7, 8, 9, 10, 11, 12, 13, 14, 15, 16, 17, 18, 19, 20, 21, 22, 23, 24, 25, 27, 28, 29, 30, 31, 32, 33, 34, 35, 36, 37, 38, 39, 40, 41, 43, 44] (.first 0 false (.first 1 false (.first 2 false (.first 3 false (.first 4 false (.first 5 false (.first 6 false (.first 7 false (.first 8 false (.first 9 false (.first 10 false (.first 11 false (.first 12 false (.first 13 false (.first 14 false (.first 15 false (.first 16 false (.first 17 false (.first 18 false (.first 19 false (.first 20 false (.first 21 false (.first 22 false (.first 23 false (.first 24 false (.first 25 false (.alt 26 (.first 27 false (.first 28 false (.first 29 false (.first 30 false (.first 31 false (.first 32 false (.first 33 false (.first 34 false (.first 35 false (.first 36 false (.first 37 false (.first 38 false (.first 39 false (.first 40 false (.first 41 false (.alt 42 (.first 43 false (.first 44 false .fin)) .noalt)))))))))))))))) .noalt))))))))))))))))))))))))))) (by kernel_rfl) (by kernel_rfl) ?_
      conv => whnf
      refine ⟨ba.1, ba.2, fun y hy => ?_⟩
      obtain rfl := ga y hy
      conv => whnf
      refine ⟨bb.1, bb.2, fun z hz => ?_⟩
      obtain rfl := gb z hz
      conv => whnf
      constructor <;> intro t0
      rotate_left
      · have h' : u ≠ v := by
          rintro rfl
          simp at t0
        repeat ((conv => whnf); constructor <;> intro hh <;> cases hh)
        refine ⟨?_, trivial⟩
        repeat ((conv => whnf); constructor <;> intro hh <;> cases hh)
        refine ⟨?_, trivial⟩
        repeat ((conv => whnf); constructor <;> intro hh <;> cases hh)
        refine ⟨?_, rfl⟩
        rw [hne h']
      conv => whnf
      refine ⟨ba.1, ba.2, fun y hy => ?_⟩
      obtain rfl := ga y hy
      conv => whnf
      refine ⟨bb.1, bb.2, fun z hz => ?_⟩
      obtain rfl := gb z hz
      conv => whnf
      refine ⟨?_, trivial⟩
      conv => whnf
      refine (c_decls u.vars v.vars).use ?_
      conv => whnf
      constructor <;> intro t1
      rotate_left
      · have h' : u ≠ v := by
          rintro rfl
          simp at t1
        repeat ((conv => whnf); constructor <;> intro hh <;> cases hh)
        refine ⟨?_, trivial⟩
        repeat ((conv => whnf); constructor <;> intro hh <;> cases hh)
        refine ⟨?_, rfl⟩
        rw [hne h']
      conv => whnf
      refine ⟨ba.1, ba.2, fun y hy => ?_⟩
      obtain rfl := ga y hy
      conv => whnf
      refine ⟨bb.1, bb.2, fun z hz => ?_⟩
      obtain rfl := gb z hz
      conv => whnf
      refine ⟨?_, trivial⟩
      conv => whnf
      refine (c_alike u.cons v.cons).use ?_
      conv => whnf
      constructor <;> intro t2
      · have h' : u ≠ v := by
          rintro rfl
          simp at t2
        repeat ((conv => whnf); constructor <;> intro hh <;> cases hh)
        refine ⟨?_, rfl⟩
        rw [hne h']
      have h' : u = v := by
        obtain ⟨u1, u2, u3⟩ := u
        obtain ⟨v1, v2, v3⟩ := v
        simp_all
      subst h'
      conv => whnf
      refine ⟨i + 1, ⟨by omega, same_next hu hv he⟩, by omega, .of ⟨rfl, rfl, ?_, trivial⟩ trivial trivial (fun _ => .inr rfl)⟩
      show SV.t (.int .i64 (IntKind.i64.wrap ((i : Int) + 1))) = _
      rw [wrap_i64 (by omega) (by omega)]; rfl
    · have hge : m.blocks.length ≤ i := by have h1 : decide ((i : Int) < ((m.blocks.map BlockD.tv).length : Int)) = false := h1; have := of_decide_eq_false h1; omega
      conv => whnf
      refine (c_alike m.goal n.goal).use ?_
      conv => whnf
      refine ⟨?_, rfl⟩
      rw [same_blocks (same_end h0' hge he)]
end Go.T
set_option linter.unusedVariables false
set_option linter.unusedSimpArgs false
namespace Go.T
open Go.Proofs Go.RowKit
/-! ### Texts whose models are known -/
def text1 : List UInt8 := [102, 111, 114, 97, 108, 108, 32, 121, 32, 105, 110, 32, 48, 46, 46, 49, 59, 32, 101, 120, 105, 115, 116, 115, 32, 120, 32, 105, 110, 32, 48, 46, 46, 49, 32, 119, 104, 101, 114, 101].append [32, 116, 97, 98, 108, 101, 32, 120, 32, 121, 32, 91, 49, 32, 45, 49, 93, 59, 32, 103, 111, 97, 108, 32, 121, 32, 45, 32, 50, 32, 42, 32, 120, 32, 60, 61, 32, 45, 51, 59]
def text2 : List UInt8 := [102, 111, 114, 97, 108, 108, 32, 121, 32, 105, 110, 32, 48, 46, 46, 49, 59, 32, 103, 111, 97, 108, 32, 122, 32, 61, 32, 48, 59]
def text3 : List UInt8 := [102, 111, 114, 97, 108, 108, 32, 121, 32, 105, 110, 32, 48, 59, 32, 103, 111, 97, 108, 32, 116, 114, 117, 101]
def text4 : List UInt8 := [102, 111, 114, 97, 108, 108, 32, 121, 32, 105, 110, 32, 49, 46, 46, 48, 59, 32, 103, 111, 97, 108, 32, 116, 114, 117, 101, 59]
def want1 : ModelD := ⟨[⟨true, [⟨[121], [(0, 1)]⟩], []⟩, ⟨false, [⟨[120], [(0, 1)]⟩], [⟨6, [1, 0], [], 0, 0, [1, -1]⟩]⟩], [⟨1, [0, 1], [1, -2], 3, -3, []⟩]⟩
theorem parse_text1 : parseM text1 = (want1, 0, 0) := by kernel_rfl
theorem parse_text2 : parseM text2 = (noModel, 23, 7) := by kernel_rfl
theorem parse_text3 : parseM text3 = (noModel, 24, 2) := by kernel_rfl
theorem parse_text4 : parseM text4 = (noModel, 0, 1) := by kernel_rfl
/-! ### What is parsed may be -/
theorem scanG_at (l : List UInt8) : ∀ (f i : Nat) (acc : List Tk), i ≤ l.length → 0 ≤ (scanG l f i acc).2.1 ∧ (scanG l f i acc).2.1 ≤ l.length
  | 0, i, acc, hi => by unfold scanG; exact ⟨Int.le_refl _, Int.natCast_nonneg _⟩
  | f + 1, i, acc, hi => by
    unfold scanG
    by_cases h1 : l.length ≤ i
    · rw [if_pos h1]; exact ⟨Int.le_refl _, Int.natCast_nonneg _⟩
    rw [if_neg h1]
    by_cases h2 : blank (l.getD i 0) = true
    · rw [if_pos h2]; exact scanG_at l f (i + 1) acc (by omega)
    rw [if_neg h2]
    by_cases h3 : ((first (l.drop i)).1 == 0) = true
    · rw [if_pos h3]; exact ⟨by dsimp only; omega, by dsimp only; omega⟩
    rw [if_neg h3]
    by_cases h4 : (first (l.drop i)).2.2 > 1099511627776
    · rw [if_pos h4]; exact ⟨by dsimp only; omega, by dsimp only; omega⟩
    rw [if_neg h4]
    have hdl : (l.drop i).length = l.length - i := List.length_drop
    have hl := first_len (l := l.drop i) (by omega) h3
    exact scanG_at l f _ _ (by omega)
theorem scan_at (l : List UInt8) : 0 ≤ (scan l).2.1 ∧ (scan l).2.1 ≤ l.length := by
  unfold scan
  split
  · exact ⟨Int.le_refl _, Int.natCast_nonneg _⟩
  · exact scanG_at l _ 0 [] (by omega)
theorem failAt_at {l : List UInt8} {ts : List Tk} (h : Scanned l ts) (k : Nat) : 0 ≤ failAt ts k l.length ∧ failAt ts k l.length ≤ l.length := by
  unfold failAt
  cases hk : ts[k]? with
  | none => exact ⟨Int.natCast_nonneg _, Int.le_refl _⟩
  | some t => have := h.pos t (List.mem_of_getElem? hk); exact ⟨this.1, by dsimp only; omega⟩
theorem posD_at {l : List UInt8} {ts : List Tk} (h : Scanned l ts) (k : Nat) : 0 ≤ (ts.getD k ⟨0, [], 0, 0⟩).pos ∧ (ts.getD k ⟨0, [], 0, 0⟩).pos ≤ l.length := by
  rw [List.getD_eq_getElem?_getD]
  cases hk : ts[k]? with
  | none => exact ⟨Int.le_refl _, by show (0 : Int) ≤ _; omega⟩
  | some t => have := h.pos t (List.mem_of_getElem? hk); exact ⟨this.1, by show t.pos ≤ _; omega⟩
theorem declsG_num {l : List Tok} : ∀ (f : Nat) {acc : List Dc} {p : Nat} {x : List Dc × Nat}, declsG l f acc p = .ok x → x.1.length + p ≤ acc.length + x.2
  | 0, acc, p, x, h => by simp [declsG] at h
  | f + 1, acc, p, x, h => by
    unfold declsG at h
    split at h
    · cases h2 : declP l (p + 1) with
      | error k => rw [h2] at h; cases h
      | ok y =>
        rw [h2] at h
        have h3 := declP_lt h2
        have h4 := declsG_num f h
        simp at h4
        omega
    · cases h; exact Nat.le_refl _
theorem blockP_num {l : List Tok} {n p : Nat} {x : Bk × Nat} (h : blockP l n p = .ok x) : x.1.vars.length + p ≤ x.2 := by
  unfold blockP at h
  cases h1 : quantP l p with
  | error k => rw [h1] at h; cases h
  | ok a =>
    have h1' : p ≤ a.2 := by
      unfold quantP at h1
      split at h1
      · cases h1; exact Nat.le_succ _
      · cases h6 : mustP l kExists p with
        | error k => rw [h6] at h1; cases h1
        | ok q => rw [h6] at h1; cases h1; have := (mustP_ok h6).1; dsimp only; omega
    rw [h1, ok_bind] at h
    dsimp only at h
    cases h2 : declP l a.2 with
    | error k => rw [h2] at h; cases h
    | ok d =>
      rw [h2, ok_bind] at h
      have h2' := declP_lt h2
      cases h3 : declsG l 5000 [d.1] d.2 with
      | error k => rw [h3] at h; cases h
      | ok ds =>
        rw [h3, ok_bind] at h
        have h3' := declsG_num _ h3
        cases h4 : whereP l (n + ds.1.length) ds.2 with
        | error k => rw [h4] at h; cases h
        | ok cs =>
          have h4' : ds.2 ≤ cs.2 := by
            unfold whereP at h4
            split at h4
            · have := listP_lt h4; omega
            · cases h4; exact Nat.le_refl _
          rw [h4, ok_bind] at h
          cases h5 : mustP l [59] cs.2 with
          | error k => rw [h5] at h; cases h
          | ok q =>
            rw [h5] at h; cases h
            have := (mustP_ok h5).1
            simp at h3'
            dsimp only
            omega
theorem namesD_append (xs ys : List Bk) : namesD (xs ++ ys) = namesD xs ++ namesD ys := by simp [namesD]
theorem blocksG_num {l : List Tok} : ∀ (f : Nat) {acc : List Bk} {p : Nat} {x : List Bk × Nat}, blocksG l f acc p = .ok x → (namesD x.1).length + p ≤ (namesD acc).length + x.2
  | 0, acc, p, x, h => by simp [blocksG] at h
  | f + 1, acc, p, x, h => by
    unfold blocksG at h
    cases h2 : blockP l (uptoB acc) p with
    | error k => rw [h2] at h; cases h
    | ok y =>
      rw [h2] at h
      have h3 := blockP_num h2
      have h4 : (namesD (acc ++ [y.1])).length = (namesD acc).length + y.1.vars.length := by rw [namesD_append]; simp [namesD]
      dsimp only at h
      split at h
      · cases h; dsimp only; omega
      · have := blocksG_num f h; omega
theorem allP_num {l : List Tk} {x : Md × Nat} (h : allP (toks l) 0 = .ok x) : (namesD x.1.blocks).length ≤ l.length := by
  unfold allP at h
  cases h1 : blocksG (toks l) 5000 [] 0 with
  | error k => rw [h1] at h; cases h
  | ok a =>
    rw [h1, ok_bind] at h
    dsimp only at h
    have h0 := blocksG_num _ h1
    cases h2 : mustP (toks l) kGoal a.2 with
    | error k => rw [h2] at h; cases h
    | ok q =>
      rw [h2, ok_bind] at h
      have h2' := mustP_lt h2
      have hl : (toks l).length = l.length := by simp [toks]
      cases h3 : listP (toks l) (uptoB a.1) q with
      | error k => rw [h3] at h; cases h
      | ok g =>
        rw [h3, ok_bind] at h
        cases h4 : mustP (toks l) [59] g.2 with
        | error k => rw [h4] at h; cases h
        | ok q2 =>
          rw [h4, ok_bind] at h
          split at h
          · cases h
          · cases h
            simp [namesD] at h0
            simp [namesD]
            omega
theorem fits_ok {l : List UInt8} (h1 : (scan l).2.2 = 0) {x : Md × Nat} (h : allP (toks (scan l).1) 0 = .ok x) : Fits (modelD x.1) := by
  obtain ⟨hsc, hl⟩ := scan_toks h1
  have := allP_num h
  have := hsc.len
  exact fits (hsc.toks hl) h (by omega)
/-- What Parse answers, in short. -/
theorem parse_may (l : List UInt8) : ((parseM l).2.2 = 0 ∧ (parseM l).2.1 = 0 ∧ checkM (parseM l).1 = 0 ∧ (scan l).2.2 = 0 ∧ ∃ x, allP (toks (scan l).1) 0 = .ok x ∧ (parseM l).1 = modelD x.1) ∨
    (¬ (parseM l).2.2 = 0 ∧ 0 ≤ (parseM l).2.1 ∧ (parseM l).2.1 ≤ l.length ∧ (parseM l).1 = noModel) := by
  by_cases h1 : (scan l).2.2 = 0
  · obtain ⟨hsc, _⟩ := scan_toks h1
    cases h2 : allP (toks (scan l).1) 0 with
    | error k =>
      rw [parse_form h1 h2]
      have := failAt_at hsc k
      exact .inr ⟨(by decide : ¬ (2 : Int) = 0), this.1, this.2, rfl⟩
    | ok x =>
      cases h3 : resolveM x.1 with
      | some n =>
        rw [parse_name h1 h2 h3]
        have := posD_at hsc n.ix
        exact .inr ⟨(by decide : ¬ (7 : Int) = 0), this.1, this.2, rfl⟩
      | none =>
        by_cases h4 : checkM (modelD x.1) = 0
        · rw [parse_ok h1 h2 h3 h4]
          exact .inl ⟨rfl, rfl, h4, h1, x, rfl, rfl⟩
        · rw [parse_bad h1 h2 h3 h4]
          exact .inr ⟨h4, Int.le_refl _, by dsimp only; omega, rfl⟩
  · rw [parse_scan h1]
    have := scan_at l
    exact .inr ⟨h1, this.1, this.2, rfl⟩
end Go.T
set_option linter.unusedVariables false
set_option linter.unusedSimpArgs false
namespace Go.T
open Go.Proofs Go.RowKit
variable {Ev : Env} {H : Nat → Option RObj}
set_option maxHeartbeats 4000000 in
theorem c_awake (hE : ∀ w, Ev.E w → HasMax w) (hn : ∀ i, H i = none) : Ret Tryz.prog Ev 6 [] H (.t (.bool true)) := by
  refine go noStop noStop Tryz.func6 rfl (by kernel_rfl) rfl ?_
  have p1 : ∀ H : Nat → Option RObj, (∀ i, H i = none) → Ret Tryz.prog Ev 7 [.str text1] H (parseTV (want1, 0, 0)) := fun H hn => by have := c_parse hE hn text1 (by decide); rwa [parse_text1] at this
  have p2 : ∀ H : Nat → Option RObj, (∀ i, H i = none) → Ret Tryz.prog Ev 7 [.str text2] H (parseTV (noModel, 23, 7)) := fun H hn => by have := c_parse hE hn text2 (by decide); rwa [parse_text2] at this
  have p3 : ∀ H : Nat → Option RObj, (∀ i, H i = none) → Ret Tryz.prog Ev 7 [.str text3] H (parseTV (noModel, 24, 2)) := fun H hn => by have := c_parse hE hn text3 (by decide); rwa [parse_text3] at this
  have p4 : ∀ H : Nat → Option RObj, (∀ i, H i = none) → Ret Tryz.prog Ev 7 [.str text4] H (parseTV (noModel, 0, 1)) := fun H hn => by have := c_parse hE hn text4 (by decide); rwa [parse_text4] at this
  conv => whnf
  refine (p1 _ hn).use ?_
  conv => whnf
  refine (p2 _ hn).use ?_
  conv => whnf
  refine (p3 _ hn).use ?_
  conv => whnf
  refine (p4 _ hn).use ?_
  conv => whnf
  have ps : ∀ H : Nat → Option RObj, Ret Tryz.prog Ev 10 [want1.tv, want1.tv] H (.t (.bool true)) := fun H => by have := c_same (Ev := Ev) (H := H) want1 want1; rwa [decide_eq_true rfl] at this
  refine (ps _).use ?_
  repeat ((conv => whnf); first | refine ⟨fun _ => ?_, fun h => absurd h (by decide)⟩ | refine ⟨fun h => absurd h (by decide), fun _ => ?_⟩)
  conv => whnf
  exact ⟨rfl, rfl⟩
set_option maxHeartbeats 4000000 in
theorem c_parseMay (hE : ∀ w, Ev.E w → HasMax w) (hn : ∀ i, H i = none) (l : List UInt8) : Ret Tryz.prog Ev 3 [.str l] H (.t (.bool true)) := by
  refine go noStop noStop Tryz.func3 rfl (by kernel_rfl) rfl ?_
  conv => whnf
  refine (c_awake hE hn).use ?_
  conv => whnf
  refine ⟨fun h => absurd h (by decide), fun _ => ?_⟩
  conv => whnf
  constructor <;> intro h1
  · conv => whnf
    exact ⟨rfl, rfl⟩
  · have h1' : l.length ≤ 1000 := by have := of_decide_eq_false h1; omega
    conv => whnf
    refine (c_parse hE hn l (by omega)).use ?_
    conv => whnf
    rcases parse_may l with ⟨e0, e1, e2, e3, x, e4, e5⟩ | ⟨e0, e1, e2, e3⟩
    · rw [e0, e1]
      refine ⟨fun _ => ?_, fun h => absurd h (by decide)⟩
      conv => whnf
      refine ⟨fun _ => ?_, fun h => absurd h (by decide)⟩
      conv => whnf
      have hc := c_check (Ev := Ev) (H := H) hE (parseM l).1 (by rw [e5]; exact fits_ok e3 e4)
      rw [e2] at hc
      refine hc.use ?_
      conv => whnf
      exact ⟨rfl, rfl⟩
    · have e0' : ((parseM l).2.2 == 0) = false := by simpa using e0
      refine ⟨fun h => absurd (e0'.symm.trans h) (by decide), fun _ => ?_⟩
      rw [e3]
      have q1 : decide ((parseM l).2.1 ≥ 0) = true := decide_eq_true e1
      have q2 : decide ((parseM l).2.1 ≤ (l.length : Int)) = true := decide_eq_true e2
      conv => whnf
      refine ⟨fun _ => ?_, fun h => absurd (q1.symm.trans h) (by decide)⟩
      repeat ((conv => whnf); first | refine ⟨fun _ => ?_, fun h => absurd (q2.symm.trans h) (by decide)⟩ | refine ⟨fun _ => ?_, fun h => absurd h (by decide)⟩ | intro _)
      conv => whnf
      exact ⟨rfl, rfl⟩
/-! ### From what a call returns to its run -/
theorem Ret.run {P : Program} {f : FuncId} {args : List TV} {b : Bool} (E : Env) (h : Ret P E f args (fun _ => none) (.t (.bool b))) {w : World} (hlo : E.lo ≤ w.heap.size) (hw : E.E w) {vs : Array Value}
    (hv : ∀ (g : Gh), VVs g w args vs.toList) : Calls P f vs w fun e w' => e = .returned (.bool b) ∧ Below w.heap.size w w' := by
  let g : Gh := ⟨fun _ => 0, fun _ => 0, fun _ => none, fun _ => 0, fun _ => .int .i64 0⟩
  have hr : RelH E g (fun _ => none) w := ⟨(fun i o h => by cases h), (fun b _ => ⟨rfl, rfl⟩), (fun _ _ => rfl), hlo, hw, 0, (fun i _ h => by cases h)⟩
  refine (h.2 g w vs hr (hv g)).mono ?_
  rintro e w' ⟨o, H', g', ⟨rfl, rfl⟩, _, _, hk, ho⟩
  cases e with
  | returned v =>
    have ho : RVR g' w' (.t (.bool b)) v := ho
    have ho : g'.VV w' (.bool b) v := ho
    have : v = .bool b := by cases ho; rfl
    exact ⟨by rw [this], hk.os, hk.tape, hk.output, hk.size, fun k hk' => (hk.block k hk' (.inl rfl)).1⟩
  | panicked c => exact ho.elim
  | outgrown => exact ho.elim
/-- The block of MaxLen stays as it is. -/
def maxEnv : Env := ⟨1, HasMax, fun w w' _ _ _ h ⟨m, hm⟩ => ⟨m, by
  have := h 0 (by omega)
  unfold World.cell? at hm ⊢
  dsimp only at hm ⊢
  rw [this]; exact hm⟩⟩
theorem HasMax.pos {w : World} (h : HasMax w) : 1 ≤ w.heap.size := by
  obtain ⟨m, hm⟩ := h
  rcases Nat.eq_zero_or_pos w.heap.size with e | e
  · have : w.heap[0]? = none := Array.getElem?_eq_none (by omega)
    simp [World.cell?, this] at hm
  · exact e
theorem vvs_str (s : ByteArray) (g : Gh) (w : World) : VVs g w [.str s.data.toList] [.string s] := by
  refine ⟨rfl, fun k t u h1 h2 => ?_⟩
  cases k with
  | zero => simp at h1 h2; subst h1; subst h2; exact .str s
  | succ k => simp at h1
theorem x_parseMay (s : ByteArray) (w : World) (hs : s.size ≤ maxLen) (hm : HasMax w) : Calls Tryz.prog 3 #[.string s] w fun e w' => e = .returned (.bool true) ∧ Below w.heap.size w w' :=
  Ret.run maxEnv (c_parseMay (fun _ h => h) (fun _ => rfl) _) hm.pos hm (fun g => vvs_str s g w)
end Go.T
