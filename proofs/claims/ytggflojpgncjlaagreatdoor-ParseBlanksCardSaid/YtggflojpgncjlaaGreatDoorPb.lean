/-
  Terms and sums.
  Sums.
  Constraints.
  Lists of constraints.
  Variables: a name, and spans.
  Blocks.
  The whole text.
-/
import Derived.Test.YtggflojpgncjlaaGreatDoorPa
set_option linter.unusedVariables false
set_option linter.unusedSimpArgs false
set_option linter.unusedSectionVars false
set_option linter.unusedVariables false
set_option linter.unusedSimpArgs false
namespace Go.T
open Go.Proofs Go.RowKit
variable {Ev : Env} {H : Nat → Option RObj}
theorem CS.ij {Hc : Nat → Option RObj} {i j : Nat} {l : List Tk} {p : Nat} {e : Int} {a b : CV} {V : List (List UInt8)} {us : List TV} {nm : CV} {c : Cn} {r cap : Nat} (h : CS Hc i j l e a b V us nm c p r cap H) : j ≠ i := by
  rintro rfl
  have := h.hi
  rw [h.hj] at this; cases this
def ccells' (kind : Int) (r n cap : Nat) (coefs : List TV) (rel const : Int) (nm : CV) : List CV :=
  [.v (.int .i64 kind), .v (.slr 1 r n cap), .own 1 coefs, .v (.int .i64 rel), .v (.int .i64 const), nm]
/-- The place moves on. -/
theorem CS.at {Hc : Nat → Option RObj} {i j : Nat} {l : List Tk} {p q : Nat} {e : Int} {a b : CV} {V : List (List UInt8)} {us : List TV} {nm : CV} {c : Cn} {r cap : Nat} (h : CS Hc i j l e a b V us nm c p r cap H) (h1 : p ≤ q) (h2 : q ≤ l.length) :
    CS Hc i j l e a b V us nm c q r cap (upd H i (some (pcell l q e a b V (us ++ c.vars.map (Nm.use l V.length))))) := {
  hi := upd_same _ _ _
  hj := (upd_ne _ _ h.ij).trans h.hj
  hr := by
    rcases h.hr with h0 | h0
    · exact .inl h0
    · refine .inr ((upd_ne _ _ ?_).trans h0)
      rintro rfl
      have := h.hi
      rw [h0] at this; cases this
  fr x hx hn := (upd_ne _ _ hx).trans (h.fr x hx hn)
  nj := h.nj
  nr := h.nr
  hp := h2
  hu := by have := h.hu; omega
  hc := h.hc
  hV := h.hV
  hn := h.hn }
/-- What the constraint has, but its names, is set anew. -/
theorem CS.set {Hc : Nat → Option RObj} {i j : Nat} {l : List Tk} {p : Nat} {e : Int} {a b : CV} {V : List (List UInt8)} {us : List TV} {nm nm' : CV} {c c' : Cn} {r cap : Nat} (h : CS Hc i j l e a b V us nm c p r cap H) (hv : c'.vars = c.vars) (hc : c'.coefs.length ≤ c'.vars.length + 1) (hn : NumsAt nm' c'.nums) :
    CS Hc i j l e a b V us nm' c' p r cap (upd H j (some (.cells (ccells c'.kind r c'.vars.length cap c'.coefs c'.rel c'.const nm')))) := {
  hi := by rw [hv]; exact (upd_ne _ _ (Ne.symm h.ij)).trans h.hi
  hj := upd_same _ _ _
  hr := by
    rw [hv]
    rcases h.hr with h0 | h0
    · exact .inl h0
    · refine .inr ((upd_ne _ _ ?_).trans h0)
      rintro rfl
      have := h.hj
      rw [h0] at this; cases this
  fr x hx hn := (upd_ne _ _ (fun e => by rw [e, h.nj] at hn; exact hn rfl)).trans (h.fr x hx hn)
  nj := h.nj
  nr := by rw [hv]; exact h.nr
  hp := h.hp
  hu := by rw [hv]; exact h.hu
  hc := hc
  hV := h.hV
  hn := hn }
theorem CS.eq {Hc : Nat → Option RObj} {i j : Nat} {l : List Tk} {p : Nat} {e : Int} {a b : CV} {V : List (List UInt8)} {us : List TV} {nm : CV} {c : Cn} {r cap : Nat} {H' : Nat → Option RObj} (h : CS Hc i j l e a b V us nm c p r cap H) (he : H' = H) : CS Hc i j l e a b V us nm c p r cap H' := by rw [he]; exact h
theorem ok_bind {α β : Type} (x : α) (f : α → Except Nat β) : (Except.ok x >>= f) = f x := rfl
theorem err_bind {α β : Type} (k : Nat) (f : α → Except Nat β) : ((Except.error k : Except Nat α) >>= f) = Except.error k := rfl
section
variable {Hc : Nat → Option RObj} {i j : Nat} {l : List Tk} (hl : Toks l) {p : Nat} {e : Int} {a b : CV} {V : List (List UInt8)} {us : List TV} {nm : CV} {c : Cn} {r cap : Nat}
include hl
theorem c_term (hE : ∀ w, Ev.E w → HasMax w) (hcv : c.coefs.length ≤ c.vars.length) (sign : Int) (hsg : sign = 1 ∨ sign = -1) (hs : CS Hc i j l e a b V us nm c p r cap H) :
    TCalls Tryz.prog Ev 107 [.ptr i 0, .ptr j 0, .int .i64 sign] H (CK Hc i j l e a b V us nm (termP (toks l) sign c p)) := by
  generalize hr : termP (toks l) sign c p = r0
  have hlen := hl.len
  refine go noStop (stopAt 1) Tryz.func107 rfl (by kernel_rfl) rfl ?_
  conv => whnf
  refine goSeqTo noStop noStop noStop (fun s : Int × Nat × (Nat → Option RObj) => .of [(0, .t (.ptr i 0)), (1, .t (.ptr j 0)), (2, .t (.int .i64 sign)), (6, .t (.int .i64 s.1))] [] [] s.2.2)
    (fun s => coefP (toks l) p = .ok (s.1, s.2.1) ∧ 0 ≤ s.1 ∧ s.1 ≤ 1099511627776 ∧ CS Hc i j l e a b V us nm c s.2.1 r cap s.2.2) ?_ ?_
  · conv => whnf
    refine (c_digits i l p e a b _ _ hs.hi).use ?_
    conv => whnf
    constructor <;> intro h1
    · conv => whnf
      refine PK.use (c_pvalue i l hl p e a b _ _ hs.hi) ?_ ?_
      · rintro x hx _ _ ⟨rfl, rfl⟩
        have hb := valueP_ok hl hx
        have h2 := hs.at (q := x.2) (by omega) (by omega)
        conv => whnf
        refine PK.use (c_must i l hl x.2 e a b _ _ (upd_same _ _ _) [42]) ?_ ?_
        · rintro q hq _ _ ⟨rfl, rfl⟩
          obtain ⟨rfl, hq2⟩ := mustP_ok hq
          have hq3 := aheadP_lt hq2
          conv => whnf
          refine ⟨(x.1, x.2 + 1, upd H i (some (pcell l (x.2 + 1) e a b V (us ++ c.vars.map (Nm.use l V.length))))), ⟨?_, hb.1, hb.2.1, hs.at (q := x.2 + 1) (by omega) (by omega)⟩, .of ⟨rfl, rfl, rfl, rfl, trivial⟩ trivial trivial (fun y => .inr (congrFun (upd_upd _ _ _ _) y))⟩
          unfold coefP
          rw [if_pos h1, hx, ok_bind]
          dsimp only
          rw [hq]
          rfl
        · intro k H' hq
          obtain rfl : r0 = .error k := hr.symm.trans (by
            unfold termP coefP
            rw [if_pos h1, hx, ok_bind]
            dsimp only
            rw [hq]
            rfl)
          conv => whnf
          rfl
      · intro k H' hx
        obtain rfl : r0 = .error k := hr.symm.trans (by unfold termP coefP; rw [if_pos h1, hx]; rfl)
        conv => whnf
        rfl
    · conv => whnf
      refine ⟨(1, p, H), ⟨?_, by simp, by simp, hs⟩, .of ⟨rfl, rfl, rfl, rfl, trivial⟩ trivial trivial (fun y => .inr rfl)⟩
      unfold coefP
      rw [if_neg (by rw [show digitsP (toks l) p = false from h1]; simp)]
  · rintro ⟨n, q, H⟩ ⟨h1, h2, h3, h4⟩
    dsimp only at h1 h2 h3 h4
    have hg : r0 = variableP (toks l) { c with coefs := c.coefs ++ [sign * n] } q := hr.symm.trans (by unfold termP; rw [h1]; rfl)
    conv => whnf
    refine ⟨_, h4.hj, ?_⟩
    conv => whnf
    have hb := h4.hp
    have hu := h4.hu
    have hil : (ints c.coefs).length = c.coefs.length := by simp [ints]
    refine ⟨by show ((ints c.coefs).length + 1) * 8 ≤ _; omega, by show (ints c.coefs).length + 1 ≤ _; omega, ?_⟩
    conv => whnf
    refine ⟨_, upd_same _ _ _, ?_⟩
    conv => whnf
    have hw : IntKind.i64.wrap (sign * n) = sign * n := by rcases hsg with rfl | rfl <;> rw [wrap_i64 (by omega) (by omega)]
    have h5 := h4.set (nm' := nm) (c' := { c with coefs := c.coefs ++ [sign * n] }) rfl (by simp; omega) h4.hn
    refine PK.use (c_var hl hE (h5.eq ?_)) ?_ ?_
    · show upd (upd H j _) j (some (.cells (ccells' c.kind r c.vars.length cap (ints c.coefs ++ [.int .i64 (IntKind.i64.wrap (sign * n))]) c.rel c.const nm))) = _
      rw [upd_upd, hw]
      show upd H j (some (.cells (ccells' c.kind r c.vars.length cap (ints c.coefs ++ [.int .i64 (sign * n)]) c.rel c.const nm))) = upd H j (some (.cells (ccells' c.kind r c.vars.length cap (ints (c.coefs ++ [sign * n])) c.rel c.const nm)))
      congr 4
      simp [ints]
    · rintro ⟨c', q'⟩ hx _ H' ⟨rfl, r', cap', hs'⟩
      obtain rfl : r0 = .ok (c', q') := hg.trans hx
      conv => whnf
      exact ⟨rfl, r', cap', hs'⟩
    · intro k H' hx
      obtain rfl : r0 = .error k := hg.trans hx
      conv => whnf
      rfl
omit hl in
theorem termP_ok {l : List Tok} {sign : Int} {c : Cn} {p : Nat} {x : Cn × Nat} (h : termP l sign c p = .ok x) : x.1.coefs.length = c.coefs.length + 1 ∧ x.1.vars.length = c.vars.length + 1 := by
  unfold termP at h
  cases h1 : coefP l p with
  | error k => rw [h1] at h; cases h
  | ok y =>
    rw [h1, ok_bind] at h
    dsimp only at h
    unfold variableP at h
    cases h2 : nameP l y.2 with
    | error k => rw [h2] at h; cases h
    | ok q => rw [h2] at h; cases h; simp
end
end Go.T
set_option linter.unusedVariables false
set_option linter.unusedSimpArgs false
namespace Go.T
open Go.Proofs Go.RowKit
variable {Ev : Env} {H : Nat → Option RObj}
theorem coefP_le {l : List Tok} {p : Nat} {x : Int × Nat} (h : coefP l p = .ok x) : p ≤ x.2 := by
  unfold coefP at h
  by_cases hd : digitsP l p = true
  · have hv : valueP l p = .ok ((l.getD p default).value, p + 1) := if_pos hd
    rw [if_pos hd, hv, ok_bind] at h
    dsimp only at h
    cases h2 : mustP l [42] (p + 1) with
    | error k => rw [h2] at h; cases h
    | ok q => rw [h2] at h; cases h; have := (mustP_ok h2).1; dsimp only; omega
  · rw [if_neg hd] at h
    cases h; exact Nat.le_refl _
theorem termP_le {l : List Tok} {sign : Int} {c : Cn} {p : Nat} {x : Cn × Nat} (h : termP l sign c p = .ok x) : p ≤ x.2 := by
  unfold termP at h
  cases h1 : coefP l p with
  | error k => rw [h1] at h; cases h
  | ok y =>
    rw [h1, ok_bind] at h
    dsimp only at h
    have h3 := coefP_le h1
    unfold variableP nameP at h
    split at h
    · cases h; dsimp only; omega
    · cases h
section
variable {Hc : Nat → Option RObj} {i j : Nat} {l : List Tk} (hl : Toks l) {p : Nat} {e : Int} {a b : CV} {V : List (List UInt8)} {us : List TV} {nm : CV} {c : Cn} {r cap : Nat}
include hl
theorem c_sum (hE : ∀ w, Ev.E w → HasMax w) (hcv : c.coefs.length ≤ c.vars.length) (hs : CS Hc i j l e a b V us nm c p r cap H) :
    TCalls Tryz.prog Ev 95 [.ptr i 0, .ptr j 0] H (CK Hc i j l e a b V us nm (sumP (toks l) c p)) := by
  generalize hr : sumP (toks l) c p = r0
  have hlen := hl.len
  refine go noStop (stopAt 1) Tryz.func95 rfl (by kernel_rfl) rfl ?_
  conv => whnf
  refine goSeqTo noStop noStop noStop (fun s : Int × Nat × (Nat → Option RObj) => .of [(0, .t (.ptr i 0)), (1, .t (.ptr j 0)), (4, .t (.int .i64 s.1))] [] [] s.2.2)
    (fun s => r0 = (do
      let (c, p) ← termP (toks l) s.1 c s.2.1
      let (c, p) ← sumG (toks l) 5000 c p
      relP (toks l) c p) ∧ (s.1 = 1 ∨ s.1 = -1) ∧ CS Hc i j l e a b V us nm c s.2.1 r cap s.2.2) ?_ ?_
  · conv => whnf
    refine ⟨(c_take i l hl p e a b _ _ hs.hi minus).mono ?_⟩
    rintro _ _ ⟨rfl, rfl⟩
    cases h1 : aheadP (toks l) [minus] p with
    | true =>
      have hlt := aheadP_lt h1
      conv => whnf
      constructor <;> intro h2
      · conv => whnf
        refine ⟨(-1, p + 1, _), ⟨?_, .inr rfl, hs.at (q := p + 1) (by omega) (by omega)⟩, .of ⟨rfl, rfl, rfl, trivial⟩ trivial trivial (fun y => .inr rfl)⟩
        rw [← hr]; unfold sumP; rw [if_pos h1]
      · cases h2
    | false =>
      conv => whnf
      constructor <;> intro h2
      · cases h2
      · conv => whnf
        refine ⟨(1, p, H), ⟨?_, .inl rfl, hs⟩, .of ⟨rfl, rfl, rfl, trivial⟩ trivial trivial (fun y => .inr rfl)⟩
        rw [← hr]; unfold sumP; rw [if_neg (by rw [h1]; simp)]
  · rintro ⟨sg, q, H⟩ ⟨h1, h2, hs⟩
    dsimp only at h1 h2 hs
    conv => whnf
    refine PK.use (c_term hl hE hcv sg h2 hs) ?_ ?_
    · rintro ⟨c1, q1⟩ hx _ H1 ⟨rfl, r1, cap1, hs1⟩
      dsimp only at hs1
      have hlen1 := termP_ok hx
      dsimp only at hlen1
      rw [hx, ok_bind] at h1
      dsimp only at h1
      have hp1 := hs1.hp
      conv => whnf
      refine goLoop noStop (stopAt 6) (fun s : Nat × Cn × Nat × (Nat → Option RObj) => .of [(0, .t (.ptr i 0)), (1, .t (.ptr j 0))] [] [] s.2.2.2)
        (fun s => (∃ r cap, CS Hc i j l e a b V us nm s.2.1 s.2.2.1 r cap s.2.2.2) ∧ s.2.1.coefs.length ≤ s.2.1.vars.length ∧ l.length - s.2.2.1 < s.1 ∧ r0 = (do
          let (c, p) ← sumG (toks l) s.1 s.2.1 s.2.2.1
          relP (toks l) c p)) (fun s => l.length - s.2.2.1) (5000, c1, q1, H1)
        ⟨⟨r1, cap1, hs1⟩, by dsimp only; omega, by dsimp only; omega, h1⟩ (.of ⟨rfl, rfl, trivial⟩ trivial trivial (fun _ => .inr rfl)) ?_
      rintro ⟨f, c, p, H⟩ ⟨⟨r, cap, hs⟩, h2, h3, h4⟩
      dsimp only at hs h2 h3 h4
      have hp := hs.hp
      obtain ⟨f, rfl⟩ : ∃ k, f = k + 1 := ⟨f - 1, by omega⟩
      conv => whnf
      refine (c_ahead i l p e a b _ _ hs.hi [plus, minus]).use ?_
      constructor <;> intro h5
      · have h5' : aheadP (toks l) [plus, minus] p = true := h5
        have hlt := aheadP_lt h5'
        conv => whnf
        refine goSeqTo noStop noStop noStop (fun s : Int × Nat × (Nat → Option RObj) => .of [(0, .t (.ptr i 0)), (1, .t (.ptr j 0)), (4, .t (.int .i64 s.1))] [] [] s.2.2)
          (fun s => signP (toks l) p = .ok (s.1, s.2.1) ∧ (s.1 = 1 ∨ s.1 = -1) ∧ p < s.2.1 ∧ CS Hc i j l e a b V us nm c s.2.1 r cap s.2.2) ?_ ?_
        · conv => whnf
          refine ⟨(c_take i l hl p e a b _ _ hs.hi plus).mono ?_⟩
          rintro _ _ ⟨rfl, rfl⟩
          cases h6 : aheadP (toks l) [plus] p with
          | true =>
            conv => whnf
            constructor <;> intro h7
            · cases h7
            · conv => whnf
              refine ⟨(1, p + 1, _), ⟨by unfold signP; rw [if_pos h6], .inl rfl, by simp, hs.at (q := p + 1) (by omega) (by omega)⟩, .of ⟨rfl, rfl, rfl, trivial⟩ trivial trivial (fun y => .inr rfl)⟩
          | false =>
            conv => whnf
            constructor <;> intro h7
            · conv => whnf
              refine PK.use (c_must i l hl p e a b _ _ hs.hi minus) ?_ ?_
              · rintro q hq _ _ ⟨rfl, rfl⟩
                obtain ⟨rfl, _⟩ := mustP_ok hq
                conv => whnf
                refine ⟨(-1, p + 1, _), ⟨by unfold signP; rw [if_neg (by rw [h6]; simp), hq]; rfl, .inr rfl, by simp, hs.at (q := p + 1) (by omega) (by omega)⟩, .of ⟨rfl, rfl, rfl, trivial⟩ trivial trivial (fun y => .inr rfl)⟩
              · intro k H' hq
                obtain rfl : r0 = .error k := by
                  rw [h4, sumG, if_pos h5']
                  unfold signP
                  rw [if_neg (by rw [h6]; simp), hq]
                  rfl
                conv => whnf
                rfl
            · cases h7
        · rintro ⟨s, q, H⟩ ⟨h6, h7, h8, hs⟩
          dsimp only at h6 h7 h8 hs
          rw [sumG, if_pos h5', h6, ok_bind] at h4
          dsimp only at h4
          conv => whnf
          refine PK.use (c_term hl hE h2 s h7 hs) ?_ ?_
          · rintro ⟨c1, q1⟩ hx _ H1 ⟨rfl, r1, cap1, hs1⟩
            have hlen2 := termP_ok hx
            dsimp only at hs1 hlen2
            rw [hx] at h4
            have hq1 : q ≤ q1 := termP_le hx
            have hp2 := hs1.hp
            conv => whnf
            exact ⟨(f, c1, q1, H1), ⟨⟨r1, cap1, hs1⟩, by dsimp only; omega, by dsimp only; omega, h4⟩, by dsimp only; omega, .of ⟨rfl, rfl, trivial⟩ trivial trivial (fun y => .inr rfl)⟩
          · intro k H' hx
            rw [hx] at h4
            obtain rfl : r0 = .error k := h4
            conv => whnf
            rfl
      · have h5' : aheadP (toks l) [plus, minus] p = false := h5
        have h6 : r0 = relP (toks l) c p := by rw [h4, sumG, if_neg (by rw [h5']; simp)]; rfl
        conv => whnf
        refine (c_ahead i l p e a b _ _ hs.hi relTexts).use ?_
        unfold relP at h6
        constructor <;> intro h7
        · have h7' : aheadP (toks l) relTexts p = false := by have h7 : (!aheadP (toks l) relTexts p) = true := h7; simpa using h7
          rw [if_neg (by rw [h7']; simp)] at h6
          subst h6
          conv => whnf
          refine ⟨(c_fail i l p e a b _ _ hs.hi).mono ?_⟩
          rintro _ _ ⟨rfl, rfl⟩
          conv => whnf
          rfl
        · have h7' : aheadP (toks l) relTexts p = true := by have h7 : (!aheadP (toks l) relTexts p) = false := h7; simpa using h7
          rw [if_pos h7'] at h6
          have hlt := aheadP_lt h7'
          conv => whnf
          refine goDraw noStop [0, 1, 2, 3, 4, 5, 6, 7, 8, 9, 10, 11, 12, 14, 15] (.first 0 false (.first 1 false (.first 2 false (.first 3 false (.first 4 false (.first 6 false (.first 7 false (.first 8 false (.first 5 true (.first 9 true (.first 10 false (.first 11 false (.first 12 false (.alt 13 (.first 14 false (.first 15 false (.alt 16 .fin .noalt))) .noalt)))))))))))))) (by kernel_rfl) (by kernel_rfl) ?_
          refine ⟨_, hs.hi, ?_⟩
          conv => whnf
          refine ⟨_, hs.hi, ?_⟩
          conv => whnf
          refine ⟨by omega, by rw [List.length_map]; omega, ?_⟩
          intro x hx
          obtain ⟨t, ht, rfl⟩ := get_map' hx
          conv => whnf
          refine ⟨(c_index relTexts t.text).use ?_, trivial⟩
          conv => whnf
          refine ⟨⟨_, hs.hj, ?_⟩, trivial⟩
          conv => whnf
          have ha1 := hs.set (nm' := nm) (c' := { c with rel := idx relTexts t.text 0 }) rfl hs.hc hs.hn
          refine ⟨_, ha1.hi, ?_⟩
          conv => whnf
          refine ⟨_, ha1.hi, ?_⟩
          conv => whnf
          refine PK.use (c_number i l hl (p + 1) e a b _ _ ((upd_same _ _ _).trans (congrArg (fun n => some (RObj.cells (pcells l n e _))) (wrap_succ (by omega))))) ?_ ?_
          · rintro x hx _ _ ⟨rfl, rfl⟩
            rw [hx] at h6
            subst h6
            have hb := numberP_ok hl hx
            have ha2 := (ha1.at (q := x.2) (by omega) (by omega)).set (nm' := nm) (c' := { c with rel := idx relTexts t.text 0, const := x.1 }) rfl hs.hc hs.hn
            conv => whnf
            refine ⟨_, (upd_ne _ _ hs.ij).trans ((upd_ne _ _ hs.ij).trans (upd_same _ _ _)), ?_⟩
            conv => whnf
            refine ⟨rfl, r, cap, ?_⟩
            have ht' : textP (toks l) p = t.text := by simp only [textP, List.getD_eq_getElem?_getD, toks_get ht, Option.getD_some, Tk.tok]
            dsimp only
            rw [ht']
            refine ha2.eq ?_
            show upd (upd (upd _ i _) i _) j _ = _
            rw [upd_upd]
            rfl
          · intro k H' hx
            rw [hx] at h6
            obtain rfl : r0 = .error k := h6
            conv => whnf
            rfl
    · intro k H' hx
      rw [hx, err_bind] at h1
      subst h1
      conv => whnf
      rfl
end
end Go.T
set_option linter.unusedVariables false
set_option linter.unusedSimpArgs false
namespace Go.T
open Go.Proofs Go.RowKit
variable {Ev : Env} {H : Nat → Option RObj}
/-- A constraint that was parsed: the numbers of its variables stand in the heap. -/
def conTV (c : Cn) (r cap : Nat) : TV := .agg [.int .i64 c.kind, .slr 1 r c.vars.length cap, .sl 1 (ints c.coefs), .int .i64 c.rel, .int .i64 c.const, .sl 1 (ints c.nums)]
/-- The heap behind a constraint. -/
structure CD (Hc : Nat → Option RObj) (i : Nat) (l : List Tk) (e : Int) (a b : CV) (V : List (List UInt8)) (us : List TV) (c : Cn) (p : Nat) (r cap : Nat) (H : Nat → Option RObj) : Prop where
  hi : H i = some (pcell l p e a b V (us ++ c.vars.map (Nm.use l V.length)))
  hr : VarsAt H r c.vars.length cap
  fr : ∀ x, x ≠ i → Hc x ≠ none → H x = Hc x
  nr : c.vars.length = 0 ∨ Hc r = none
  hp : p ≤ l.length
  hu : us.length + c.vars.length ≤ p
theorem CS.done {Hc : Nat → Option RObj} {i j : Nat} {l : List Tk} {p : Nat} {e : Int} {a b : CV} {V : List (List UInt8)} {us : List TV} {nm : CV} {c : Cn} {r cap : Nat} (h : CS Hc i j l e a b V us nm c p r cap H) : CD Hc i l e a b V us c p r cap H :=
  ⟨h.hi, h.hr, h.fr, h.nr, h.hp, h.hu⟩
theorem variableP_coefs {l : List Tok} {upto : Nat} {k : Int} {p : Nat} {x : Cn × Nat} (h : variableP l { con0 upto with kind := k } p = .ok x) : x.1.coefs.length ≤ x.1.vars.length := by
  unfold variableP at h
  cases h2 : nameP l p with
  | error k => rw [h2] at h; cases h
  | ok q => rw [h2] at h; cases h; simp [con0]
theorem numberP_le {l : List Tok} {p : Nat} {x : Int × Nat} (h : numberP l p = .ok x) : p < x.2 ∧ x.2 ≤ l.length := by
  have hv : ∀ {p : Nat} {x : Int × Nat}, valueP l p = .ok x → p < x.2 ∧ x.2 ≤ l.length := by
    intro p x h
    unfold valueP at h
    by_cases hd : digitsP l p = true
    · rw [if_pos hd] at h; cases h
      have : p < l.length := by
        rcases Nat.lt_or_ge p l.length with h' | h'
        · exact h'
        · simp [digitsP, List.getElem?_eq_none h'] at hd
      dsimp only; omega
    · rw [if_neg hd] at h; cases h
  unfold numberP at h
  by_cases hd : aheadP l [minus] p = true
  · rw [if_pos hd] at h
    cases h2 : valueP l (p + 1) with
    | error k => rw [h2] at h; cases h
    | ok y => rw [h2] at h; cases h; have := hv h2; dsimp only; omega
  · rw [if_neg hd] at h
    exact hv h
theorem numbersG_le {l : List Tok} {least : Nat} : ∀ (f : Nat) {p : Nat} {acc : List Int} {x : List Int × Nat}, numbersG l least f p acc = .ok x → p ≤ x.2 ∧ (p ≤ l.length → x.2 ≤ l.length)
  | 0, p, acc, x, h => by simp [numbersG] at h
  | f + 1, p, acc, x, h => by
    unfold numbersG at h
    split at h
    · cases h2 : numberP l p with
      | error k => rw [h2] at h; cases h
      | ok y =>
        rw [h2] at h
        have h3 := numberP_le h2
        have h4 := numbersG_le f h
        exact ⟨by omega, fun _ => h4.2 h3.2⟩
    · cases h; exact ⟨Nat.le_refl _, fun h => h⟩
theorem mustP_lt {l : List Tok} {x : List UInt8} {p q : Nat} (h : mustP l x p = .ok q) : q = p + 1 ∧ q ≤ l.length := by
  obtain ⟨h1, h2⟩ := mustP_ok h
  refine ⟨h1, ?_⟩
  rcases Nat.lt_or_ge p l.length with h' | h'
  · omega
  · simp [aheadP, List.getElem?_eq_none h'] at h2
theorem numbersP_le {l : List Tok} {least : Nat} {p : Nat} {x : List Int × Nat} (h : numbersP l least p = .ok x) : p ≤ x.2 ∧ x.2 ≤ l.length := by
  unfold numbersP at h
  cases h1 : mustP l [91] p with
  | error k => rw [h1] at h; cases h
  | ok q =>
    rw [h1, ok_bind] at h
    cases h2 : numbersG l least 5000 q [] with
    | error k => rw [h2] at h; cases h
    | ok y =>
      rw [h2, ok_bind] at h
      dsimp only at h
      cases h3 : mustP l [93] y.2 with
      | error k => rw [h3] at h; cases h
      | ok z =>
        rw [h3] at h
        cases h
        have a1 := mustP_lt h1
        have a2 := numbersG_le _ h2
        have a3 := mustP_lt h3
        dsimp only
        omega
theorem con_le (k : Int) : CsLe [.v (.int .i64 k), .nils, .nils, .v (.int .i64 0), .v (.int .i64 0), .nils] (ccells k 0 0 0 [] 0 0 .nils) := ⟨.refl _, .slr 1 0 0, .own 1, .refl _, .refl _, .refl _, trivial⟩
section
variable {i : Nat} {l : List Tk} (hl : Toks l) {p : Nat} {e : Int} {a b : CV} {V : List (List UInt8)} {us : List TV}
include hl
/-- The heap in which a constraint begins. -/
theorem CS.start (hH : H i = some (pcell l p e a b V us)) (hp : p ≤ l.length) (hu : us.length ≤ p) (hV : V.length ≤ 4000) {j q : Nat} (hpq : p ≤ q) (hq : q ≤ l.length) {H1 : Nat → Option RObj} (h1 : H1 = upd H i (some (pcell l q e a b V us))) (hj : H1 j = none) (kind : Int) (A : Option RObj) :
    CS H i j l e a b V us .nils { con0 V.length with kind := kind } q 0 0 (upd (upd H1 j A) j (some (.cells (ccells kind 0 0 0 [] 0 0 .nils)))) := {
  hi := by
    have hij : i ≠ j := by rintro rfl; rw [h1, upd_same] at hj; cases hj
    rw [upd_ne _ _ hij, upd_ne _ _ hij, h1, upd_same]
    simp [con0]
  hj := upd_same _ _ _
  hr := .inl rfl
  fr x hx hn := by
    have hij : i ≠ j := by rintro rfl; rw [h1, upd_same] at hj; cases hj
    have hxj : x ≠ j := by rintro rfl; rw [h1, upd_ne _ _ (Ne.symm hij)] at hj; exact hn hj
    rw [upd_ne _ _ hxj, upd_ne _ _ hxj, h1, upd_ne _ _ hx]
  nj := by
    have hij : i ≠ j := by rintro rfl; rw [h1, upd_same] at hj; cases hj
    rw [h1, upd_ne _ _ (Ne.symm hij)] at hj; exact hj
  nr := .inl rfl
  hp := hq
  hu := by simp [con0]; omega
  hc := by simp [con0]
  hV := hV
  hn := .inl ⟨rfl, rfl⟩ }
set_option maxHeartbeats 2000000 in
theorem c_con (hE : ∀ w, Ev.E w → HasMax w) (hH : H i = some (pcell l p e a b V us)) (hp : p ≤ l.length) (hu : us.length ≤ p) (hV : V.length ≤ 4000) :
    TCalls Tryz.prog Ev 80 [.ptr i 0] H (PK (conP (toks l) V.length p) l e fun x o H' => ∃ r cap, o = .ret (.t (conTV x.1 r cap)) ∧ CD H i l e a b V us x.1 x.2 r cap H') := by
  generalize hr : conP (toks l) V.length p = r0
  have hlen := hl.len
  refine go noStop (stopAt 3) Tryz.func80 rfl (by kernel_rfl) rfl ?_
  conv => whnf
  refine goSeqTo noStop noStop noStop (fun s : Cn × Nat × Nat × Nat × Nat × (Nat → Option RObj) × CV => .of [(2, .lp 2 0), (3, .lp 3 0)] [(2, some (.cells [.v (.int .i64 0), .nils, .nils, .v (.int .i64 0), .v (.int .i64 0), .nils])), (3, some (.esc s.2.2.2.2.1))] [] s.2.2.2.2.2.1)
    (fun s => r0 = .ok (s.1, s.2.1) ∧ CS H i s.2.2.2.2.1 l e a b V us s.2.2.2.2.2.2 s.1 s.2.1 s.2.2.1 s.2.2.2.1 s.2.2.2.2.2.1) ?_ ?_
  · conv => whnf
    refine ⟨(c_take i l hl p e a b _ _ hH kProduct).mono ?_⟩
    rintro _ _ ⟨rfl, rfl⟩
    cases h1 : aheadP (toks l) [kProduct] p with
    | true =>
      have hlt := aheadP_lt h1
      conv => whnf
      constructor <;> intro g
      · conv => whnf
        intro j hj
        have hr1 : variablesP (toks l) 3 false { con0 V.length with kind := 2 } (p + 1) = r0 := by rw [← hr]; unfold conP; rw [if_pos h1]
        refine ⟨TCalls.heapLe (HLe.upd (upd_same _ _ _) (con_le _)) (PK.use (c_variables hl hE 3 (by omega) false (CS.start hl hH hp hu hV (q := p + 1) (by omega) (by omega) rfl hj 2 _)) ?_ ?_).get⟩
        · rintro ⟨c', q⟩ hx _ H' ⟨rfl, r', cap', hs'⟩
          have hr1 := hr1.symm.trans hx
          conv => whnf
          exact ⟨(_, _, _, _, j, _, .nils), ⟨hr1, hs'⟩, .of ⟨rfl, rfl, trivial⟩ ⟨rfl, rfl, trivial⟩ trivial (fun y => .inr rfl)⟩
        · intro k H' hx
          obtain rfl : r0 = .error k := hr1.symm.trans hx
          conv => whnf
          rfl
      · cases g
    | false =>
      conv => whnf
      constructor <;> intro g
      · cases g
      · conv => whnf
        refine ⟨(c_take i l hl p e a b _ _ hH kIff).mono ?_⟩
        rintro _ _ ⟨rfl, rfl⟩
        cases h2 : aheadP (toks l) [kIff] p with
        | true =>
          have hlt := aheadP_lt h2
          conv => whnf
          constructor <;> intro g
          · conv => whnf
            intro j hj
            have hr1 : (do let (c, p) ← variableP (toks l) { con0 V.length with kind := 3 } (p + 1); sumP (toks l) c p) = r0 := by rw [← hr]; unfold conP; rw [if_neg (by rw [h1]; simp), if_pos h2]
            refine ⟨TCalls.heapLe (HLe.upd (upd_same _ _ _) (con_le _)) (PK.use (c_var hl hE (CS.start hl hH hp hu hV (q := p + 1) (by omega) (by omega) rfl hj 3 _)) ?_ ?_).get⟩
            · rintro ⟨c', q⟩ hx _ H' ⟨rfl, r', cap', hs'⟩
              rw [hx, ok_bind] at hr1
              dsimp only at hr1 hs'
              conv => whnf
              refine PK.use (c_sum hl hE (variableP_coefs hx) hs') ?_ ?_
              · rintro ⟨c2, q2⟩ hx2 _ H2 ⟨rfl, r2, cap2, hs'⟩
                have hr1 := hr1.symm.trans hx2
                conv => whnf
                exact ⟨(_, _, _, _, j, _, .nils), ⟨hr1, hs'⟩, .of ⟨rfl, rfl, trivial⟩ ⟨rfl, rfl, trivial⟩ trivial (fun y => .inr rfl)⟩
              · intro k H' hx2
                obtain rfl : r0 = .error k := hr1.symm.trans hx2
                conv => whnf
                rfl
            · intro k H' hx
              rw [hx, err_bind] at hr1
              subst hr1
              conv => whnf
              rfl
          · cases g
        | false =>
          conv => whnf
          constructor <;> intro g
          · cases g
          · conv => whnf
            refine ⟨(c_take i l hl p e a b _ _ hH kElement).mono ?_⟩
            rintro _ _ ⟨rfl, rfl⟩
            cases h3 : aheadP (toks l) [kElement] p with
            | true =>
              have hlt := aheadP_lt h3
              conv => whnf
              constructor <;> intro g
              · conv => whnf
                intro j hj
                have hr1 : (do let (c, p) ← variablesP (toks l) 2 false { con0 V.length with kind := 4 } (p + 1); numsP (toks l) 1 c p) = r0 := by rw [← hr]; unfold conP; rw [if_neg (by rw [h1]; simp), if_neg (by rw [h2]; simp), if_pos h3]
                refine ⟨TCalls.heapLe (HLe.upd (upd_same _ _ _) (con_le _)) (PK.use (c_variables hl hE 2 (by omega) false (CS.start hl hH hp hu hV (q := p + 1) (by omega) (by omega) rfl hj 4 _)) ?_ ?_).get⟩
                · rintro ⟨c', q⟩ hx _ H' ⟨rfl, r', cap', hs'⟩
                  rw [hx, ok_bind] at hr1
                  dsimp only at hr1 hs'
                  unfold numsP at hr1
                  conv => whnf
                  refine PK.use (c_numbers i l hl q e a b _ _ hs'.hi 1) ?_ ?_
                  · rintro x hx2 _ _ ⟨rfl, rfl⟩
                    rw [hx2] at hr1
                    have hr1 : r0 = .ok ({ c' with nums := x.1 }, x.2) := hr1.symm
                    have hle := numbersP_le hx2
                    have hs2 := (hs'.at (q := x.2) hle.1 (by have := hle.2; rw [toks, List.length_map] at this; exact this)).set (nm' := .own 1 (ints x.1)) (c' := { c' with nums := x.1 }) rfl hs'.hc (.inr rfl)
                    conv => whnf
                    refine ⟨_, (upd_ne _ _ hs'.ij).trans hs'.hj, ?_⟩
                    conv => whnf
                    exact ⟨(_, _, _, _, j, _, .own 1 (ints x.1)), ⟨hr1, hs2⟩, .of ⟨rfl, rfl, trivial⟩ ⟨rfl, rfl, trivial⟩ trivial (fun y => .inr rfl)⟩
                  · intro k H' hx2
                    rw [hx2] at hr1
                    obtain rfl : r0 = .error k := hr1.symm
                    conv => whnf
                    rfl
                · intro k H' hx
                  rw [hx, err_bind] at hr1
                  subst hr1
                  conv => whnf
                  rfl
              · cases g
            | false =>
              conv => whnf
              constructor <;> intro g
              · cases g
              · conv => whnf
                refine ⟨(c_take i l hl p e a b _ _ hH kDifferent).mono ?_⟩
                rintro _ _ ⟨rfl, rfl⟩
                cases h4 : aheadP (toks l) [kDifferent] p with
                | true =>
                  have hlt := aheadP_lt h4
                  conv => whnf
                  constructor <;> intro g
                  · conv => whnf
                    intro j hj
                    have hr1 : variablesP (toks l) 2 true { con0 V.length with kind := 5 } (p + 1) = r0 := by rw [← hr]; unfold conP; rw [if_neg (by rw [h1]; simp), if_neg (by rw [h2]; simp), if_neg (by rw [h3]; simp), if_pos h4]
                    refine ⟨TCalls.heapLe (HLe.upd (upd_same _ _ _) (con_le _)) (PK.use (c_variables hl hE 2 (by omega) true (CS.start hl hH hp hu hV (q := p + 1) (by omega) (by omega) rfl hj 5 _)) ?_ ?_).get⟩
                    · rintro ⟨c', q⟩ hx _ H' ⟨rfl, r', cap', hs'⟩
                      have hr1 := hr1.symm.trans hx
                      conv => whnf
                      exact ⟨(_, _, _, _, j, _, .nils), ⟨hr1, hs'⟩, .of ⟨rfl, rfl, trivial⟩ ⟨rfl, rfl, trivial⟩ trivial (fun y => .inr rfl)⟩
                    · intro k H' hx
                      obtain rfl : r0 = .error k := hr1.symm.trans hx
                      conv => whnf
                      rfl
                  · cases g
                | false =>
                  conv => whnf
                  constructor <;> intro g
                  · cases g
                  · conv => whnf
                    refine ⟨(c_take i l hl p e a b _ _ hH kTable).mono ?_⟩
                    rintro _ _ ⟨rfl, rfl⟩
                    cases h5 : aheadP (toks l) [kTable] p with
                    | true =>
                      have hlt := aheadP_lt h5
                      conv => whnf
                      constructor <;> intro g
                      · conv => whnf
                        intro j hj
                        have hr1 : (do let (c, p) ← variablesP (toks l) 1 true { con0 V.length with kind := 6 } (p + 1); numsP (toks l) 0 c p) = r0 := by rw [← hr]; unfold conP; rw [if_neg (by rw [h1]; simp), if_neg (by rw [h2]; simp), if_neg (by rw [h3]; simp), if_neg (by rw [h4]; simp), if_pos h5]
                        refine ⟨TCalls.heapLe (HLe.upd (upd_same _ _ _) (con_le _)) (PK.use (c_variables hl hE 1 (by omega) true (CS.start hl hH hp hu hV (q := p + 1) (by omega) (by omega) rfl hj 6 _)) ?_ ?_).get⟩
                        · rintro ⟨c', q⟩ hx _ H' ⟨rfl, r', cap', hs'⟩
                          rw [hx, ok_bind] at hr1
                          dsimp only at hr1 hs'
                          unfold numsP at hr1
                          conv => whnf
                          refine PK.use (c_numbers i l hl q e a b _ _ hs'.hi 0) ?_ ?_
                          · rintro x hx2 _ _ ⟨rfl, rfl⟩
                            rw [hx2] at hr1
                            have hr1 : r0 = .ok ({ c' with nums := x.1 }, x.2) := hr1.symm
                            have hle := numbersP_le hx2
                            have hs2 := (hs'.at (q := x.2) hle.1 (by have := hle.2; rw [toks, List.length_map] at this; exact this)).set (nm' := .own 1 (ints x.1)) (c' := { c' with nums := x.1 }) rfl hs'.hc (.inr rfl)
                            conv => whnf
                            refine ⟨_, (upd_ne _ _ hs'.ij).trans hs'.hj, ?_⟩
                            conv => whnf
                            exact ⟨(_, _, _, _, j, _, .own 1 (ints x.1)), ⟨hr1, hs2⟩, .of ⟨rfl, rfl, trivial⟩ ⟨rfl, rfl, trivial⟩ trivial (fun y => .inr rfl)⟩
                          · intro k H' hx2
                            rw [hx2] at hr1
                            obtain rfl : r0 = .error k := hr1.symm
                            conv => whnf
                            rfl
                        · intro k H' hx
                          rw [hx, err_bind] at hr1
                          subst hr1
                          conv => whnf
                          rfl
                      · cases g
                    | false =>
                      conv => whnf
                      constructor <;> intro g
                      · cases g
                      · conv => whnf
                        intro j hj
                        have hr1 : sumP (toks l) (con0 V.length) p = r0 := by rw [← hr]; unfold conP; rw [if_neg (by rw [h1]; simp), if_neg (by rw [h2]; simp), if_neg (by rw [h3]; simp), if_neg (by rw [h4]; simp), if_neg (by rw [h5]; simp)]
                        have hu0 : upd H i (some (pcell l p e a b V us)) = H := by funext y; by_cases hy : y = i; (subst hy; rw [upd_same, hH]); rw [upd_ne _ _ hy]
                        refine ⟨TCalls.heapLe (HLe.upd (upd_same _ _ _) (con_le _)) (PK.use (c_sum hl hE (by simp [con0]) (CS.start hl hH hp hu hV (q := p) (by omega) hp hu0.symm hj 1 _)) ?_ ?_).get⟩
                        · rintro ⟨c', q⟩ hx _ H' ⟨rfl, r', cap', hs'⟩
                          have hr1 := hr1.symm.trans hx
                          conv => whnf
                          exact ⟨(_, _, _, _, j, _, .nils), ⟨hr1, hs'⟩, .of ⟨rfl, rfl, trivial⟩ ⟨rfl, rfl, trivial⟩ trivial (fun y => .inr rfl)⟩
                        · intro k H' hx
                          obtain rfl : r0 = .error k := hr1.symm.trans hx
                          conv => whnf
                          rfl
  · rintro ⟨c, q, r, cap, j, H', nm⟩ ⟨h1, hs⟩
    dsimp only at h1 hs
    subst h1
    conv => whnf
    refine ⟨_, hs.hj, ?_⟩
    conv => whnf
    refine ⟨r, cap, ?_, hs.done⟩
    rcases hs.hn with ⟨h2, h3⟩ | h2
    · subst h2; rw [conTV, h3]; rfl
    · subst h2; rfl
end
end Go.T
set_option linter.unusedVariables false
set_option linter.unusedSimpArgs false
namespace Go.T
open Go.Proofs Go.RowKit
/-! ### Places move on -/
section
variable {l : List Tok}
theorem variableP_lt {c : Cn} {p : Nat} {x : Cn × Nat} (h : variableP l c p = .ok x) : p < x.2 := by
  unfold variableP nameP at h
  split at h
  · cases h; dsimp only; omega
  · cases h
theorem variablesG_le {least : Nat} {more : Bool} : ∀ (f : Nat) {n : Nat} {c : Cn} {p : Nat} {x : Cn × Nat}, variablesG l least more f n c p = .ok x → p ≤ x.2
  | 0, n, c, p, x, h => by simp [variablesG] at h
  | f + 1, n, c, p, x, h => by
    unfold variablesG at h
    split at h
    · cases h2 : variableP l c p with
      | error k => rw [h2] at h; cases h
      | ok y =>
        rw [h2] at h
        have h3 := variableP_lt h2
        have h4 := variablesG_le f h
        omega
    · cases h; exact Nat.le_refl _
theorem termP_lt {sign : Int} {c : Cn} {p : Nat} {x : Cn × Nat} (h : termP l sign c p = .ok x) : p < x.2 := by
  unfold termP at h
  cases h1 : coefP l p with
  | error k => rw [h1] at h; cases h
  | ok y =>
    rw [h1, ok_bind] at h
    have h2 := coefP_le h1
    have h3 := variableP_lt h
    omega
theorem signP_lt {p : Nat} {x : Int × Nat} (h : signP l p = .ok x) : p < x.2 := by
  unfold signP at h
  split at h
  · cases h; dsimp only; omega
  · cases h2 : mustP l minus p with
    | error k => rw [h2] at h; cases h
    | ok q => rw [h2] at h; cases h; have := (mustP_ok h2).1; dsimp only; omega
theorem sumG_le : ∀ (f : Nat) {c : Cn} {p : Nat} {x : Cn × Nat}, sumG l f c p = .ok x → p ≤ x.2
  | 0, c, p, x, h => by simp [sumG] at h
  | f + 1, c, p, x, h => by
    unfold sumG at h
    split at h
    · cases h1 : signP l p with
      | error k => rw [h1, err_bind] at h; cases h
      | ok y =>
        rw [h1, ok_bind] at h
        dsimp only at h
        cases h2 : termP l y.1 c y.2 with
        | error k => rw [h2] at h; cases h
        | ok z =>
          rw [h2] at h
          have h3 := signP_lt h1
          have h4 := termP_lt h2
          have h5 := sumG_le f h
          omega
    · cases h; exact Nat.le_refl _
theorem relP_lt {c : Cn} {p : Nat} {x : Cn × Nat} (h : relP l c p = .ok x) : p < x.2 := by
  unfold relP at h
  split at h
  · cases h2 : numberP l (p + 1) with
    | error k => rw [h2] at h; cases h
    | ok y => rw [h2] at h; cases h; have := numberP_le h2; dsimp only; omega
  · cases h
theorem sumP_lt {c : Cn} {p : Nat} {x : Cn × Nat} (h : sumP l c p = .ok x) : p < x.2 := by
  have key : ∀ {s : Int} {q : Nat}, p ≤ q → (do
      let (c, p) ← termP l s c q
      let (c, p) ← sumG l 5000 c p
      relP l c p) = .ok x → p < x.2 := by
    intro s q hq h
    cases h1 : termP l s c q with
    | error k => rw [h1, err_bind] at h; cases h
    | ok y =>
      rw [h1, ok_bind] at h
      dsimp only at h
      cases h2 : sumG l 5000 y.1 y.2 with
      | error k => rw [h2, err_bind] at h; cases h
      | ok z =>
        rw [h2, ok_bind] at h
        have h3 := termP_lt h1
        have h4 := sumG_le _ h2
        have h5 := relP_lt h
        omega
  unfold sumP at h
  split at h
  · exact key (by omega) h
  · exact key (Nat.le_refl _) h
theorem conP_lt {upto p : Nat} {x : Cn × Nat} (h : conP l upto p = .ok x) : p < x.2 := by
  unfold conP at h
  split at h
  · have := variablesG_le _ h; omega
  split at h
  · cases h1 : variableP l { con0 upto with kind := 3 } (p + 1) with
    | error k => rw [h1, err_bind] at h; cases h
    | ok y => rw [h1, ok_bind] at h; have := variableP_lt h1; have := sumP_lt h; omega
  have nums : ∀ {n : Nat} {m : Bool} {c : Cn} {k : Nat}, (do
      let (c, p) ← variablesP l n m c (p + 1)
      numsP l k c p) = .ok x → p < x.2 := by
    intro n m c k h
    cases h1 : variablesP l n m c (p + 1) with
    | error k => rw [h1, err_bind] at h; cases h
    | ok y =>
      rw [h1, ok_bind] at h
      unfold numsP at h
      have h3 := variablesG_le _ h1
      cases h2 : numbersP l k y.2 with
      | error k => dsimp only at h; rw [h2] at h; cases h
      | ok z => dsimp only at h; rw [h2] at h; cases h; have := numbersP_le h2; dsimp only; omega
  split at h
  · exact nums h
  split at h
  · have := variablesG_le _ h; omega
  split at h
  · exact nums h
  · exact sumP_lt h
end
variable {Ev : Env} {H : Nat → Option RObj}
/-- A constraint, and where the numbers of its variables stand. -/
structure Cr where
  c : Cn
  r : Nat
  cap : Nat
def Cr.tv (x : Cr) : TV := conTV x.c x.r x.cap
def usesOf (l : List Tk) (upto : Nat) (xs : List Cr) : List TV := xs.flatMap fun x => x.c.vars.map (Nm.use l upto)
def Cr.apart (x y : Cr) : Prop := x.c.vars.length = 0 ∨ y.c.vars.length = 0 ∨ x.r ≠ y.r
/-- The numbers of all their variables stand in the heap, each apart. -/
structure Arrs (Hc : Nat → Option RObj) (H : Nat → Option RObj) (xs : List Cr) : Prop where
  at_ : ∀ x, x ∈ xs → VarsAt H x.r x.c.vars.length x.cap
  new : ∀ x, x ∈ xs → x.c.vars.length = 0 ∨ Hc x.r = none
  apart : xs.Pairwise Cr.apart
theorem Arrs.nil (Hc H : Nat → Option RObj) : Arrs Hc H [] := ⟨by simp, by simp, .nil⟩
/-- What stands elsewhere stays. -/
def Frm (i : Nat) (H H' : Nat → Option RObj) : Prop := ∀ x, x ≠ i → H x ≠ none → H' x = H x
theorem Frm.trans {i : Nat} {H1 H2 H3 : Nat → Option RObj} (h : Frm i H1 H2) (k : Frm i H2 H3) : Frm i H1 H3 := fun x hx hn => by
  have e := h x hx hn
  rw [k x hx (by rw [e]; exact hn), e]
theorem Frm.upd {i : Nat} {H : Nat → Option RObj} (o : Option RObj) : Frm i H (upd H i o) := fun x hx _ => upd_ne _ _ hx
theorem Frm.refl (i : Nat) (H : Nat → Option RObj) : Frm i H H := fun _ _ _ => rfl
theorem VarsAt.frm {i r n cap : Nat} {H H' : Nat → Option RObj} {cs : List CV} (h : VarsAt H r n cap) (hi : H i = some (.cells cs)) (hf : Frm i H H') : VarsAt H' r n cap := by
  rcases h with h | h
  · exact .inl h
  · refine .inr ((hf r ?_ (by rw [h]; simp)).trans h)
    rintro rfl
    rw [hi] at h; cases h
theorem Arrs.frm {i : Nat} {Hc H H' : Nat → Option RObj} {cs : List CV} {xs : List Cr} (h : Arrs Hc H xs) (hi : H i = some (.cells cs)) (hf : Frm i H H') : Arrs Hc H' xs := ⟨fun x hx => (h.at_ x hx).frm hi hf, h.new, h.apart⟩
theorem Frm.none {i : Nat} {Hc H : Nat → Option RObj} (h : Frm i Hc H) {x : Nat} (hx : x ≠ i) (hn : H x = none) : Hc x = none := by
  cases hh : Hc x with
  | none => rfl
  | some o => have := h x hx (by rw [hh]; simp); rw [hn, hh] at this; cases this
/-- More of them. -/
theorem Arrs.append {i : Nat} {Hc H H' : Nat → Option RObj} {cs : List CV} {xs ys : List Cr} (h : Arrs Hc H xs) (hi : H i = some (.cells cs)) (hc : Frm i Hc H) (hf : Frm i H H') (k : Arrs H H' ys) : Arrs Hc H' (xs ++ ys) := {
  at_ x hx := by
    rcases List.mem_append.1 hx with h1 | h1
    · exact (h.at_ x h1).frm hi hf
    · exact k.at_ x h1
  new x hx := by
    rcases List.mem_append.1 hx with h1 | h1
    · exact h.new x h1
    · rcases k.new x h1 with h2 | h2
      · exact .inl h2
      · exact .inr (hc.none (fun e => by rw [e, hi] at h2; cases h2) h2)
  apart := List.pairwise_append.2 ⟨h.apart, k.apart, fun x hx y hy => by
    rcases h.at_ x hx with h1 | h1
    · exact .inl h1
    · rcases k.new y hy with h2 | h2
      · exact .inr (.inl h2)
      · exact .inr (.inr (fun e => by rw [e, h2] at h1; cases h1))⟩ }
structure LD (Hc : Nat → Option RObj) (i : Nat) (l : List Tk) (e : Int) (a b : CV) (V : List (List UInt8)) (us : List TV) (xs : List Cr) (p : Nat) (H : Nat → Option RObj) : Prop where
  hi : H i = some (pcell l p e a b V (us ++ usesOf l V.length xs))
  ar : Arrs Hc H xs
  fr : Frm i Hc H
  hp : p ≤ l.length
  hu : us.length + (usesOf l V.length xs).length ≤ p
  hx : xs.length ≤ p
theorem usesOf_append (l : List Tk) (n : Nat) (xs ys : List Cr) : usesOf l n (xs ++ ys) = usesOf l n xs ++ usesOf l n ys := by simp [usesOf]
theorem usesOf_nil (l : List Tk) (n : Nat) : usesOf l n [] = [] := rfl
theorem usesOf_one (l : List Tk) (n : Nat) (x : Cr) : usesOf l n [x] = x.c.vars.map (Nm.use l n) := by simp [usesOf]
/-- One more. -/
theorem LD.add {Hc : Nat → Option RObj} {i : Nat} {l : List Tk} {e : Int} {a b : CV} {V : List (List UInt8)} {us : List TV} {xs : List Cr} {p q : Nat} {H1 H' : Nat → Option RObj} (h : LD Hc i l e a b V us xs p H) (hf : Frm i H H1) (hi1 : H1 i = some (pcell l q e a b V (us ++ usesOf l V.length xs)))
    {c : Cn} {r cap p' : Nat} (k : CD H1 i l e a b V (us ++ usesOf l V.length xs) c p' r cap H') (hlt : p < p') : LD Hc i l e a b V us (xs ++ [⟨c, r, cap⟩]) p' H' := by
  have h1 := h.ar.frm h.hi hf
  have hk : Arrs H1 H' [⟨c, r, cap⟩] := ⟨by simpa using k.hr, by simpa using k.nr, List.pairwise_singleton _ _⟩
  refine ⟨?_, h1.append hi1 (h.fr.trans hf) k.fr hk, (h.fr.trans hf).trans k.fr, k.hp, ?_, ?_⟩
  · rw [k.hi, usesOf_append, usesOf_one, List.append_assoc]
  · have := k.hu
    rw [usesOf_append, usesOf_one]
    simp only [List.length_append, List.length_map] at this ⊢
    omega
  · have := h.hx
    simp; omega
section
variable {i : Nat} {l : List Tk} (hl : Toks l) {p : Nat} {e : Int} {a b : CV} {V : List (List UInt8)} {us : List TV}
include hl
theorem c_list (hE : ∀ w, Ev.E w → HasMax w) (hH : H i = some (pcell l p e a b V us)) (hp : p ≤ l.length) (hu : us.length ≤ p) (hV : V.length ≤ 4000) :
    TCalls Tryz.prog Ev 59 [.ptr i 0] H (PK (listP (toks l) V.length p) l e fun x o H' => ∃ xs : List Cr, xs.map Cr.c = x.1 ∧ o = .ret (.own 6 (xs.map Cr.tv)) ∧ LD H i l e a b V us xs x.2 H') := by
  generalize hr : listP (toks l) V.length p = r0
  have hlen := hl.len
  refine go noStop noStop Tryz.func59 rfl (by kernel_rfl) rfl ?_
  conv => whnf
  refine ⟨(c_take i l hl p e a b _ _ hH kTrue).mono ?_⟩
  rintro _ _ ⟨rfl, rfl⟩
  unfold listP at hr
  have ld0 : LD H i l e a b V us [] p H := ⟨by simp [usesOf, hH], .nil _ _, .refl _ _, hp, by simp [usesOf]; omega, by simp⟩
  cases h1 : aheadP (toks l) [kTrue] p with
  | true =>
    rw [if_pos h1] at hr
    subst hr
    have hlt := aheadP_lt h1
    conv => whnf
    constructor <;> intro g
    · conv => whnf
      exact ⟨[], rfl, rfl, ⟨by rw [usesOf_nil, List.append_nil]; exact upd_same _ _ _, .nil _ _, .upd _, by dsimp only; omega, by simp [usesOf]; omega, by simp⟩⟩
    · cases g
  | false =>
    rw [if_neg (by rw [h1]; simp)] at hr
    conv => whnf
    constructor <;> intro g
    · cases g
    conv => whnf
    refine PK.use (c_con hl hE hH hp hu hV) ?_ ?_
    · rintro ⟨c, q⟩ hx _ H1 ⟨r, cap, rfl, hd⟩
      rw [hx, ok_bind] at hr
      dsimp only at hr hd
      have hlt := conP_lt hx
      dsimp only at hlt
      have h2 := ld0.add (q := p) (.refl _ _) (by rw [usesOf_nil, List.append_nil]; exact hH) (by rw [usesOf_nil, List.append_nil]; exact hd) hlt
      have hq := hd.hp
      conv => whnf
      refine goLoop noStop noStop (fun s : Nat × List Cr × Nat × (Nat → Option RObj) => .of [(0, .t (.ptr i 0)), (3, .arr 3)] [] [(3, some ⟨6, false, s.2.1.map Cr.tv⟩)] s.2.2.2)
        (fun s => LD H i l e a b V us s.2.1 s.2.2.1 s.2.2.2 ∧ l.length - s.2.2.1 < s.1 ∧ r0 = listG (toks l) V.length s.1 (s.2.1.map Cr.c) s.2.2.1) (fun s => l.length - s.2.2.1) (5000, [⟨c, r, cap⟩], q, H1)
        ⟨h2, by dsimp only; omega, hr.symm⟩ (.of ⟨rfl, rfl, trivial⟩ trivial ⟨rfl, trivial⟩ (fun _ => .inr rfl)) ?_
      rintro ⟨f, xs, p1, H2⟩ ⟨h3, h4, h5⟩
      dsimp only at h3 h4 h5
      obtain ⟨f, rfl⟩ : ∃ k, f = k + 1 := ⟨f - 1, by omega⟩
      have hp1 := h3.hp
      have hu1 := h3.hu
      have hx1 := h3.hx
      unfold listG at h5
      conv => whnf
      refine ⟨(c_take i l hl p1 e a b _ _ h3.hi kAnd).mono ?_⟩
      rintro _ _ ⟨rfl, rfl⟩
      cases h6 : aheadP (toks l) [kAnd] p1 with
      | true =>
        rw [if_pos h6] at h5
        have hlt := aheadP_lt h6
        conv => whnf
        constructor <;> intro g
        · conv => whnf
          refine PK.use (c_con hl hE (upd_same _ _ _) (by omega) (by simp only [List.length_append]; omega) hV) ?_ ?_
          · rintro ⟨c2, q2⟩ hx2 _ H3 ⟨r2, cap2, rfl, hd2⟩
            rw [hx2] at h5
            dsimp only at h5 hd2
            have hlt2 := conP_lt hx2
            dsimp only at hlt2
            have hq2 := hd2.hp
            have h7 := h3.add (.upd _) (upd_same _ _ _) hd2 (by omega)
            conv => whnf
            refine ⟨by show ((xs.map Cr.tv).length + 1) * 96 ≤ _; rw [List.length_map]; omega, by show (xs.map Cr.tv).length + 1 ≤ _; rw [List.length_map]; omega, ?_⟩
            conv => whnf
            refine ⟨(f, xs ++ [⟨c2, r2, cap2⟩], q2, H3), ⟨h7, by dsimp only; omega, by rw [h5]; simp⟩, by dsimp only; omega, .of ⟨rfl, rfl, trivial⟩ trivial ⟨?_, trivial⟩ (fun _ => .inr rfl)⟩
            show some (AObj.mk 6 false (xs.map Cr.tv ++ [conTV c2 r2 cap2])) = _
            rw [List.map_append]
            rfl
          · intro k H' hx2
            rw [hx2] at h5
            obtain rfl : r0 = .error k := h5
            conv => whnf
            rfl
        · cases g
      | false =>
        rw [if_neg (by rw [h6]; simp)] at h5
        subst h5
        conv => whnf
        constructor <;> intro g
        · cases g
        · conv => whnf
          exact ⟨xs, rfl, rfl, h3⟩
    · intro k H' hx
      rw [hx, err_bind] at hr
      subst hr
      conv => whnf
      rfl
end
end Go.T
set_option linter.unusedVariables false
set_option linter.unusedSimpArgs false
namespace Go.T
open Go.Proofs Go.RowKit
variable {Ev : Env} {H : Nat → Option RObj}
def spanTV (s : Int × Int) : TV := .agg [.int .i64 s.1, .int .i64 s.2]
def dcTV (d : Dc) : TV := .agg [.str d.name, .sl 2 (d.dom.map spanTV)]
section
variable {i : Nat} {l : List Tk} (hl : Toks l) {p : Nat} {e : Int} {a b : CV} {V : List (List UInt8)} {us : List TV}
include hl
set_option maxHeartbeats 1000000 in
theorem c_decl (hE : ∀ w, Ev.E w → HasMax w) (hH : H i = some (pcell l p e a b V us)) (hp : p ≤ l.length) (hV : V.length ≤ p) :
    TCalls Tryz.prog Ev 79 [.ptr i 0] H (PK (declP (toks l) p) l e fun x o H' => o = .ret (.t (dcTV x.1)) ∧ H' = upd H i (some (pcell l x.2 e a b (V ++ [x.1.name]) us)) ∧ p < x.2 ∧ x.2 ≤ l.length) := by
  generalize hr : declP (toks l) p = r0
  have hlen := hl.len
  refine go noStop noStop Tryz.func79 rfl (by kernel_rfl) rfl ?_
  unfold declP at hr
  conv => whnf
  refine PK.use (c_name i l hl p e a b _ _ hE hH) ?_ ?_
  · rintro q hq _ _ ⟨rfl, ⟨t, ht, rfl⟩, rfl⟩
    have hpl := (nameP_ok hq).2
    rw [hq, ok_bind] at hr
    conv => whnf
    refine PK.use (c_must i l hl (p + 1) e a b _ _ (upd_same _ _ _) kIn) ?_ ?_
    · rintro q hq2 _ _ ⟨rfl, rfl⟩
      obtain ⟨rfl, hq3⟩ := mustP_ok hq2
      have hpl2 := aheadP_lt hq3
      rw [hq2, ok_bind] at hr
      have htx : textP (toks l) p = t.text := by simp only [textP, List.getD_eq_getElem?_getD, toks_get ht, Option.getD_some, Tk.tok]
      rw [htx] at hr
      conv => whnf
      refine ⟨TWp.varLe (d := 3) [.v (.str t.text), .own 2 []] rfl ⟨.refl _, .own 2, trivial⟩ (goLoop noStop (stopAt 8) (fun s : Nat × List (Int × Int) × Nat × Bool => .of [(0, .t (.ptr i 0)), (2, .lp 2 0), (3, .lp 3 0), (4, .t (.bool s.2.2.2))] [(2, some (.cells [.v (.str []), .nils])), (3, some (.cells [.v (.str t.text), .own 2 (s.2.1.map spanTV)]))] [] (upd H i (some (pcell l s.2.2.1 e a b V us))))
        (fun s => p < s.2.2.1 ∧ s.2.2.1 ≤ l.length ∧ s.2.1.length ≤ s.2.2.1 ∧ l.length - s.2.2.1 < s.1 ∧ r0 = match s.2.2.2 with
          | true => (do
            let (d, q) ← domG (toks l) s.1 s.2.1 s.2.2.1
            return (⟨t.text, d⟩, q))
          | false => .ok (⟨t.text, s.2.1⟩, s.2.2.1)) (fun s => (l.length - s.2.2.1) + (if s.2.2.2 then 1 else 0)) (5000, [], p + 1 + 1, true)
        ⟨by dsimp only; omega, by dsimp only; omega, by simp, by dsimp only; omega, hr.symm⟩ (.of ⟨rfl, rfl, rfl, rfl, trivial⟩ ⟨rfl, rfl, trivial⟩ trivial (fun y => .inr (congrFun (upd_upd _ _ _ _) y))) ?_).get⟩
      rintro ⟨f, acc, p1, more⟩ ⟨h0, h1, h2, h3, h4⟩
      dsimp only at h0 h1 h2 h3 h4
      cases more with
      | false =>
        conv => whnf
        constructor <;> intro g
        · cases g
        conv => whnf
        dsimp only at h4
        subst h4
        have hV' : (V.map TV.str).length = V.length := List.length_map ..
        have fin : ∀ (A B : Option RObj) (y : Nat), upd (upd (upd H i A) i B) i (some (pcell l p1 e a b (V ++ [t.text]) us)) y = upd H i (some (pcell l p1 e a b (V ++ [t.text]) us)) y := fun A B y => by rw [upd_upd, upd_upd]
        have eqV : CV.own 1 (V.map TV.str ++ [.str t.text]) = CV.own 1 ((V ++ [t.text]).map TV.str) := by rw [List.map_append]; rfl
        refine goDrawTo noStop [0, 1, 2, 3, 5, 6, 9, 10] (.first 0 false (.first 1 false (.first 2 false (.first 3 false (.first 5 false (.first 6 true (.alt 4 (.alt 7 (.alt 8 (.first 9 false (.first 10 false (.alt 11 .fin .noalt))) .noalt) .noalt) (.alt 7 (.alt 4 (.alt 8 (.first 9 false (.first 10 false (.alt 11 .fin .noalt))) .noalt) .noalt) .noalt)))))))) (by kernel_rfl) (by kernel_rfl) (fun _ : Unit => .of [(2, .lp 2 0), (3, .lp 3 0)] [(2, some (.cells [.v (.str []), .nils])), (3, some (.cells [.v (.str t.text), .own 2 (acc.map spanTV)]))] [] (upd H i (some (pcell l p1 e a b (V ++ [t.text]) us)))) (fun _ => True) ?_ ?_
        · conv => whnf
          refine ⟨?_, ?_, trivial⟩
          · conv => whnf
            refine ⟨_, upd_same _ _ _, ?_⟩
            conv => whnf
            refine ⟨?_, trivial⟩
            conv => whnf
            refine ⟨?_, trivial⟩
            conv => whnf
            refine ⟨by show ((V.map TV.str).length + 1) * 16 ≤ _; omega, by show (V.map TV.str).length + 1 ≤ _; omega, ?_⟩
            conv => whnf
            refine ⟨⟨_, upd_same _ _ _, ?_⟩, trivial⟩
            conv => whnf
            refine ⟨(), trivial, .of ⟨rfl, rfl, trivial⟩ ⟨rfl, rfl, trivial⟩ trivial (fun y => .inr ?_)⟩
            show upd (upd (upd H i _) i _) i (some (.cells (pcells l p1 e [a, b, .own 1 (V.map TV.str ++ [.str t.text]), .own 3 us]))) y = _
            rw [eqV]
            exact fin _ _ y
          · conv => whnf
            refine ⟨?_, trivial⟩
            conv => whnf
            refine ⟨_, upd_same _ _ _, ?_⟩
            conv => whnf
            refine ⟨?_, trivial⟩
            conv => whnf
            refine ⟨by show ((V.map TV.str).length + 1) * 16 ≤ _; omega, by show (V.map TV.str).length + 1 ≤ _; omega, ?_⟩
            conv => whnf
            refine ⟨⟨_, upd_same _ _ _, ?_⟩, trivial⟩
            conv => whnf
            refine ⟨(), trivial, .of ⟨rfl, rfl, trivial⟩ ⟨rfl, rfl, trivial⟩ trivial (fun y => .inr ?_)⟩
            show upd (upd (upd H i _) i _) i (some (.cells (pcells l p1 e [a, b, .own 1 (V.map TV.str ++ [.str t.text]), .own 3 us]))) y = _
            rw [eqV]
            exact fin _ _ y
        · rintro _ _
          conv => whnf
          exact ⟨rfl, rfl, h0, h1⟩
      | true =>
        obtain ⟨f, rfl⟩ : ∃ k, f = k + 1 := ⟨f - 1, by omega⟩
        dsimp only at h4
        unfold domG spanP at h4
        conv => whnf
        constructor <;> intro g
        · conv => whnf
          refine PK.use (c_number i l hl p1 e a b _ _ (upd_same _ _ _)) ?_ ?_
          · rintro lo hlo _ _ ⟨rfl, rfl⟩
            rw [hlo, ok_bind] at h4
            dsimp only at h4
            have hb := numberP_ok hl hlo
            conv => whnf
            refine goSeqTo noStop noStop noStop (fun s : Int × Nat => .of [(0, .t (.ptr i 0)), (2, .lp 2 0), (3, .lp 3 0), (5, .lp 5 0)] [(2, some (.cells [.v (.str []), .nils])), (3, some (.cells [.v (.str t.text), .own 2 (acc.map spanTV)])), (5, some (.cells [.v (.int .i64 lo.1), .v (.int .i64 s.1)]))] [] (upd H i (some (pcell l s.2 e a b V us))))
              (fun s => highP (toks l) lo.1 lo.2 = .ok s ∧ lo.2 ≤ s.2 ∧ s.2 ≤ l.length) ?_ ?_
            · conv => whnf
              refine ⟨(c_take i l hl lo.2 e a b _ _ (upd_same _ _ _) kDots).mono ?_⟩
              rintro _ _ ⟨rfl, rfl⟩
              unfold highP
              cases h5 : aheadP (toks l) [kDots] lo.2 with
              | true =>
                have hlt := aheadP_lt h5
                conv => whnf
                constructor <;> intro g2
                · conv => whnf
                  refine PK.use (c_number i l hl (lo.2 + 1) e a b _ _ (upd_same _ _ _)) ?_ ?_
                  · rintro hi hhi _ _ ⟨rfl, rfl⟩
                    have hb2 := numberP_ok hl hhi
                    conv => whnf
                    refine ⟨hi, ⟨by rw [if_pos rfl]; exact hhi, by omega, by omega⟩, .of ⟨rfl, rfl, rfl, rfl, trivial⟩ ⟨rfl, rfl, rfl, trivial⟩ trivial (fun y => .inr ?_)⟩
                    show upd (upd (upd (upd H i _) i _) i _) i _ y = _
                    rw [upd_upd, upd_upd, upd_upd]
                    rfl
                  · intro k H' hhi
                    have : r0 = .error k := by rw [h4]; unfold highP; rw [if_pos h5, hhi]; rfl
                    subst this
                    conv => whnf
                    rfl
                · cases g2
              | false =>
                conv => whnf
                constructor <;> intro g2
                · cases g2
                · conv => whnf
                  refine ⟨(lo.1, lo.2), ⟨by rw [if_neg (by simp)], by dsimp only; omega, by dsimp only; omega⟩, .of ⟨rfl, rfl, rfl, rfl, trivial⟩ ⟨rfl, rfl, rfl, trivial⟩ trivial (fun y => .inr ?_)⟩
                  show upd (upd H i _) i _ y = _
                  rw [upd_upd]
                  rfl
            · rintro ⟨hi, q⟩ ⟨h5, h6, h7⟩
              dsimp only at h6 h7
              rw [h5] at h4
              have h4 : r0 = (do
                let (d, q) ← (if (digitsP (toks l) q || aheadP (toks l) [minus] q) = true then domG (toks l) f (acc ++ [(lo.1, hi)]) q else Except.ok (acc ++ [(lo.1, hi)], q))
                return (⟨t.text, d⟩, q)) := h4
              conv => whnf
              have hac : (acc.map spanTV).length = acc.length := List.length_map ..
              refine ⟨by show ((acc.map spanTV).length + 1) * 16 ≤ _; omega, by show (acc.map spanTV).length + 1 ≤ _; omega, ?_⟩
              conv => whnf
              refine (c_digits i l q e a b _ _ (upd_same _ _ _)).use ?_
              have vars : some (VObj.cells [.v (.str t.text), .own 2 (acc.map spanTV ++ [.agg [.int .i64 lo.1, .int .i64 hi]])]) = some (VObj.cells [.v (.str t.text), .own 2 ((acc ++ [(lo.1, hi)]).map spanTV)]) := by rw [List.map_append]; rfl
              constructor <;> intro g2
              · have g2' : digitsP (toks l) q = false := g2
                rw [g2', Bool.false_or] at h4
                refine (c_ahead i l q e a b _ _ (upd_same _ _ _) [minus]).use ?_
                conv => whnf
                cases h8 : aheadP (toks l) [minus] q with
                | true =>
                  rw [if_pos h8] at h4
                  exact ⟨(f, acc ++ [(lo.1, hi)], q, true), ⟨by dsimp only; omega, h7, by simp; omega, by dsimp only; omega, h4⟩, by simp; omega, .of ⟨rfl, rfl, rfl, rfl, trivial⟩ ⟨rfl, vars, trivial⟩ trivial (fun y => .inr rfl)⟩
                | false =>
                  rw [if_neg (by rw [h8]; simp), ok_bind] at h4
                  exact ⟨(f, acc ++ [(lo.1, hi)], q, false), ⟨by dsimp only; omega, h7, by simp; omega, by dsimp only; omega, h4⟩, by simp; omega, .of ⟨rfl, rfl, rfl, rfl, trivial⟩ ⟨rfl, vars, trivial⟩ trivial (fun y => .inr rfl)⟩
              · have g2' : digitsP (toks l) q = true := g2
                rw [if_pos (by rw [g2', Bool.true_or])] at h4
                conv => whnf
                exact ⟨(f, acc ++ [(lo.1, hi)], q, true), ⟨by dsimp only; omega, h7, by simp; omega, by dsimp only; omega, h4⟩, by simp; omega, .of ⟨rfl, rfl, rfl, rfl, trivial⟩ ⟨rfl, vars, trivial⟩ trivial (fun y => .inr rfl)⟩
          · intro k H' hlo
            rw [hlo] at h4
            obtain rfl : r0 = .error k := h4
            conv => whnf
            rfl
        · cases g
    · intro k H' hq2
      rw [hq2, err_bind] at hr
      subst hr
      conv => whnf
      rfl
  · intro k H' hq
    rw [hq, err_bind] at hr
    subst hr
    conv => whnf
    rfl
end
end Go.T
set_option linter.unusedVariables false
set_option linter.unusedSimpArgs false
namespace Go.T
open Go.Proofs Go.RowKit
variable {Ev : Env} {H : Nat → Option RObj}
def bkTV (b : Bk) (xs : List Cr) : TV := .agg [.bool b.all, .sl 2 (b.vars.map dcTV), .sl 6 (xs.map Cr.tv)]
/-- The heap behind a block. -/
structure BD (Hc : Nat → Option RObj) (i : Nat) (l : List Tk) (e : Int) (a b : CV) (V : List (List UInt8)) (us : List TV) (p : Nat) (bk : Bk) (xs : List Cr) (q : Nat) (H : Nat → Option RObj) : Prop where
  cs : xs.map Cr.c = bk.cons
  hi : H i = some (pcell l q e a b (V ++ bk.vars.map Dc.name) (us ++ usesOf l (V.length + bk.vars.length) xs))
  ar : Arrs Hc H xs
  fr : Frm i Hc H
  lt : p < q
  hp : q ≤ l.length
  hu : us.length + (usesOf l (V.length + bk.vars.length) xs).length ≤ q
  hV : V.length + bk.vars.length ≤ q
theorem listP_lt {l : List Tok} {upto p : Nat} {x : List Cn × Nat} (h : listP l upto p = .ok x) : p < x.2 := by
  have key : ∀ (f : Nat) {acc : List Cn} {p : Nat} {x : List Cn × Nat}, listG l upto f acc p = .ok x → p ≤ x.2 := by
    intro f
    induction f with
    | zero => intro acc p x h; simp [listG] at h
    | succ f ih =>
      intro acc p x h
      unfold listG at h
      split at h
      · cases h2 : conP l upto (p + 1) with
        | error k => rw [h2] at h; cases h
        | ok y => rw [h2] at h; have := conP_lt h2; have := ih h; omega
      · cases h; exact Nat.le_refl _
  unfold listP at h
  split at h
  · cases h; dsimp only; omega
  · cases h2 : conP l upto p with
    | error k => rw [h2, err_bind] at h; cases h
    | ok y => rw [h2, ok_bind] at h; have := conP_lt h2; have := key _ h; omega
theorem LD.base {H1 H0 : Nat → Option RObj} {i : Nat} {l : List Tk} {e : Int} {a b : CV} {V : List (List UInt8)} {us : List TV} {xs : List Cr} {p : Nat} (h : LD H1 i l e a b V us xs p H) (h1 : ∀ y, y ≠ i → H1 y = H0 y) (h2 : H1 i ≠ none) : LD H0 i l e a b V us xs p H := {
  hi := h.hi
  ar := ⟨h.ar.at_, fun x hx => (h.ar.new x hx).imp id fun hn => by rw [← h1 x.r (fun e => by rw [e] at hn; exact h2 hn)]; exact hn, h.ar.apart⟩
  fr x hx hn := by rw [← h1 x hx] at hn ⊢; exact h.fr x hx hn
  hp := h.hp
  hu := h.hu
  hx := h.hx }
section
variable {i : Nat} {l : List Tk} (hl : Toks l) {p : Nat} {e : Int} {a b : CV} {V : List (List UInt8)} {us : List TV}
include hl
set_option maxHeartbeats 2000000 in
theorem c_block (hE : ∀ w, Ev.E w → HasMax w) (hH : H i = some (pcell l p e a b V us)) (hp : p ≤ l.length) (hu : us.length ≤ p) (hV : V.length ≤ p) :
    TCalls Tryz.prog Ev 57 [.ptr i 0] H (PK (blockP (toks l) V.length p) l e fun x o H' => ∃ xs : List Cr, o = .ret (.t (bkTV x.1 xs)) ∧ BD H i l e a b V us p x.1 xs x.2 H') := by
  generalize hr : blockP (toks l) V.length p = r0
  have hlen := hl.len
  unfold blockP at hr
  let V2 : Option VObj := some (.cells [.v (.bool false), .nils, .nils])
  refine go noStop (stopAt 1) Tryz.func57 rfl (by kernel_rfl) rfl ?_
  conv => whnf
  refine goSeqTo noStop noStop (stopAt 2) (fun s : Bool × (Nat → Option RObj) => .of [(0, .t (.ptr i 0)), (2, .lp 2 0), (3, .lp 3 0)] [(2, V2), (3, some (.cells [.v (.bool s.1), .nils, .nils]))] [] s.2)
    (fun s => aheadP (toks l) [kForall] p = s.1 ∧ s.2 = bif s.1 then upd H i (some (pcell l (p + 1) e a b V us)) else H) ?_ ?_
  · conv => whnf
    refine ⟨(c_take i l hl p e a b _ _ hH kForall).mono ?_⟩
    rintro _ _ ⟨rfl, rfl⟩
    conv => whnf
    exact ⟨(_, _), ⟨rfl, rfl⟩, .of ⟨rfl, rfl, rfl, trivial⟩ ⟨rfl, rfl, trivial⟩ trivial (fun y => .inr rfl)⟩
  rintro ⟨all, H1⟩ ⟨h1, h2⟩
  dsimp only at h1 h2
  subst h2
  refine ⟨TWp.varLe (d := 3) [.v (.bool all), .own 2 [], .own 6 []] rfl ⟨.refl _, .own 2, .own 6, trivial⟩ (goSeqTo noStop noStop (stopAt 7) (fun q : Nat => .of [(0, .t (.ptr i 0)), (2, .lp 2 0), (3, .lp 3 0)] [(2, V2), (3, some (.cells [.v (.bool all), .own 2 [], .own 6 []]))] [] (upd H i (some (pcell l q e a b (V ++ ([] : List Dc).map Dc.name) us))))
    (fun q => quantP (toks l) p = .ok (all, q) ∧ p < q ∧ q ≤ l.length) ?_ ?_).get⟩
  · conv => whnf
    cases all with
    | true =>
      have hlt := aheadP_lt h1
      constructor <;> intro g
      · cases g
      · conv => whnf
        exact ⟨p + 1, ⟨by unfold quantP; rw [if_pos h1], by omega, by omega⟩, .of ⟨rfl, rfl, rfl, trivial⟩ ⟨rfl, rfl, trivial⟩ trivial (fun y => .inr (congrFun (congrArg (fun z => upd H i (some (pcell l _ e a b z us))) (List.append_nil V).symm) y))⟩
    | false =>
      constructor <;> intro g
      · conv => whnf
        refine PK.use (c_must i l hl p e a b _ _ hH kExists) ?_ ?_
        · rintro q hq _ _ ⟨rfl, rfl⟩
          have hq1 := mustP_lt hq
          rw [toks, List.length_map] at hq1
          conv => whnf
          exact ⟨q, ⟨by unfold quantP; rw [if_neg (by rw [h1]; simp), hq]; rfl, by omega, by omega⟩, .of ⟨rfl, rfl, rfl, trivial⟩ ⟨rfl, rfl, trivial⟩ trivial (fun y => .inr (congrFun (congrArg (fun z => upd H i (some (pcell l _ e a b z us))) (List.append_nil V).symm) y))⟩
        · intro k H' hq
          have : r0 = .error k := by rw [← hr]; unfold quantP; rw [if_neg (by rw [h1]; simp), hq]; rfl
          subst this
          conv => whnf
          rfl
      · cases g
  · rintro q ⟨h3, h4, h5⟩
    rw [h3, ok_bind] at hr
    dsimp only at hr
    have bad : ∀ k, declP (toks l) q = .error k → r0 = .error k := fun k hk => by rw [← hr, hk]; rfl
    conv => whnf
    refine goDrawTo noStop [0, 2, 6] (.first 0 false (.first 2 false (.alt 1 (.alt 3 (.alt 4 (.alt 5 (.first 6 false (.alt 7 .fin .noalt)) .noalt) .noalt) .noalt) (.alt 3 (.alt 1 (.alt 4 (.alt 5 (.first 6 false (.alt 7 .fin .noalt)) .noalt) .noalt) (.alt 4 (.alt 1 (.alt 5 (.first 6 false (.alt 7 .fin .noalt)) .noalt) .noalt) .noalt)) .noalt)))) (by kernel_rfl) (by kernel_rfl) (fun s : Dc × Nat => .of [(0, .t (.ptr i 0)), (2, .lp 2 0), (3, .lp 3 0)] [(2, V2), (3, some (.cells [.v (.bool all), .own 2 ((([] : List Dc) ++ [s.1]).map dcTV), .own 6 []]))] [] (upd H i (some (pcell l s.2 e a b (V ++ (([] : List Dc) ++ [s.1]).map Dc.name) us)))) (fun s => declP (toks l) q = .ok s ∧ q < s.2 ∧ s.2 ≤ l.length) ?_ ?_
    · conv => whnf
      refine ⟨?_, ?_, trivial⟩
      · conv => whnf
        refine ⟨PK.use (c_decl hl hE (upd_same _ _ _) (by omega) (by simp; omega)) ?_ ?_, trivial⟩
        · rintro ⟨d, q⟩ hx _ _ ⟨rfl, rfl, hq1, hq2⟩
          conv => whnf
          refine ⟨?_, trivial⟩
          conv => whnf
          refine ⟨⟨by show (((([] : List Dc)).map dcTV).length + 1) * 40 ≤ _; rw [List.length_map]; first | omega | (simp only [List.length_nil]; omega), by show ((([] : List Dc)).map dcTV).length + 1 ≤ _; rw [List.length_map]; first | omega | (simp only [List.length_nil]; omega), ?_⟩, trivial⟩
          conv => whnf
          refine ⟨?_, trivial⟩
          conv => whnf
          refine ⟨(d, q), ⟨hx, hq1, hq2⟩, .of ⟨rfl, rfl, rfl, trivial⟩ ⟨rfl, ?_, trivial⟩ trivial (fun y => .inr ?_)⟩
          · show some (VObj.cells [.v (.bool all), .own 2 (((([] : List Dc)).map dcTV) ++ [dcTV d]), .own 6 []]) = _
            rw [List.map_append]; rfl
          · show upd (upd H i _) i (some (pcell l q e a b ((V ++ (([] : List Dc)).map Dc.name) ++ [d.name]) us)) y = _
            rw [upd_upd, List.map_append, List.append_assoc]; rfl
        · intro k H' hx
          have : r0 = .error k := bad k hx
          subst this
          conv => whnf
          rfl
      · conv => whnf
        refine PK.use (c_decl hl hE (upd_same _ _ _) (by omega) (by simp; omega)) ?_ ?_
        · rintro ⟨d, q⟩ hx _ _ ⟨rfl, rfl, hq1, hq2⟩
          conv => whnf
          refine ⟨?_, ?_, trivial⟩
          · conv => whnf
            refine ⟨?_, trivial⟩
            conv => whnf
            refine ⟨⟨by show (((([] : List Dc)).map dcTV).length + 1) * 40 ≤ _; rw [List.length_map]; first | omega | (simp only [List.length_nil]; omega), by show ((([] : List Dc)).map dcTV).length + 1 ≤ _; rw [List.length_map]; first | omega | (simp only [List.length_nil]; omega), ?_⟩, trivial⟩
            conv => whnf
            refine ⟨?_, trivial⟩
            conv => whnf
            refine ⟨(d, q), ⟨hx, hq1, hq2⟩, .of ⟨rfl, rfl, rfl, trivial⟩ ⟨rfl, ?_, trivial⟩ trivial (fun y => .inr ?_)⟩
            · show some (VObj.cells [.v (.bool all), .own 2 (((([] : List Dc)).map dcTV) ++ [dcTV d]), .own 6 []]) = _
              rw [List.map_append]; rfl
            · show upd (upd H i _) i (some (pcell l q e a b ((V ++ (([] : List Dc)).map Dc.name) ++ [d.name]) us)) y = _
              rw [upd_upd, List.map_append, List.append_assoc]; rfl
          · conv => whnf
            refine ⟨?_, trivial⟩
            conv => whnf
            refine ⟨⟨by show (((([] : List Dc)).map dcTV).length + 1) * 40 ≤ _; rw [List.length_map]; first | omega | (simp only [List.length_nil]; omega), by show ((([] : List Dc)).map dcTV).length + 1 ≤ _; rw [List.length_map]; first | omega | (simp only [List.length_nil]; omega), ?_⟩, trivial⟩
            conv => whnf
            refine ⟨?_, trivial⟩
            conv => whnf
            refine ⟨(d, q), ⟨hx, hq1, hq2⟩, .of ⟨rfl, rfl, rfl, trivial⟩ ⟨rfl, ?_, trivial⟩ trivial (fun y => .inr ?_)⟩
            · show some (VObj.cells [.v (.bool all), .own 2 (((([] : List Dc)).map dcTV) ++ [dcTV d]), .own 6 []]) = _
              rw [List.map_append]; rfl
            · show upd (upd H i _) i (some (pcell l q e a b ((V ++ (([] : List Dc)).map Dc.name) ++ [d.name]) us)) y = _
              rw [upd_upd, List.map_append, List.append_assoc]; rfl
        · intro k H' hx
          have : r0 = .error k := bad k hx
          subst this
          conv => whnf
          rfl
    clear bad
    rintro ⟨d, q1⟩ ⟨h6, h7, h8⟩
    dsimp only at h7 h8
    rw [h6, ok_bind] at hr
    dsimp only at hr
    conv => whnf
    refine goLoop noStop noStop (fun s : Nat × List Dc × Nat => .of [(0, .t (.ptr i 0)), (2, .lp 2 0), (3, .lp 3 0)] [(2, V2), (3, some (.cells [.v (.bool all), .own 2 (s.2.1.map dcTV), .own 6 []]))] [] (upd H i (some (pcell l s.2.2 e a b (V ++ s.2.1.map Dc.name) us))))
      (fun s => p < s.2.2 ∧ s.2.2 ≤ l.length ∧ V.length + s.2.1.length ≤ s.2.2 ∧ l.length - s.2.2 < s.1 ∧ r0 = (do
        let (ds, p) ← declsG (toks l) s.1 s.2.1 s.2.2
        let (cs, p) ← whereP (toks l) (V.length + ds.length) p
        let p ← mustP (toks l) [59] p
        return (⟨all, ds, cs⟩, p))) (fun s => l.length - s.2.2) (5000, [d], q1)
      ⟨by dsimp only; omega, by dsimp only; omega, by simp; omega, by dsimp only; omega, hr.symm⟩ (.of ⟨rfl, rfl, rfl, trivial⟩ ⟨rfl, rfl, trivial⟩ trivial (fun y => .inr rfl)) ?_
    rintro ⟨f, ds, p1⟩ ⟨k1, k2, k3, k4, k5⟩
    dsimp only at k1 k2 k3 k4 k5
    obtain ⟨f, rfl⟩ : ∃ k, f = k + 1 := ⟨f - 1, by omega⟩
    conv => whnf
    refine ⟨(c_take i l hl p1 e a b _ _ (upd_same _ _ _) [44]).mono ?_⟩
    rintro _ _ ⟨rfl, rfl⟩
    cases g1 : aheadP (toks l) [[44]] p1 with
    | true =>
      have hlt := aheadP_lt g1
      rw [declsG, if_pos g1] at k5
      conv => whnf
      constructor <;> intro g
      · have bad : ∀ k, declP (toks l) (p1 + 1) = .error k → r0 = .error k := fun k hk => by rw [k5, hk]; rfl
        conv => whnf
        refine goDrawTo noStop [0, 2, 6] (.first 0 false (.first 2 false (.alt 1 (.alt 3 (.alt 4 (.alt 5 (.first 6 false (.alt 7 .fin .noalt)) .noalt) .noalt) .noalt) (.alt 3 (.alt 1 (.alt 4 (.alt 5 (.first 6 false (.alt 7 .fin .noalt)) .noalt) .noalt) (.alt 4 (.alt 1 (.alt 5 (.first 6 false (.alt 7 .fin .noalt)) .noalt) .noalt) .noalt)) .noalt)))) (by kernel_rfl) (by kernel_rfl) (fun s : Dc × Nat => .of [(0, .t (.ptr i 0)), (2, .lp 2 0), (3, .lp 3 0)] [(2, V2), (3, some (.cells [.v (.bool all), .own 2 ((ds ++ [s.1]).map dcTV), .own 6 []]))] [] (upd H i (some (pcell l s.2 e a b (V ++ (ds ++ [s.1]).map Dc.name) us)))) (fun s => declP (toks l) (p1 + 1) = .ok s ∧ (p1 + 1) < s.2 ∧ s.2 ≤ l.length) ?_ ?_
        · conv => whnf
          refine ⟨?_, ?_, trivial⟩
          · conv => whnf
            refine ⟨PK.use (c_decl hl hE (upd_same _ _ _) (by omega) (by simp; omega)) ?_ ?_, trivial⟩
            · rintro ⟨d, q⟩ hx _ _ ⟨rfl, rfl, hq1, hq2⟩
              conv => whnf
              refine ⟨?_, trivial⟩
              conv => whnf
              refine ⟨⟨by show (((ds).map dcTV).length + 1) * 40 ≤ _; rw [List.length_map]; first | omega | (simp only [List.length_nil]; omega), by show ((ds).map dcTV).length + 1 ≤ _; rw [List.length_map]; first | omega | (simp only [List.length_nil]; omega), ?_⟩, trivial⟩
              conv => whnf
              refine ⟨?_, trivial⟩
              conv => whnf
              refine ⟨(d, q), ⟨hx, hq1, hq2⟩, .of ⟨rfl, rfl, rfl, trivial⟩ ⟨rfl, ?_, trivial⟩ trivial (fun y => .inr ?_)⟩
              · show some (VObj.cells [.v (.bool all), .own 2 (((ds).map dcTV) ++ [dcTV d]), .own 6 []]) = _
                rw [List.map_append]; rfl
              · show upd (upd (upd H i _) i _) i (some (pcell l q e a b ((V ++ (ds).map Dc.name) ++ [d.name]) us)) y = _
                rw [upd_upd, upd_upd, List.map_append, List.append_assoc]; rfl
            · intro k H' hx
              have : r0 = .error k := bad k hx
              subst this
              conv => whnf
              rfl
          · conv => whnf
            refine PK.use (c_decl hl hE (upd_same _ _ _) (by omega) (by simp; omega)) ?_ ?_
            · rintro ⟨d, q⟩ hx _ _ ⟨rfl, rfl, hq1, hq2⟩
              conv => whnf
              refine ⟨?_, ?_, trivial⟩
              · conv => whnf
                refine ⟨?_, trivial⟩
                conv => whnf
                refine ⟨⟨by show (((ds).map dcTV).length + 1) * 40 ≤ _; rw [List.length_map]; first | omega | (simp only [List.length_nil]; omega), by show ((ds).map dcTV).length + 1 ≤ _; rw [List.length_map]; first | omega | (simp only [List.length_nil]; omega), ?_⟩, trivial⟩
                conv => whnf
                refine ⟨?_, trivial⟩
                conv => whnf
                refine ⟨(d, q), ⟨hx, hq1, hq2⟩, .of ⟨rfl, rfl, rfl, trivial⟩ ⟨rfl, ?_, trivial⟩ trivial (fun y => .inr ?_)⟩
                · show some (VObj.cells [.v (.bool all), .own 2 (((ds).map dcTV) ++ [dcTV d]), .own 6 []]) = _
                  rw [List.map_append]; rfl
                · show upd (upd (upd H i _) i _) i (some (pcell l q e a b ((V ++ (ds).map Dc.name) ++ [d.name]) us)) y = _
                  rw [upd_upd, upd_upd, List.map_append, List.append_assoc]; rfl
              · conv => whnf
                refine ⟨?_, trivial⟩
                conv => whnf
                refine ⟨⟨by show (((ds).map dcTV).length + 1) * 40 ≤ _; rw [List.length_map]; first | omega | (simp only [List.length_nil]; omega), by show ((ds).map dcTV).length + 1 ≤ _; rw [List.length_map]; first | omega | (simp only [List.length_nil]; omega), ?_⟩, trivial⟩
                conv => whnf
                refine ⟨?_, trivial⟩
                conv => whnf
                refine ⟨(d, q), ⟨hx, hq1, hq2⟩, .of ⟨rfl, rfl, rfl, trivial⟩ ⟨rfl, ?_, trivial⟩ trivial (fun y => .inr ?_)⟩
                · show some (VObj.cells [.v (.bool all), .own 2 (((ds).map dcTV) ++ [dcTV d]), .own 6 []]) = _
                  rw [List.map_append]; rfl
                · show upd (upd (upd H i _) i _) i (some (pcell l q e a b ((V ++ (ds).map Dc.name) ++ [d.name]) us)) y = _
                  rw [upd_upd, upd_upd, List.map_append, List.append_assoc]; rfl
            · intro k H' hx
              have : r0 = .error k := bad k hx
              subst this
              conv => whnf
              rfl
        rintro ⟨d2, q2⟩ ⟨g2, g3, g4⟩
        dsimp only at g3 g4
        rw [g2] at k5
        conv => whnf
        exact ⟨(f, ds ++ [d2], q2), ⟨by dsimp only; omega, g4, by simp; omega, by dsimp only; omega, k5⟩, by dsimp only; omega, .of ⟨rfl, rfl, rfl, trivial⟩ ⟨rfl, rfl, trivial⟩ trivial (fun y => .inr rfl)⟩
      · cases g
    | false =>
      rw [declsG, if_neg (by rw [g1]; simp), ok_bind] at k5
      dsimp only at k5
      conv => whnf
      constructor <;> intro g
      · cases g
      conv => whnf
      refine goSeqTo noStop noStop noStop (fun s : List Cr × Nat × (Nat → Option RObj) => .of [(0, .t (.ptr i 0)), (2, .lp 2 0), (3, .lp 3 0)] [(2, V2), (3, some (.cells [.v (.bool all), .own 2 (ds.map dcTV), .own 6 (s.1.map Cr.tv)]))] [] s.2.2)
        (fun s => whereP (toks l) (V.length + ds.length) p1 = .ok (s.1.map Cr.c, s.2.1) ∧ LD H i l e a b (V ++ ds.map Dc.name) us s.1 s.2.1 s.2.2 ∧ p1 ≤ s.2.1) ?_ ?_
      · conv => whnf
        refine ⟨(c_take i l hl p1 e a b _ _ (upd_same _ _ _) kWhere).mono ?_⟩
        rintro _ _ ⟨rfl, rfl⟩
        unfold whereP
        cases m1 : aheadP (toks l) [kWhere] p1 with
        | true =>
          have hlt := aheadP_lt m1
          conv => whnf
          constructor <;> intro m2
          · conv => whnf
            refine PK.use (c_list hl hE (V := V ++ ds.map Dc.name) (us := us) (p := p1 + 1) (upd_same _ _ _) (by omega) (by omega) (by simp; omega)) ?_ ?_
            · rintro ⟨cs, q2⟩ hx _ H2 ⟨xs, hxs, rfl, hd⟩
              dsimp only at hxs hd
              have hle := listP_lt hx
              dsimp only at hle
              subst hxs
              rw [List.length_append, List.length_map] at hx
              conv => whnf
              refine ⟨(xs, q2, H2), ⟨by rw [if_pos rfl]; exact hx, hd.base (fun y hy => ?_) ?_, by dsimp only; omega⟩, .of ⟨rfl, rfl, rfl, trivial⟩ ⟨rfl, rfl, trivial⟩ trivial (fun y => .inr rfl)⟩
              · show upd (upd H i _) i _ y = _
                rw [upd_ne _ _ hy, upd_ne _ _ hy]
              · show upd (upd H i _) i _ i ≠ none
                rw [upd_same]; simp
            · intro k H' hx
              have : r0 = .error k := by
                rw [k5]
                unfold whereP
                rw [List.length_append, List.length_map] at hx
                rw [if_pos m1, hx]
                rfl
              subst this
              conv => whnf
              rfl
          · cases m2
        | false =>
          conv => whnf
          constructor <;> intro m2
          · cases m2
          · conv => whnf
            refine ⟨([], p1, _), ⟨by rw [if_neg (by simp)]; rfl, ⟨?_, .nil _ _, ?_, k2, ?_, by simp⟩, Nat.le_refl _⟩, .of ⟨rfl, rfl, rfl, trivial⟩ ⟨rfl, rfl, trivial⟩ trivial (fun y => .inr rfl)⟩
            · rw [usesOf_nil, List.append_nil]; exact upd_same _ _ _
            · exact .upd _
            · simp [usesOf]; omega
      · rintro ⟨xs, q2, H2⟩ ⟨m1, m2, m3⟩
        dsimp only at m1 m2 m3
        rw [m1, ok_bind] at k5
        dsimp only at k5
        have n1 := m2.hp
        have n2 := m2.hu
        conv => whnf
        refine PK.use (c_must i l hl q2 e a b _ _ m2.hi [59]) ?_ ?_
        · rintro q3 hq3 _ _ ⟨rfl, rfl⟩
          have n3 := mustP_lt hq3
          rw [toks, List.length_map] at n3
          rw [hq3] at k5
          obtain rfl : r0 = .ok (⟨all, ds, xs.map Cr.c⟩, q3) := k5
          have hlV : (V ++ ds.map Dc.name).length = V.length + ds.length := by simp
          rw [hlV] at n2
          conv => whnf
          refine ⟨xs, rfl, ⟨rfl, ?_, m2.ar.frm m2.hi (.upd _), m2.fr.trans (.upd _), by dsimp only; omega, by dsimp only; omega, by dsimp only; omega, by dsimp only; omega⟩⟩
          rw [← hlV]
          exact upd_same _ _ _
        · intro k H' hq3
          rw [hq3] at k5
          obtain rfl : r0 = .error k := k5
          conv => whnf
          rfl
end
end Go.T
set_option linter.unusedVariables false
set_option linter.unusedSimpArgs false
namespace Go.T
open Go.Proofs Go.RowKit
variable {Ev : Env} {H : Nat → Option RObj}
/-- A block, and where its constraints' numbers stand. -/
structure BkX where
  b : Bk
  xs : List Cr
def BkX.tv (y : BkX) : TV := bkTV y.b y.xs
def namesB (bs : List BkX) : List (List UInt8) := bs.flatMap fun y => y.b.vars.map Dc.name
def usesB (l : List Tk) : Nat → List BkX → List TV
  | _, [] => []
  | n, y :: bs => usesOf l (n + y.b.vars.length) y.xs ++ usesB l (n + y.b.vars.length) bs
theorem namesB_append (xs ys : List BkX) : namesB (xs ++ ys) = namesB xs ++ namesB ys := by simp [namesB]
theorem namesB_one (y : BkX) : namesB [y] = y.b.vars.map Dc.name := by simp [namesB]
theorem usesB_append (l : List Tk) : ∀ (n : Nat) (xs ys : List BkX), usesB l n (xs ++ ys) = usesB l n xs ++ usesB l (n + (namesB xs).length) ys
  | n, [], ys => by simp [usesB, namesB]
  | n, x :: xs, ys => by
    rw [List.cons_append, usesB, usesB, usesB_append, List.append_assoc]
    congr 3
    rw [show x :: xs = [x] ++ xs from rfl, namesB_append, namesB_one]
    simp; omega
theorem BD.base {H1 H0 : Nat → Option RObj} {i : Nat} {l : List Tk} {e : Int} {a b : CV} {V : List (List UInt8)} {us : List TV} {xs : List Cr} {p q : Nat} {bk : Bk} (h : BD H1 i l e a b V us p bk xs q H) (h1 : ∀ y, y ≠ i → H1 y = H0 y) (h2 : H1 i ≠ none) : BD H0 i l e a b V us p bk xs q H := {
  cs := h.cs
  hi := h.hi
  ar := ⟨h.ar.at_, fun x hx => (h.ar.new x hx).imp id fun hn => by rw [← h1 x.r (fun e => by rw [e] at hn; exact h2 hn)]; exact hn, h.ar.apart⟩
  fr x hx hn := by rw [← h1 x hx] at hn ⊢; exact h.fr x hx hn
  lt := h.lt
  hp := h.hp
  hu := h.hu
  hV := h.hV }
structure AD (H0 : Nat → Option RObj) (i : Nat) (l : List Tk) (e : Int) (bs : List BkX) (p : Nat) (H : Nat → Option RObj) : Prop where
  hi : H i = some (pcell l p e (.own 3 (bs.map BkX.tv)) (.own 6 []) (namesB bs) (usesB l 0 bs))
  ar : Arrs H0 H (bs.flatMap BkX.xs)
  fr : Frm i H0 H
  hp : p ≤ l.length
  hu : (usesB l 0 bs).length ≤ p
  hV : (namesB bs).length ≤ p
  cs : ∀ y, y ∈ bs → y.xs.map Cr.c = y.b.cons
  hb : bs.length ≤ p
theorem names_add (bs : List BkX) (bk : Bk) (xs : List Cr) : namesB (bs ++ [BkX.mk bk xs]) = namesB bs ++ bk.vars.map Dc.name := by rw [namesB_append, namesB_one]
theorem uses_add (l : List Tk) (bs : List BkX) (bk : Bk) (xs : List Cr) : usesB l 0 (bs ++ [BkX.mk bk xs]) = usesB l 0 bs ++ usesOf l ((namesB bs).length + bk.vars.length) xs := by
  rw [usesB_append]; simp [usesB]
theorem AD.add {H0 : Nat → Option RObj} {i : Nat} {l : List Tk} {e : Int} {bs : List BkX} {p : Nat} (h : AD H0 i l e bs p H) {a b : CV} {bk : Bk} {xs : List Cr} {q : Nat} {H2 H3 : Nat → Option RObj} (k : BD H i l e a b (namesB bs) (usesB l 0 bs) p bk xs q H2)
    (h3 : H3 = upd H2 i (some (pcell l q e (.own 3 ((bs ++ [BkX.mk bk xs]).map BkX.tv)) (.own 6 []) (namesB (bs ++ [BkX.mk bk xs])) (usesB l 0 (bs ++ [BkX.mk bk xs]))))) : AD H0 i l e (bs ++ [BkX.mk bk xs]) q H3 := by
  have hn : namesB (bs ++ [BkX.mk bk xs]) = namesB bs ++ bk.vars.map Dc.name := by rw [namesB_append, namesB_one]
  have hu : usesB l 0 (bs ++ [BkX.mk bk xs]) = usesB l 0 bs ++ usesOf l ((namesB bs).length + bk.vars.length) xs := by
    rw [usesB_append]; simp [usesB]
  have hf : Frm i H2 H3 := by rw [h3]; exact .upd _
  have hx : (bs ++ [BkX.mk bk xs] : List BkX).flatMap BkX.xs = bs.flatMap BkX.xs ++ xs := by simp
  refine ⟨by rw [h3]; exact upd_same _ _ _, ?_, (h.fr.trans k.fr).trans hf, k.hp, ?_, ?_, fun y hy => ?_, ?_⟩
  · rw [hx]
    exact (h.ar.append h.hi h.fr k.fr k.ar).frm k.hi hf
  · rw [hu, List.length_append]; exact k.hu
  · rw [hn, List.length_append, List.length_map]; exact k.hV
  · rcases List.mem_append.1 hy with h1 | h1
    · exact h.cs y h1
    · rw [List.mem_singleton.1 h1]; exact k.cs
  · have := h.hb; have := k.lt; simp; omega
/-- What was parsed, in the heap. -/
structure MD (H0 : Nat → Option RObj) (i : Nat) (l : List Tk) (e : Int) (m : Md) (bs : List BkX) (g : List Cr) (H : Nat → Option RObj) : Prop where
  bk : bs.map BkX.b = m.blocks
  cs : ∀ y, y ∈ bs → y.xs.map Cr.c = y.b.cons
  gl : g.map Cr.c = m.goal
  hi : H i = some (pcell l l.length e (.own 3 (bs.map BkX.tv)) (.own 6 (g.map Cr.tv)) (namesB bs) (usesB l 0 bs ++ usesOf l (namesB bs).length g))
  ar : Arrs H0 H (bs.flatMap BkX.xs ++ g)
  fr : Frm i H0 H
  hu : (usesB l 0 bs ++ usesOf l (namesB bs).length g).length ≤ l.length
  hV : (namesB bs).length ≤ l.length
theorem declP_lt {l : List Tok} {p : Nat} {x : Dc × Nat} (h : declP l p = .ok x) : p < x.2 := by
  have key : ∀ (f : Nat) {acc : List (Int × Int)} {p : Nat} {x : List (Int × Int) × Nat}, domG l f acc p = .ok x → p ≤ x.2 := by
    intro f
    induction f with
    | zero => intro acc p x h; simp [domG] at h
    | succ f ih =>
      intro acc p x h
      unfold domG spanP highP at h
      cases h2 : numberP l p with
      | error k => rw [h2] at h; cases h
      | ok y =>
        have h3 := numberP_le h2
        rw [h2, ok_bind] at h
        dsimp only at h
        by_cases h4 : aheadP l [kDots] y.2 = true
        · rw [if_pos h4] at h
          cases h5 : numberP l (y.2 + 1) with
          | error k => rw [h5] at h; cases h
          | ok z =>
            have h6 := numberP_le h5
            rw [h5, ok_bind] at h
            dsimp only [pure, Except.pure] at h
            split at h
            · have := ih h; omega
            · cases h; dsimp only; omega
        · rw [if_neg h4, ok_bind] at h
          dsimp only [pure, Except.pure] at h
          split at h
          · have := ih h; omega
          · cases h; dsimp only; omega
  unfold declP at h
  cases h1 : nameP l p with
  | error k => rw [h1] at h; cases h
  | ok q =>
    rw [h1, ok_bind] at h
    have hq : q = p + 1 := by
      unfold nameP at h1
      split at h1
      · cases h1; rfl
      · cases h1
    cases h2 : mustP l kIn q with
    | error k => rw [h2] at h; cases h
    | ok q2 =>
      rw [h2, ok_bind] at h
      have := (mustP_ok h2).1
      cases h3 : domG l 5000 [] q2 with
      | error k => rw [h3] at h; cases h
      | ok y => rw [h3, ok_bind] at h; cases h; have := key _ h3; dsimp only; omega
theorem declsG_le {l : List Tok} : ∀ (f : Nat) {acc : List Dc} {p : Nat} {x : List Dc × Nat}, declsG l f acc p = .ok x → p ≤ x.2
  | 0, acc, p, x, h => by simp [declsG] at h
  | f + 1, acc, p, x, h => by
    unfold declsG at h
    split at h
    · cases h2 : declP l (p + 1) with
      | error k => rw [h2] at h; cases h
      | ok y => rw [h2] at h; have := declP_lt h2; have := declsG_le f h; omega
    · cases h; exact Nat.le_refl _
theorem blockP_lt {l : List Tok} {n p : Nat} {x : Bk × Nat} (h : blockP l n p = .ok x) : p < x.2 := by
  unfold blockP at h
  cases h1 : quantP l p with
  | error k => rw [h1] at h; cases h
  | ok a =>
    have a1 : p < a.2 := by
      unfold quantP at h1
      split at h1
      · cases h1; dsimp only; omega
      · cases h2 : mustP l kExists p with
        | error k => rw [h2] at h1; cases h1
        | ok q => rw [h2] at h1; cases h1; have := (mustP_ok h2).1; dsimp only; omega
    rw [h1, ok_bind] at h
    dsimp only at h
    cases h2 : declP l a.2 with
    | error k => rw [h2] at h; cases h
    | ok d =>
      have a2 := declP_lt h2
      rw [h2, ok_bind] at h
      cases h3 : declsG l 5000 [d.1] d.2 with
      | error k => rw [h3] at h; cases h
      | ok ds =>
        have a3 := declsG_le _ h3
        rw [h3, ok_bind] at h
        cases h4 : whereP l (n + ds.1.length) ds.2 with
        | error k => rw [h4] at h; cases h
        | ok cs =>
          have a4 : ds.2 ≤ cs.2 := by
            unfold whereP at h4
            split at h4
            · have := listP_lt h4; omega
            · cases h4; exact Nat.le_refl _
          rw [h4, ok_bind] at h
          cases h5 : mustP l [59] cs.2 with
          | error k => rw [h5] at h; cases h
          | ok q => rw [h5] at h; cases h; have := (mustP_ok h5).1; dsimp only; omega
theorem uptoB_append (xs : List Bk) (y : Bk) : uptoB (xs ++ [y]) = uptoB xs + y.vars.length := by simp [uptoB]
theorem uptoB_names : ∀ (bs : List BkX), uptoB (bs.map BkX.b) = (namesB bs).length := by
  intro bs
  have key : ∀ (bs : List BkX) (n : Nat), (bs.map BkX.b).foldl (fun n b => n + b.vars.length) n = n + (namesB bs).length := by
    intro bs
    induction bs with
    | nil => intro n; simp [namesB]
    | cons y bs ih =>
      intro n
      rw [List.map_cons, List.foldl_cons, ih, show y :: bs = [y] ++ bs from rfl, namesB_append, namesB_one]
      simp; omega
  have := key bs 0
  simpa [uptoB] using this
section
variable {i : Nat} {l : List Tk} (hl : Toks l) {e : Int}
include hl
set_option maxHeartbeats 2000000 in
theorem c_all (hE : ∀ w, Ev.E w → HasMax w) (hH : H i = some (pcell l 0 e (.own 3 []) (.own 6 []) [] [])) :
    TCalls Tryz.prog Ev 33 [.ptr i 0] H (PK (allP (toks l) 0) l e fun x o H' => o = .ret (.tup []) ∧ ∃ bs g, MD H i l e x.1 bs g H') := by
  generalize hr : allP (toks l) 0 = r0
  have hlen := hl.len
  unfold allP at hr
  let H0 := H
  have ad0 : AD H0 i l e [] 0 H := ⟨hH, .nil _ _, .refl _ _, by omega, by simp [usesB], by simp [namesB], by simp, by simp⟩
  refine go noStop noStop Tryz.func33 rfl (by kernel_rfl) rfl ?_
  conv => whnf
  refine goLoop noStop (stopAt 4) (fun s : Nat × List BkX × Nat × Bool × (Nat → Option RObj) => .of [(0, .t (.ptr i 0)), (2, .t (.bool s.2.2.2.1))] [] [] s.2.2.2.2)
    (fun s => AD H0 i l e s.2.1 s.2.2.1 s.2.2.2.2 ∧ l.length - s.2.2.1 < s.1 ∧ r0 = (do
      let (bs, p) ← (match s.2.2.2.1 with
        | true => blocksG (toks l) s.1 (s.2.1.map BkX.b) s.2.2.1
        | false => .ok (s.2.1.map BkX.b, s.2.2.1))
      let p ← mustP (toks l) kGoal p
      let (g, p) ← listP (toks l) (uptoB bs) p
      let p ← mustP (toks l) [59] p
      if p < (toks l).length then .error p else .ok (⟨bs, g⟩, p))) (fun s => (l.length - s.2.2.1) + (if s.2.2.2.1 then 1 else 0)) (5000, [], 0, true, H)
    ⟨ad0, by dsimp only; omega, hr.symm⟩ (.of ⟨rfl, rfl, trivial⟩ trivial trivial (fun y => .inr rfl)) ?_
  rintro ⟨f, bs, p1, more, H⟩ ⟨ad, h1, h2⟩
  dsimp only at ad h1 h2
  cases more with
  | true =>
    obtain ⟨f, rfl⟩ : ∃ k, f = k + 1 := ⟨f - 1, by omega⟩
    unfold blocksG at h2
    rw [uptoB_names] at h2
    have hb := ad.hb
    have hp1 := ad.hp
    have bad : ∀ k, blockP (toks l) (namesB bs).length p1 = .error k → r0 = .error k := fun k hk => by rw [h2, hk]; rfl
    conv => whnf
    constructor <;> intro g
    · have eqb : ∀ (bk : Bk) (xs : List Cr), CV.own 3 (bs.map BkX.tv ++ [bkTV bk xs]) = CV.own 3 ((bs ++ [BkX.mk bk xs]).map BkX.tv) := fun bk xs => by rw [List.map_append]; rfl
      conv => whnf
      refine goDrawTo noStop [0, 1, 2, 3, 4, 6, 10, 11, 12] (.first 0 false (.first 1 false (.first 2 false (.first 3 false (.first 4 false (.first 6 false (.alt 5 (.alt 7 (.alt 8 (.alt 9 (.first 10 false (.first 11 false (.first 12 false (.alt 13 .fin .noalt)))) .noalt) .noalt) .noalt) (.alt 7 (.alt 5 (.alt 8 (.alt 9 (.first 10 false (.first 11 false (.first 12 false (.alt 13 .fin .noalt)))) .noalt) .noalt) (.alt 8 (.alt 5 (.alt 9 (.first 10 false (.first 11 false (.first 12 false (.alt 13 .fin .noalt)))) .noalt) .noalt) .noalt)) .noalt)))))))) (by kernel_rfl) (by kernel_rfl) (fun s : BkX × Nat × (Nat → Option RObj) => .of [(0, .t (.ptr i 0))] [] [] s.2.2) (fun s => blockP (toks l) (namesB bs).length p1 = .ok (s.1.b, s.2.1) ∧ AD H0 i l e (bs ++ [s.1]) s.2.1 s.2.2) ?_ ?_
      · conv => whnf
        refine ⟨?_, ?_, trivial⟩
        · conv => whnf
          refine ⟨_, ad.hi, ?_⟩
          conv => whnf
          refine ⟨PK.use (c_block hl hE (upd_same _ _ _) ad.hp (by have := ad.hu; omega) ad.hV) ?_ ?_, trivial⟩
          · rintro ⟨bk, q⟩ hx _ H2 ⟨xs, rfl, hd⟩
            dsimp only at hd
            have hd' : BD H i l e _ _ (namesB bs) (usesB l 0 bs) p1 bk xs q H2 := hd.base (fun y hy => upd_ne _ _ hy) (by show upd _ i _ i ≠ none; rw [upd_same]; simp)
            conv => whnf
            refine ⟨?_, trivial⟩
            conv => whnf
            refine ⟨⟨by show ((bs.map BkX.tv).length + 1) * 56 ≤ _; rw [List.length_map]; omega, by show (bs.map BkX.tv).length + 1 ≤ _; rw [List.length_map]; omega, ?_⟩, trivial⟩
            conv => whnf
            refine ⟨⟨_, hd.hi, ?_⟩, trivial⟩
            conv => whnf
            refine ⟨(BkX.mk bk xs, q, upd H2 i (some (pcell l q e (.own 3 ((bs ++ [BkX.mk bk xs]).map BkX.tv)) (.own 6 []) (namesB (bs ++ [BkX.mk bk xs])) (usesB l 0 (bs ++ [BkX.mk bk xs]))))), ⟨hx, ad.add hd' rfl⟩, .of ⟨rfl, trivial⟩ trivial trivial (fun y => .inr ?_)⟩
            show upd H2 i (some (pcell l q e (.own 3 (bs.map BkX.tv ++ [bkTV bk xs])) (.own 6 []) (namesB bs ++ bk.vars.map Dc.name) (usesB l 0 bs ++ usesOf l ((namesB bs).length + bk.vars.length) xs))) y = _; rw [← names_add bs bk xs, ← uses_add l bs bk xs, eqb]
          · intro k H' hx
            have : r0 = .error k := bad k hx
            subst this
            conv => whnf
            rfl
        · conv => whnf
          refine PK.use (c_block hl hE ad.hi ad.hp (by have := ad.hu; omega) ad.hV) ?_ ?_
          · rintro ⟨bk, q⟩ hx _ H2 ⟨xs, rfl, hd⟩
            dsimp only at hd
            have hd' := hd
            conv => whnf
            refine ⟨?_, ?_, trivial⟩
            · conv => whnf
              refine ⟨_, hd.hi, ?_⟩
              conv => whnf
              refine ⟨?_, trivial⟩
              conv => whnf
              refine ⟨⟨by show ((bs.map BkX.tv).length + 1) * 56 ≤ _; rw [List.length_map]; omega, by show (bs.map BkX.tv).length + 1 ≤ _; rw [List.length_map]; omega, ?_⟩, trivial⟩
              conv => whnf
              refine ⟨⟨_, upd_same _ _ _, ?_⟩, trivial⟩
              conv => whnf
              refine ⟨(BkX.mk bk xs, q, upd H2 i (some (pcell l q e (.own 3 ((bs ++ [BkX.mk bk xs]).map BkX.tv)) (.own 6 []) (namesB (bs ++ [BkX.mk bk xs])) (usesB l 0 (bs ++ [BkX.mk bk xs]))))), ⟨hx, ad.add hd' rfl⟩, .of ⟨rfl, trivial⟩ trivial trivial (fun y => .inr ?_)⟩
              show upd (upd H2 i _) i (some (pcell l q e (.own 3 (bs.map BkX.tv ++ [bkTV bk xs])) (.own 6 []) (namesB bs ++ bk.vars.map Dc.name) (usesB l 0 bs ++ usesOf l ((namesB bs).length + bk.vars.length) xs))) y = _; rw [upd_upd, ← names_add bs bk xs, ← uses_add l bs bk xs, eqb]
            · conv => whnf
              refine ⟨⟨_, hd.hi, ?_⟩, trivial⟩
              conv => whnf
              refine ⟨⟨by show ((bs.map BkX.tv).length + 1) * 56 ≤ _; rw [List.length_map]; omega, by show (bs.map BkX.tv).length + 1 ≤ _; rw [List.length_map]; omega, ?_⟩, trivial⟩
              conv => whnf
              refine ⟨⟨_, upd_same _ _ _, ?_⟩, trivial⟩
              conv => whnf
              refine ⟨(BkX.mk bk xs, q, upd H2 i (some (pcell l q e (.own 3 ((bs ++ [BkX.mk bk xs]).map BkX.tv)) (.own 6 []) (namesB (bs ++ [BkX.mk bk xs])) (usesB l 0 (bs ++ [BkX.mk bk xs]))))), ⟨hx, ad.add hd' rfl⟩, .of ⟨rfl, trivial⟩ trivial trivial (fun y => .inr ?_)⟩
              show upd (upd H2 i _) i (some (pcell l q e (.own 3 (bs.map BkX.tv ++ [bkTV bk xs])) (.own 6 []) (namesB bs ++ bk.vars.map Dc.name) (usesB l 0 bs ++ usesOf l ((namesB bs).length + bk.vars.length) xs))) y = _; rw [upd_upd, ← names_add bs bk xs, ← uses_add l bs bk xs, eqb]
          · intro k H' hx
            have : r0 = .error k := bad k hx
            subst this
            conv => whnf
            rfl
      · rintro ⟨y, q, H2⟩ ⟨h3, ad2⟩
        dsimp only at h3 ad2
        have hlt := blockP_lt h3
        have hq2 := ad2.hp
        dsimp only at hlt
        rw [h3] at h2
        dsimp only at h2
        conv => whnf
        refine (c_ahead i l q e _ _ _ _ ad2.hi [kGoal]).use ?_
        conv => whnf
        cases h4 : aheadP (toks l) [kGoal] q with
        | true =>
          rw [if_pos h4] at h2
          refine ⟨(f, bs ++ [y], q, false, H2), ⟨ad2, by dsimp only; omega, by rw [h2, List.map_append]; rfl⟩, by simp; omega, .of ⟨rfl, rfl, trivial⟩ trivial trivial (fun y => .inr rfl)⟩
        | false =>
          rw [if_neg (by rw [h4]; simp)] at h2
          refine ⟨(f, bs ++ [y], q, true, H2), ⟨ad2, by dsimp only; omega, by rw [h2, List.map_append]; rfl⟩, by simp; omega, .of ⟨rfl, rfl, trivial⟩ trivial trivial (fun y => .inr rfl)⟩
    · cases g
  | false =>
    rw [ok_bind] at h2
    dsimp only at h2
    rw [uptoB_names] at h2
    conv => whnf
    constructor <;> intro g
    · cases g
    conv => whnf
    have hp1 := ad.hp
    refine PK.use (c_must i l hl p1 e _ _ _ _ ad.hi kGoal) ?_ ?_
    · rintro q hq _ _ ⟨rfl, rfl⟩
      have h3 := mustP_lt hq
      rw [toks, List.length_map] at h3
      rw [hq, ok_bind] at h2
      conv => whnf
      have hu := ad.hu
      have hV := ad.hV
      refine PK.use (c_list hl hE (upd_same _ _ _) (by omega) (by omega) (by omega)) ?_ ?_
      · rintro ⟨cs, q2⟩ hx _ H2 ⟨xs, hxs, rfl, ld⟩
        dsimp only at hxs ld
        subst hxs
        rw [hx, ok_bind] at h2
        dsimp only at h2
        have h4 := ld.hp
        conv => whnf
        refine ⟨_, ld.hi, ?_⟩
        conv => whnf
        refine PK.use (c_must i l hl q2 e _ _ _ _ (upd_same _ _ _) [59]) ?_ ?_
        · rintro q3 hq3 _ _ ⟨rfl, rfl⟩
          have h5 := mustP_lt hq3
          rw [toks, List.length_map] at h5
          rw [hq3, ok_bind] at h2
          conv => whnf
          refine goDraw noStop [0, 1, 2, 3, 4, 5, 6, 7, 8, 9] (.first 0 false (.first 1 false (.first 2 false (.first 4 false (.first 5 false (.first 6 false (.first 3 true (.first 7 true (.first 8 false (.first 9 false .fin)))))))))) (by kernel_rfl) (by kernel_rfl) ?_
          refine ⟨_, upd_same _ _ _, ?_⟩
          conv => whnf
          refine ⟨_, upd_same _ _ _, ?_⟩
          conv => whnf
          intro hm
          constructor <;> intro h6
          · have h6' := lt_of h6
            rw [if_pos (by rw [toks, List.length_map]; exact h6')] at h2
            subst h2
            conv => whnf
            refine ⟨(c_fail i l q3 e _ _ _ _ (upd_same _ _ _)).mono ?_⟩
            rintro _ _ ⟨rfl, rfl⟩
            conv => whnf
            rfl
          · have h6' := ge_of h6
            rw [if_neg (by rw [toks, List.length_map]; omega)] at h2
            subst h2
            obtain rfl : q3 = l.length := by omega
            conv => whnf
            refine ⟨rfl, bs, xs, rfl, ad.cs, rfl, ?_, ?_, ?_, ?_, ?_⟩
            · exact upd_same _ _ _
            · exact ((ad.ar.frm ad.hi (.upd _)).append (upd_same _ _ _) (ad.fr.trans (.upd _)) ld.fr ld.ar).frm ld.hi (Frm.trans (.upd _) (.upd _))
            · exact ((ad.fr.trans (.upd _)).trans ld.fr).trans (Frm.trans (.upd _) (.upd _))
            · have := ld.hu; rw [List.length_append]; omega
            · omega
        · intro k H' hq3
          rw [hq3] at h2
          obtain rfl : r0 = .error k := h2
          conv => whnf
          rfl
      · intro k H' hx
        rw [hx] at h2
        obtain rfl : r0 = .error k := h2
        conv => whnf
        rfl
    · intro k H' hq
      rw [hq] at h2
      obtain rfl : r0 = .error k := h2
      conv => whnf
      rfl
end
end Go.T
