/-
  The table of types of the seat's program.
  Letters, digits.
  The longest beginning of which each letter is of a kind.
  The value of digits.
  What the library's functions on texts answer.
  The first token of a text that is not empty.
  The tokens of a text.
  The parser gives up: it panics with a place.
  Is a text in a list.
  What the parser computes, over tokens without places: a place in the list of tokens, at which it is wrong, or what is taken and the place behind it.
  The parser looks at the next token, and takes it.
  The parser takes tokens: texts, names, numbers.
  The parser takes numbers in brackets.
  The parser takes names in a constraint, and terms.
  A constraint that is being made: names, terms.
-/
import Derived.Test.YtggflojpgncjlaaGreatDoorTc
import Derived.Test.YtggflojpgncjlaaGreatDoorProg
import Derived.Test.YtggflojpgncjlaaGreatDoorShelf
set_option linter.unusedVariables false
set_option linter.unusedSimpArgs false
set_option linter.unusedSectionVars false
set_option linter.unusedVariables false
namespace Go.T
open Go.Proofs
def tyL : List (Nat × TyI) := [
  (3, ⟨1, 8, .int .i64, [.v (.int .i64 0)]⟩),
  (4, ⟨1, 1, .bool, [.v (.bool false)]⟩),
  (9, ⟨1, 16, .str, [.v (.str [])]⟩),
  (5, ⟨1, 1, .int .u8, [.v (.int .u8 0)]⟩),
  (21, ⟨1, 4, .int .i32, [.v (.int .i32 0)]⟩),
  (23, ⟨1, 24, .slice 47, [.nils]⟩),
  (24, ⟨1, 24, .slice 50, [.nils]⟩),
  (25, ⟨2, 48, .struct [(0, 23), (1, 24)], [.nils, .nils]⟩),
  (26, ⟨2, 48, .struct [(0, 23), (1, 24)], [.nils, .nils]⟩),
  (27, ⟨1, 8, .int .i64, [.v (.int .i64 0)]⟩),
  (32, ⟨1, 2, .int .u16, [.v (.int .u16 0)]⟩),
  (33, ⟨1, 24, .slice 37, [.nils]⟩),
  (36, ⟨4, 40, .struct [(0, 3), (1, 9), (2, 3), (3, 3)], [.v (.int .i64 0), .v (.str []), .v (.int .i64 0), .v (.int .i64 0)]⟩),
  (37, ⟨4, 40, .struct [(0, 3), (1, 9), (2, 3), (3, 3)], [.v (.int .i64 0), .v (.str []), .v (.int .i64 0), .v (.int .i64 0)]⟩),
  (40, ⟨2, 16, .struct [(0, 3), (1, 3)], [.v (.int .i64 0), .v (.int .i64 0)]⟩),
  (41, ⟨2, 16, .struct [(0, 3), (1, 3)], [.v (.int .i64 0), .v (.int .i64 0)]⟩),
  (42, ⟨1, 24, .slice 41, [.nils]⟩),
  (43, ⟨2, 40, .struct [(0, 9), (1, 42)], [.v (.str []), .nils]⟩),
  (44, ⟨2, 40, .struct [(0, 9), (1, 42)], [.v (.str []), .nils]⟩),
  (45, ⟨1, 24, .slice 44, [.nils]⟩),
  (46, ⟨3, 56, .struct [(0, 4), (1, 45), (2, 24)], [.v (.bool false), .nils, .nils]⟩),
  (47, ⟨3, 56, .struct [(0, 4), (1, 45), (2, 24)], [.v (.bool false), .nils, .nils]⟩),
  (48, ⟨1, 24, .slice 3, [.nils]⟩),
  (49, ⟨6, 96, .struct [(0, 3), (1, 48), (2, 48), (3, 3), (4, 3), (5, 48)], [.v (.int .i64 0), .nils, .nils, .v (.int .i64 0), .v (.int .i64 0), .nils]⟩),
  (50, ⟨6, 96, .struct [(0, 3), (1, 48), (2, 48), (3, 3), (4, 3), (5, 48)], [.v (.int .i64 0), .nils, .nils, .v (.int .i64 0), .v (.int .i64 0), .nils]⟩),
  (51, ⟨1, 24, .slice 71, [.nils]⟩),
  (54, ⟨1, 8, .ptr 58, [.v .nilp]⟩),
  (55, ⟨1, 24, .slice 9, [.nils]⟩),
  (56, ⟨1, 24, .slice 79, [.nils]⟩),
  (57, ⟨7, 136, .struct [(0, 51), (1, 3), (2, 3), (3, 26), (5, 55), (6, 56)], [.nils, .v (.int .i64 0), .v (.int .i64 0), .nils, .nils, .nils, .nils]⟩),
  (58, ⟨7, 136, .struct [(0, 51), (1, 3), (2, 3), (3, 26), (5, 55), (6, 56)], [.nils, .v (.int .i64 0), .v (.int .i64 0), .nils, .nils, .nils, .nils]⟩),
  (71, ⟨4, 40, .struct [(0, 3), (1, 9), (2, 3), (3, 3)], [.v (.int .i64 0), .v (.str []), .v (.int .i64 0), .v (.int .i64 0)]⟩),
  (73, ⟨1, 8, .int .i64, [.v (.int .i64 0)]⟩),
  (75, ⟨1, 24, .slice 77, [.nils]⟩),
  (77, ⟨1, 8, .ptr 50, [.v .nilp]⟩),
  (78, ⟨3, 32, .struct [(0, 9), (1, 3), (2, 3)], [.v (.str []), .v (.int .i64 0), .v (.int .i64 0)]⟩),
  (79, ⟨3, 32, .struct [(0, 9), (1, 3), (2, 3)], [.v (.str []), .v (.int .i64 0), .v (.int .i64 0)]⟩),
  (91, ⟨1, 24, .slice 5, [.nils]⟩),
  (108, ⟨1, 8, .ptr 104, [.v .nilp]⟩),
  (111, ⟨7, 104, .struct [(0, 50), (6, 3)], [.v (.int .i64 0), .nils, .nils, .v (.int .i64 0), .v (.int .i64 0), .nils, .v (.int .i64 0)]⟩),
  (112, ⟨7, 104, .struct [(0, 50), (6, 3)], [.v (.int .i64 0), .nils, .nils, .v (.int .i64 0), .v (.int .i64 0), .nils, .v (.int .i64 0)]⟩),
  (113, ⟨1, 24, .slice 110, [.nils]⟩),
  (127, ⟨1, 8, .int .u64, [.v (.int .u64 0)]⟩),
  (131, ⟨1, 4, .int .u32, [.v (.int .u32 0)]⟩),
  (135, ⟨2, 2, .struct [(0, 5), (1, 5)], [.v (.int .u8 0), .v (.int .u8 0)]⟩),
  (136, ⟨2, 2, .struct [(0, 5), (1, 5)], [.v (.int .u8 0), .v (.int .u8 0)]⟩),
  (137, ⟨32, 32, .array 16 136, [.v (.int .u8 0), .v (.int .u8 0), .v (.int .u8 0), .v (.int .u8 0), .v (.int .u8 0), .v (.int .u8 0), .v (.int .u8 0), .v (.int .u8 0), .v (.int .u8 0), .v (.int .u8 0), .v (.int .u8 0), .v (.int .u8 0), .v (.int .u8 0), .v (.int .u8 0), .v (.int .u8 0), .v (.int .u8 0), .v (.int .u8 0), .v (.int .u8 0), .v (.int .u8 0), .v (.int .u8 0), .v (.int .u8 0), .v (.int .u8 0), .v (.int .u8 0), .v (.int .u8 0), .v (.int .u8 0), .v (.int .u8 0), .v (.int .u8 0), .v (.int .u8 0), .v (.int .u8 0), .v (.int .u8 0), .v (.int .u8 0), .v (.int .u8 0)]⟩),
  (143, ⟨4, 40, .struct [(0, 17), (1, 17), (2, 17), (3, 9)], [.v .nilp, .v .nilp, .v .nilp, .v (.str [])]⟩),
  (144, ⟨4, 40, .struct [(0, 17), (1, 17), (2, 17), (3, 9)], [.v .nilp, .v .nilp, .v .nilp, .v (.str [])]⟩),
  (145, ⟨0, 0, .array 0 16, []⟩),
  (146, ⟨0, 0, .struct [(0, 145)], []⟩),
  (147, ⟨0, 0, .struct [(0, 145)], []⟩),
  (148, ⟨1, 1, .int .u8, [.v (.int .u8 0)]⟩),
  (149, ⟨1, 1, .int .u8, [.v (.int .u8 0)]⟩),
  (151, ⟨1, 8, .ptr 5, [.v .nilp]⟩),
  (152, ⟨1, 4, .int .i32, [.v (.int .i32 0)]⟩),
  (153, ⟨1, 4, .int .i32, [.v (.int .i32 0)]⟩),
  (154, ⟨11, 48, .struct [(0, 12), (1, 12), (2, 131), (3, 148), (4, 5), (5, 5), (6, 149), (7, 150), (8, 151), (9, 152), (10, 153)], [.v (.int .u64 0), .v (.int .u64 0), .v (.int .u32 0), .v (.int .u8 0), .v (.int .u8 0), .v (.int .u8 0), .v (.int .u8 0), .v .nilfn, .v .nilp, .v (.int .i32 0), .v (.int .i32 0)]⟩),
  (155, ⟨11, 48, .struct [(0, 12), (1, 12), (2, 131), (3, 148), (4, 5), (5, 5), (6, 149), (7, 150), (8, 151), (9, 152), (10, 153)], [.v (.int .u64 0), .v (.int .u64 0), .v (.int .u32 0), .v (.int .u8 0), .v (.int .u8 0), .v (.int .u8 0), .v (.int .u8 0), .v .nilfn, .v .nilp, .v (.int .i32 0), .v (.int .i32 0)]⟩),
  (22, ⟨1, 8, .func, [.v .nilfn]⟩),
  (29, ⟨1, 8, .func, [.v .nilfn]⟩),
  (30, ⟨1, 8, .func, [.v .nilfn]⟩),
  (31, ⟨1, 8, .func, [.v .nilfn]⟩),
  (35, ⟨1, 8, .func, [.v .nilfn]⟩),
  (38, ⟨1, 8, .func, [.v .nilfn]⟩),
  (39, ⟨1, 8, .func, [.v .nilfn]⟩),
  (53, ⟨1, 8, .func, [.v .nilfn]⟩),
  (59, ⟨1, 8, .func, [.v .nilfn]⟩),
  (60, ⟨1, 8, .func, [.v .nilfn]⟩),
  (61, ⟨1, 8, .func, [.v .nilfn]⟩),
  (62, ⟨1, 8, .func, [.v .nilfn]⟩),
  (63, ⟨1, 8, .func, [.v .nilfn]⟩),
  (64, ⟨1, 8, .func, [.v .nilfn]⟩),
  (65, ⟨1, 8, .func, [.v .nilfn]⟩),
  (66, ⟨1, 8, .func, [.v .nilfn]⟩),
  (67, ⟨1, 8, .func, [.v .nilfn]⟩),
  (68, ⟨1, 8, .func, [.v .nilfn]⟩),
  (69, ⟨1, 8, .func, [.v .nilfn]⟩),
  (70, ⟨1, 8, .func, [.v .nilfn]⟩),
  (72, ⟨1, 8, .func, [.v .nilfn]⟩),
  (76, ⟨1, 8, .func, [.v .nilfn]⟩),
  (80, ⟨1, 8, .func, [.v .nilfn]⟩),
  (81, ⟨1, 8, .func, [.v .nilfn]⟩),
  (82, ⟨1, 8, .func, [.v .nilfn]⟩),
  (83, ⟨1, 8, .func, [.v .nilfn]⟩),
  (84, ⟨1, 8, .func, [.v .nilfn]⟩),
  (85, ⟨1, 8, .func, [.v .nilfn]⟩),
  (86, ⟨1, 8, .func, [.v .nilfn]⟩),
  (87, ⟨1, 8, .func, [.v .nilfn]⟩),
  (88, ⟨1, 8, .func, [.v .nilfn]⟩),
  (89, ⟨1, 8, .func, [.v .nilfn]⟩),
  (90, ⟨1, 8, .func, [.v .nilfn]⟩),
  (92, ⟨1, 8, .func, [.v .nilfn]⟩),
  (93, ⟨1, 8, .func, [.v .nilfn]⟩),
  (94, ⟨1, 8, .func, [.v .nilfn]⟩),
  (95, ⟨1, 8, .func, [.v .nilfn]⟩),
  (96, ⟨1, 8, .func, [.v .nilfn]⟩),
  (97, ⟨1, 8, .func, [.v .nilfn]⟩),
  (98, ⟨1, 8, .func, [.v .nilfn]⟩),
  (99, ⟨1, 8, .func, [.v .nilfn]⟩),
  (100, ⟨1, 8, .func, [.v .nilfn]⟩),
  (101, ⟨1, 8, .func, [.v .nilfn]⟩),
  (102, ⟨1, 8, .func, [.v .nilfn]⟩),
  (106, ⟨1, 8, .func, [.v .nilfn]⟩),
  (107, ⟨1, 8, .func, [.v .nilfn]⟩),
  (109, ⟨1, 8, .func, [.v .nilfn]⟩),
  (110, ⟨1, 8, .func, [.v .nilfn]⟩),
  (114, ⟨1, 8, .func, [.v .nilfn]⟩),
  (115, ⟨1, 8, .func, [.v .nilfn]⟩),
  (116, ⟨1, 8, .func, [.v .nilfn]⟩),
  (118, ⟨1, 8, .func, [.v .nilfn]⟩),
  (119, ⟨1, 8, .func, [.v .nilfn]⟩),
  (120, ⟨1, 8, .func, [.v .nilfn]⟩),
  (121, ⟨1, 8, .func, [.v .nilfn]⟩),
  (122, ⟨1, 8, .func, [.v .nilfn]⟩),
  (123, ⟨1, 8, .func, [.v .nilfn]⟩),
  (124, ⟨1, 8, .func, [.v .nilfn]⟩),
  (125, ⟨1, 8, .func, [.v .nilfn]⟩),
  (126, ⟨1, 8, .func, [.v .nilfn]⟩),
  (128, ⟨1, 8, .func, [.v .nilfn]⟩),
  (129, ⟨1, 8, .func, [.v .nilfn]⟩),
  (130, ⟨1, 8, .func, [.v .nilfn]⟩),
  (133, ⟨1, 8, .func, [.v .nilfn]⟩),
  (138, ⟨1, 8, .func, [.v .nilfn]⟩),
  (139, ⟨1, 8, .func, [.v .nilfn]⟩),
  (140, ⟨1, 8, .func, [.v .nilfn]⟩),
  (141, ⟨1, 8, .func, [.v .nilfn]⟩),
  (142, ⟨1, 8, .func, [.v .nilfn]⟩),
  (150, ⟨1, 8, .func, [.v .nilfn]⟩)]
def hintL : List (Nat × List Nat) := [
  (23, [3]),
  (24, [6]),
  (25, [3, 6]),
  (26, [3, 6]),
  (33, [4]),
  (42, [2]),
  (43, [0, 2]),
  (44, [0, 2]),
  (45, [2]),
  (46, [0, 2, 6]),
  (47, [0, 2, 6]),
  (48, [1]),
  (49, [0, 1, 1, 0, 0, 1]),
  (50, [0, 1, 1, 0, 0, 1]),
  (51, [4]),
  (55, [1]),
  (56, [3]),
  (57, [4, 0, 0, 3, 6, 1, 3]),
  (58, [4, 0, 0, 3, 6, 1, 3]),
  (75, [1]),
  (91, [1]),
  (111, [0, 1, 1, 0, 0, 1, 0]),
  (112, [0, 1, 1, 0, 0, 1, 0]),
  (113, [1])]
noncomputable def tab : Tab Tryz.prog := Tab.of Tryz.prog tyL (by kernel_rfl)
def hint (t : TypeId) : List Nat := fromL [] hintL t
theorem mixed : Tryz.prog.follows .mixedOrders = true := by kernel_rfl
theorem go {Ev : Env} {f : FuncId} {fn : Func} {c : Code} {args : List TV} {H : Nat → Option RObj} {K : TOut → (Nat → Option RObj) → Prop} (imm st : Nat → Bool) (hf : Tryz.prog.funcs[f]? = some fn) (hb : fn.body = some c) (hn : (fn.name == "runtime.NumGoroutine") = false)
    (hsz : Nat.ble args.length fn.ntmps = true) (h : tx tab Ev hint imm fn.ntmps st c (entry args H) (tpost tab hint fn K)) : TCalls Tryz.prog Ev f args H K :=
  tcalls_intro (T := tab) (hint := hint) hf hb hn (Nat.le_of_ble_eq_true hsz) (tx_ok (T := tab) (st := st) _ _ _ h)
theorem goOn {Ev : Env} {n : Nat} {c : Code} {s : TS} {Q : XT → TS → Prop} (imm st : Nat → Bool) (h : tx tab Ev hint imm n st c s Q) : TWp Tryz.prog Ev n c s Q := tx_ok (T := tab) (st := st) _ _ _ h
theorem goLoop {Ev : Env} {n : Nat} {c : Code} {s : TS} {Q : XT → TS → Prop} {β : Type} (imm st : Nat → Bool) (S : β → TS) (I : β → Prop) (μ : β → Nat) (b0 : β) (h0 : I b0) (hs : Sub (S b0) s)
    (round : ∀ b, I b → tx tab Ev hint imm n st c (S b) fun e s' => match e with
      | .normal => ∃ b', I b' ∧ μ b' < μ b ∧ Sub (S b') s'
      | e => Q e s') : Hold (TWp Tryz.prog Ev n (.loop c) s Q) :=
  ⟨TWp.loop S I μ b0 h0 hs fun b hb => tx_ok (T := tab) (st := st) _ _ _ (round b hb)⟩
theorem goDraw {Ev : Env} {n id : Nat} {ops : List Oper} {s : TS} {Q : XT → TS → Prop} (imm : Nat → Bool) (qs : List Nat) (p : Plan) (hs : Region.noSelect ops.toArray = true)
    (hp : planOK ops.toArray qs p ops.toArray.size (Array.replicate ops.toArray.size false) false = true) (h : tdraw tab Ev hint imm n ops (Q .normal) (fun x => Q (.panic x)) p [] s) : Hold (TWp Tryz.prog Ev n (.region id ops.toArray true) s Q) :=
  ⟨TWp.draw (T := tab) (hint := hint) (imm := imm) qs p mixed hs hp h⟩
theorem goDrawTo {Ev : Env} {n id : Nat} {ops : List Oper} {s : TS} {Q : XT → TS → Prop} {β : Type} (imm : Nat → Bool) (qs : List Nat) (p : Plan) (hs : Region.noSelect ops.toArray = true)
    (hp : planOK ops.toArray qs p ops.toArray.size (Array.replicate ops.toArray.size false) false = true) (S : β → TS) (I : β → Prop) (h : tdraw tab Ev hint imm n ops (fun s' => ∃ b, I b ∧ Sub (S b) s') (fun x => Q (.panic x)) p [] s) (k : ∀ b, I b → Q .normal (S b)) : Hold (TWp Tryz.prog Ev n (.region id ops.toArray true) s Q) :=
  ⟨TWp.to S I (TWp.draw (T := tab) (hint := hint) (imm := imm) qs p mixed hs hp h) k⟩
theorem goSeqTo {Ev : Env} {n : Nat} {x y : Code} {s : TS} {Q : XT → TS → Prop} {β : Type} (imm st1 st2 : Nat → Bool) (S : β → TS) (I : β → Prop) (h1 : tx tab Ev hint imm n st1 x s fun e s' => match e with
    | .normal => ∃ b, I b ∧ Sub (S b) s'
    | e => Q e s') (h2 : ∀ b, I b → tx tab Ev hint imm n st2 y (S b) Q) : Hold (TWp Tryz.prog Ev n (.seq x y) s Q) :=
  ⟨TWp.seqTo S I (tx_ok (T := tab) _ _ _ h1) fun b hb => tx_ok (T := tab) _ _ _ (h2 b hb)⟩
theorem goScope {Ev : Env} {n : Nat} {c : Code} {s : TS} {Q : XT → TS → Prop} (imm st : Nat → Bool) (h : tx tab Ev hint imm n st c s fun e s' => match e with
    | .goto _ => False
    | e => Q e s') : Hold (TWp Tryz.prog Ev n (.scope c) s Q) := ⟨TWp.scope (tx_ok (T := tab) _ _ _ h)⟩
def noStop : Nat → Bool := fun _ => false
end Go.T
set_option linter.unusedVariables false
namespace Go.T
open Go.Proofs Go.RowKit
def letterB (n : Int) : Bool := decide (97 ≤ n) && decide (n ≤ 122)
def digitB (n : Int) : Bool := decide (48 ≤ n) && decide (n ≤ 57)
def partB (n : Int) : Bool := letterB n || digitB n || n == 95

variable {Ev : Env} {H : Nat → Option RObj}
theorem c_letter (n : Int) : Ret Tryz.prog Ev 50 [.int .u8 n] H (.t (.bool (letterB n))) := by
  refine go noStop noStop Tryz.func50 rfl (by kernel_rfl) rfl ?_
  constructor <;> intro h1 <;> refine ⟨?_, rfl⟩ <;> simp_all [letterB] <;> omega
theorem c_digit (n : Int) : Ret Tryz.prog Ev 53 [.int .u8 n] H (.t (.bool (digitB n))) := by
  refine go noStop noStop Tryz.func53 rfl (by kernel_rfl) rfl ?_
  constructor <;> intro h1 <;> refine ⟨?_, rfl⟩ <;> simp_all [digitB] <;> omega
theorem c_part (n : Int) : Ret Tryz.prog Ev 52 [.int .u8 n] H (.t (.bool (partB n))) := by
  refine go noStop noStop Tryz.func52 rfl (by kernel_rfl) rfl ?_
  refine (c_letter n).use ?_
  constructor <;> intro h1
  · refine ⟨(c_digit n).mono ?_⟩
    rintro _ _ ⟨rfl, rfl⟩
    constructor <;> intro h2
    · refine ⟨?_, rfl⟩
      simp_all [partB]
    · refine ⟨?_, rfl⟩
      simp_all [partB]
  · constructor <;> intro h2
    · cases h2
    · refine ⟨?_, rfl⟩
      simp [partB, h1]

/-- The place of a text in a list. -/
def idx (l : List (List UInt8)) (x : List UInt8) (i : Nat) : Int :=
  match l with
  | [] => -1
  | y :: l => if x == y then i else idx l x (i + 1)
theorem c_index (l : List (List UInt8)) (x : List UInt8) : Ret Tryz.prog Ev 35 [.sl 1 (l.map .str), .str x] H (.t (.int .i64 (idx l x 0))) := by
  refine go noStop noStop Tryz.func35 rfl (by kernel_rfl) rfl ?_
  conv => whnf
  intro hlen
  conv => whnf
  have hl : (l.map TV.str).length = l.length := by simp
  refine goLoop noStop noStop (fun i : Nat => .of [(0, .t (.sl 1 (l.map .str))), (1, .t (.str x)), (7, .t (.int .i64 (l.map TV.str).length)), (8, .t (.int .i64 i))] [] [] H)
    (fun i => i ≤ l.length ∧ idx l x 0 = idx (l.drop i) x i) (fun i => l.length - i) 0 ⟨by simp, by simp⟩ (.of ⟨rfl, rfl, rfl, rfl, trivial⟩ trivial trivial (fun _ => .inr rfl)) ?_
  intro i ⟨hi, he⟩
  constructor <;> intro h1
  · conv => whnf
    refine ⟨by omega, by simp at h1; omega, ?_⟩
    intro y hy
    obtain ⟨z, hz, rfl⟩ := get_map' hy
    have hd := drop_get hz
    have hlt : i < l.length := by simp at h1; omega
    constructor <;> intro h2
    · refine ⟨?_, rfl⟩
      simp [he, hd, idx, h2]
    · refine ⟨i + 1, ⟨?_, ?_⟩, ?_, .of ⟨rfl, rfl, rfl, ?_, trivial⟩ trivial trivial (fun _ => .inr rfl)⟩
      · omega
      · have : (x == z) = false := h2
        simp [he, hd, idx, this]
      · omega
      · show SV.t (.int .i64 (IntKind.i64.wrap ((i : Int) + 1))) = _
        rw [wrap_i64 (by omega) (by omega)]
        simp
  · conv => whnf
    refine ⟨?_, rfl⟩
    have : l.length ≤ i := by simp at h1; omega
    simp [he, List.drop_eq_nil_of_le this, idx]
end Go.T
set_option linter.unusedVariables false
namespace Go.T
open Go.Proofs Go.RowKit
variable {Ev : Env} {H : Nat → Option RObj}
theorem takeWhile_eq {p : UInt8 → Bool} : ∀ {l : List UInt8} {i : Nat}, (∀ b, b ∈ l.take i → p b = true) → (∀ b, l[i]? = some b → p b = false) → l.takeWhile p = l.take i
  | [], i, _, _ => by simp
  | b :: l, 0, _, h2 => by have := h2 b rfl; simp [List.takeWhile, this]
  | b :: l, i + 1, h1, h2 => by
    have hb := h1 b (by simp)
    simp only [List.takeWhile, hb, List.take_succ_cons]
    rw [takeWhile_eq (i := i) (fun c hc => h1 c (by simp [hc])) (fun c hc => h2 c (by simpa using hc))]
theorem c_run (l : List UInt8) (f : FuncId) (p : UInt8 → Bool) (hp : ∀ b : UInt8, Ret Tryz.prog Ev f [byteTV b] H (.t (.bool (p b)))) (hl : l.length ≤ 9000000000000000000) :
    Ret Tryz.prog Ev 51 [.str l, .fn (.func f) [] []] H (.t (.str (l.takeWhile p))) := by
  refine go noStop noStop Tryz.func51 rfl (by kernel_rfl) rfl ?_
  conv => whnf
  refine goLoop noStop noStop (fun i : Nat => .of [(0, .t (.str l)), (1, .t (.fn (.func f) [] [])), (5, .t (.int .i64 i))] [] [] H)
    (fun i => i ≤ l.length ∧ ∀ b, b ∈ l.take i → p b = true) (fun i => l.length - i) 0 ⟨by simp, by simp⟩ (.of ⟨rfl, rfl, rfl, trivial⟩ trivial trivial (fun _ => .inr rfl)) ?_
  intro i ⟨hi, he⟩
  have leave : ∀ s' : TS, (∀ b, l[i]? = some b → p b = false) → s'.sl 0 = .t (.str l) → s'.sl 5 = .t (.int .i64 i) → s'.H = H → True := fun _ _ _ _ _ => trivial
  constructor <;> intro h1
  · have hlt : i < l.length := by simp at h1; exact h1
    conv => whnf
    refine ⟨by omega, by omega, ?_⟩
    have hb : l[i]? = some (l.getD i 0) := getD_some hlt 0
    refine (hp _).use ?_
    constructor <;> intro h2
    · refine ⟨i + 1, ⟨by omega, fun b hb' => ?_⟩, by omega, .of ⟨rfl, rfl, ?_, trivial⟩ trivial trivial (fun _ => .inr rfl)⟩
      · rw [List.take_add_one, hb] at hb'
        simp only [Option.toList_some, List.mem_append, List.mem_singleton] at hb'
        rcases hb' with h | h
        · exact he b h
        · subst h
          simpa using h2
      · show SV.t (.int .i64 (IntKind.i64.wrap ((i : Int) + 1))) = _
        rw [wrap_i64 (by omega) (by omega)]
        simp
    · conv => whnf
      refine ⟨by simp, by omega, by simp; omega, ?_, rfl⟩
      have hp2 : p (l.getD i 0) = false := by simpa using h2
      rw [takeWhile_eq he (fun b hb2 => by rw [hb] at hb2; cases hb2; exact hp2)]
      simp
  · conv => whnf
    constructor <;> intro h2
    · cases h2
    · conv => whnf
      refine ⟨by simp, by omega, by simp; omega, ?_, rfl⟩
      have hge : l.length ≤ i := by simp at h1; exact h1
      rw [takeWhile_eq he (fun b hb2 => by rw [List.getElem?_eq_none hge] at hb2; cases hb2)]
      simp
end Go.T
set_option linter.unusedVariables false
namespace Go.T
open Go.Proofs Go.RowKit
variable {Ev : Env} {H : Nat → Option RObj}
def dv (b : UInt8) : Int := IntKind.u8.wrap ((b.toNat : Int) - 48)
theorem dv_range (b : UInt8) : 0 ≤ dv b ∧ dv b ≤ 255 := by
  simp [dv, IntKind.wrap, IntKind.signed, IntKind.bits]
  omega
/-- The value of digits, and where it is too great: that of those ahead. -/
def val : List UInt8 → Int → Int
  | [], n => n
  | b :: l, n => if 10 * n + dv b > 1099511627776 then 10 * n + dv b else val l (10 * n + dv b)
theorem c_value (l : List UInt8) (hl : l.length ≤ 9000000000000000000) : Ret Tryz.prog Ev 54 [.str l] H (.t (.int .i64 (val l 0))) := by
  refine go noStop noStop Tryz.func54 rfl (by kernel_rfl) rfl ?_
  conv => whnf
  refine goScope noStop noStop ?_
  conv => whnf
  refine goLoop noStop noStop (fun p : Nat × Int => .of [(0, .t (.str l)), (3, .t (.int .i64 p.2)), (6, .t (.int .i64 l.length)), (7, .t (.int .i64 p.1))] [] [] H)
    (fun p => p.1 ≤ l.length ∧ 0 ≤ p.2 ∧ p.2 ≤ 1099511627776 ∧ val l 0 = val (l.drop p.1) p.2) (fun p => l.length - p.1) (0, 0) ⟨by simp, by simp, by simp, by simp⟩ (.of ⟨rfl, rfl, rfl, rfl, trivial⟩ trivial trivial (fun _ => .inr rfl)) ?_
  rintro ⟨i, n⟩ ⟨hi, h0, h40, he⟩
  dsimp only at hi h0 h40 he
  constructor <;> intro h1
  · have hlt : i < l.length := by simp at h1; exact h1
    conv => whnf
    refine ⟨by omega, by omega, ?_⟩
    have hb : l[i]? = some (l.getD i 0) := getD_some hlt 0
    have hd := drop_get hb
    have hdv := dv_range (l.getD i 0)
    have e1 : IntKind.i64.wrap (10 * n) = 10 * n := wrap_i64 (by omega) (by omega)
    have e2 : IntKind.i64.wrap (dv (l.getD i 0)) = dv (l.getD i 0) := wrap_i64 (by omega) (by omega)
    have e3 : IntKind.i64.wrap (IntKind.i64.wrap (10 * n) + IntKind.i64.wrap (dv (l.getD i 0))) = 10 * n + dv (l.getD i 0) := by rw [e1, e2]; exact wrap_i64 (by omega) (by omega)
    constructor <;> intro h2
    · refine ⟨?_, rfl⟩
      have h3 : 10 * n + dv (l.getD i 0) > 1099511627776 := by rw [← e3]; exact of_decide_eq_true h2
      refine (congrArg (fun x => TOut.ret (RV.t (.int .i64 x))) e3).trans ?_
      rw [he, hd, val, if_pos h3]
    · refine ⟨(i + 1, 10 * n + dv (l.getD i 0)), ⟨by dsimp only; omega, by dsimp only; omega, ?_, ?_⟩, by dsimp only; omega, .of ⟨rfl, ?_, rfl, ?_, trivial⟩ trivial trivial (fun _ => .inr rfl)⟩
      · rw [← e3]; have := of_decide_eq_false h2; exact Int.not_lt.1 this
      · have h3 : ¬ 10 * n + dv (l.getD i 0) > 1099511627776 := by rw [← e3]; exact of_decide_eq_false h2
        rw [he, hd, val, if_neg h3]
      · exact congrArg (fun x => SV.t (.int .i64 x)) e3
      · show SV.t (.int .i64 (IntKind.i64.wrap ((i : Int) + 1))) = _
        rw [wrap_i64 (by omega) (by omega)]
        simp
  · conv => whnf
    refine ⟨?_, rfl⟩
    have hge : l.length ≤ i := by simp at h1; exact h1
    rw [he, List.drop_eq_nil_of_le hge]
    rfl
end Go.T
set_option linter.unusedVariables false
namespace Go.T
open Go.Proofs Go.RowKit
variable {Ev : Env} {H : Nat → Option RObj}
/-- Of the machine's own greatest length some number is told. -/
def HasMax (w : World) : Prop := ∃ m, w.cell? ⟨0, 0, none⟩ = some (.int .i64 m)
theorem c_contains (hE : ∀ w, Ev.E w → HasMax w) (l m : List UInt8) (hl : l.length < 4294967281) : Ret Tryz.prog Ev 40 [.str l, .str m] H (.t (.bool (Lib.contains l m))) := by
  refine Ret.ofCalls ⟨_, Tryz.func40, by kernel_rfl, rfl⟩ fun g w vs hw hv => ?_
  obtain ⟨v1, vs1, e1, h1, hv⟩ := hv.cons_inv
  obtain ⟨v2, vs2, rfl, h2, hv⟩ := hv.cons_inv
  obtain rfl := hv.nil_inv
  obtain ⟨b, rfl, rfl⟩ := h1.str_inv
  obtain ⟨c, rfl, rfl⟩ := h2.str_inv
  obtain ⟨k, hk⟩ := hE w hw
  rw [arr2 e1]
  exact ⟨_, .bool _, Tryz.strings_Contains b c k w (by simpa using hl) hk⟩
theorem c_indexByte (l : List UInt8) (n : Int) : Ret Tryz.prog Ev 55 [.str l, .int .u8 n] H (.t (.int .i64 (Lib.indexByte l n.toNat.toUInt8))) := by
  refine Ret.ofCalls ⟨_, Tryz.func55, by kernel_rfl, rfl⟩ fun g w vs hw hv => ?_
  obtain ⟨v1, vs1, e1, h1, hv⟩ := hv.cons_inv
  obtain ⟨v2, vs2, rfl, h2, hv⟩ := hv.cons_inv
  obtain rfl := hv.nil_inv
  obtain ⟨b, rfl, rfl⟩ := h1.str_inv
  obtain rfl := h2.int_inv
  rw [arr2 e1]
  exact ⟨_, .int _ _, Tryz.strings_IndexByte b n w⟩
end Go.T
set_option linter.unusedVariables false
namespace Go.T
open Go.Proofs Go.RowKit
variable {Ev : Env} {H : Nat → Option RObj}
def tok (k : Int) (t : List UInt8) (v a : Int) : TV := .agg [.int .i64 k, .str t, .int .i64 v, .int .i64 a]
def twoText : List UInt8 := [32, 46, 46, 32, 33, 61, 32, 60, 61, 32, 62, 61, 32]
def oneText : List UInt8 := [44, 59, 58, 91, 93, 61, 60, 62, 43, 45, 42]
def isLetter (b : UInt8) : Bool := letterB (b.toNat : Int)
def isDigit (b : UInt8) : Bool := digitB (b.toNat : Int)
def isPart (b : UInt8) : Bool := partB (b.toNat : Int)
/-- The first token's kind, text and value. -/
def first (l : List UInt8) : Int × List UInt8 × Int :=
  if isLetter (l.getD 0 0) then (1, l.takeWhile isPart, 0)
  else if isDigit (l.getD 0 0) then (2, l.takeWhile isDigit, val (l.takeWhile isDigit) 0)
  else if decide (l.length > 1) && Lib.contains twoText (32 :: (l.take 2 ++ [32])) then (3, l.take 2, 0)
  else if Lib.indexByte oneText (l.getD 0 0) ≥ 0 then (3, l.take 1, 0)
  else (0, [], 0)
theorem byteB {n : Nat} {l : List UInt8} (h : decide (Lib.indexByte l (n : Int).toNat.toUInt8 ≥ 0) = true) {b : UInt8} (hb : b.toNat = n := by rfl) : Lib.indexByte l b ≥ 0 := by
  subst hb
  simpa using of_decide_eq_true h
theorem byteN {n : Nat} {l : List UInt8} (h : decide (Lib.indexByte l (n : Int).toNat.toUInt8 ≥ 0) = false) {b : UInt8} (hb : b.toNat = n := by rfl) : ¬ Lib.indexByte l b ≥ 0 := by
  subst hb
  simpa using of_decide_eq_false h
theorem c_first (hE : ∀ w, Ev.E w → HasMax w) (l : List UInt8) (h0 : 0 < l.length) (hl : l.length ≤ 9000000000000000000) :
    Ret Tryz.prog Ev 31 [.str l] H (.t (tok (first l).1 (first l).2.1 (first l).2.2 0)) := by
  refine go noStop noStop Tryz.func31 rfl (by kernel_rfl) rfl ?_
  conv => whnf
  refine ⟨by omega, by omega, ?_⟩
  refine (c_letter _).use ?_
  constructor <;> intro h1
  · refine (c_run l 52 isPart (fun b => c_part _) hl).use ?_
    refine ⟨?_, rfl⟩
    have h1' : isLetter (l.getD 0 0) = true := h1
    simp only [first, h1', if_true]
    rfl
  · refine (c_digit _).use ?_
    have h1' : isLetter (l.getD 0 0) = false := h1
    constructor <;> intro h2
    · have h2' : isDigit (l.getD 0 0) = true := h2
      refine (c_run l 53 isDigit (fun b => c_digit _) hl).use ?_
      refine (c_value (l.takeWhile isDigit) ?_).use ?_
      · have := (List.takeWhile_prefix isDigit (l := l)).length_le; omega
      refine ⟨?_, rfl⟩
      simp only [first, h1', h2', Bool.false_eq_true, if_false, if_true]
      rfl
    · have h2' : isDigit (l.getD 0 0) = false := h2
      -- behind the test on two letters
      constructor <;> intro h3
      · have h3' : l.length > 1 := by have := of_decide_eq_true h3; omega
        conv => whnf
        refine ⟨?_, ?_, ?_, ?_⟩
        · omega
        · omega
        · omega
        conv => whnf
        refine ⟨?_, ?_⟩
        · simp; omega
        conv => whnf
        refine ⟨?_, ?_⟩
        · simp; omega
        refine (c_contains hE _ _ (by decide)).use ?_
        constructor <;> intro h4
        · have h4' : (decide (l.length > 1) && Lib.contains twoText (32 :: (l.take 2 ++ [32]))) = true := by rw [decide_eq_true h3', Bool.true_and]; exact h4
          conv => whnf
          refine ⟨by omega, by omega, by omega, ?_, rfl⟩
          simp only [first, h1', h2', h4', Bool.false_eq_true, if_false, if_true]
          rfl
        · have h4' : (decide (l.length > 1) && Lib.contains twoText (32 :: (l.take 2 ++ [32]))) = false := by rw [decide_eq_true h3', Bool.true_and]; exact h4
          refine (c_indexByte oneText _).use ?_
          constructor <;> intro h5
          · have h5' : Lib.indexByte oneText (l.getD 0 0) ≥ 0 := byteB h5
            conv => whnf
            refine ⟨by omega, by omega, by omega, ?_, rfl⟩
            simp only [first, h1', h2', h4', h5', Bool.false_eq_true, if_false, if_true]
            rfl
          · have h5' : ¬ Lib.indexByte oneText (l.getD 0 0) ≥ 0 := byteN h5
            refine ⟨?_, rfl⟩
            simp only [first, h1', h2', h4', h5', Bool.false_eq_true, if_false, if_true]
            rfl
      · have h3' : ¬ l.length > 1 := by have := of_decide_eq_false h3; omega
        have h4' : (decide (l.length > 1) && Lib.contains twoText (32 :: (l.take 2 ++ [32]))) = false := by rw [decide_eq_false h3', Bool.false_and]
        constructor <;> intro h4
        · cases h4
        · refine (c_indexByte oneText _).use ?_
          constructor <;> intro h5
          · have h5' : Lib.indexByte oneText (l.getD 0 0) ≥ 0 := byteB h5
            conv => whnf
            refine ⟨by omega, by omega, by omega, ?_, rfl⟩
            simp only [first, h1', h2', h4', h5', Bool.false_eq_true, if_false, if_true]
            rfl
          · have h5' : ¬ Lib.indexByte oneText (l.getD 0 0) ≥ 0 := byteN h5
            refine ⟨?_, rfl⟩
            simp only [first, h1', h2', h4', h5', Bool.false_eq_true, if_false, if_true]
            rfl
end Go.T
set_option linter.unusedVariables false
set_option linter.unusedSimpArgs false
namespace Go.T
open Go.Proofs Go.RowKit
variable {Ev : Env} {H : Nat → Option RObj}
structure Tk where
  kind : Int
  text : List UInt8
  value : Int
  pos : Int
def Tk.tv (t : Tk) : TV := tok t.kind t.text t.value t.pos
def blank (b : UInt8) : Bool := (b.toNat : Int) == 32 || (b.toNat : Int) == 10
def scanG (l : List UInt8) : Nat → Nat → List Tk → List Tk × Int × Int
  | 0, _, acc => (acc, 0, 0)
  | f + 1, i, acc =>
    if l.length ≤ i then (acc, 0, 0)
    else if blank (l.getD i 0) then scanG l f (i + 1) acc
    else if ((first (l.drop i)).1 == 0) = true then ([], i, 2)
    else if (first (l.drop i)).2.2 > 1099511627776 then ([], i, 5)
    else scanG l f (i + (first (l.drop i)).2.1.length) (acc ++ [⟨(first (l.drop i)).1, (first (l.drop i)).2.1, (first (l.drop i)).2.2, i⟩])
def scan (l : List UInt8) : List Tk × Int × Int := if l.length > 4000 then ([], 0, 5) else scanG l (l.length + 1) 0 []
def scanTV (r : List Tk × Int × Int) : RV := .tup [.sl 4 (r.1.map Tk.tv), .int .i64 r.2.1, .int .i64 r.2.2]
theorem first_len {l : List UInt8} (h0 : 0 < l.length) (h : ¬ ((first l).1 == 0) = true) : 0 < (first l).2.1.length ∧ (first l).2.1.length ≤ l.length := by
  have hp : ∀ p : UInt8 → Bool, p (l.getD 0 0) = true → 0 < (l.takeWhile p).length ∧ (l.takeWhile p).length ≤ l.length := by
    intro p hp
    refine ⟨?_, (List.takeWhile_prefix p).length_le⟩
    cases l with
    | nil => simp at h0
    | cons b l =>
      have : p b = true := hp
      simp [List.takeWhile, this]
  unfold first at h ⊢
  split
  · rename_i h1
    refine hp isPart ?_
    have h1' : letterB ((l.getD 0 0).toNat : Int) = true := h1
    show partB ((l.getD 0 0).toNat : Int) = true
    rw [partB, h1']
    rfl
  · split
    · rename_i h1
      exact hp isDigit h1
    · split
      · simp; omega
      · split
        · simp; omega
        · rename_i h1 h2 h3 h4
          rw [if_neg h1, if_neg h2, if_neg h3, if_neg h4] at h
          simp at h
theorem c_scan (hE : ∀ w, Ev.E w → HasMax w) (l : List UInt8) (hl : l.length ≤ 9000000000000000000) : Ret Tryz.prog Ev 11 [.str l] H (scanTV (scan l)) := by
  refine go noStop noStop Tryz.func11 rfl (by kernel_rfl) rfl ?_
  constructor <;> intro h0
  · have h0' : l.length > 4000 := by have := of_decide_eq_true h0; omega
    conv => whnf
    refine ⟨?_, rfl⟩
    simp only [scan, if_pos h0']
    rfl
  · have h0' : ¬ l.length > 4000 := by have := of_decide_eq_false h0; omega
    conv => whnf
    refine goLoop noStop noStop (fun p : Nat × Nat × List Tk => .of [(0, .t (.str l)), (5, .arr 5), (6, .t (.int .i64 p.2.1))] [] [(5, some ⟨4, false, p.2.2.map Tk.tv⟩)] H)
      (fun p => p.2.1 ≤ l.length ∧ l.length - p.2.1 < p.1 ∧ p.2.2.length ≤ p.2.1 ∧ scan l = scanG l p.1 p.2.1 p.2.2) (fun p => l.length - p.2.1) (l.length + 1, 0, []) ⟨by simp, by simp, by simp, by simp only [scan, if_neg h0']⟩
      (.of ⟨rfl, rfl, rfl, trivial⟩ trivial ⟨rfl, trivial⟩ (fun _ => .inr rfl)) ?_
    rintro ⟨f, i, acc⟩ ⟨hi, hf, hacc, he⟩
    dsimp only at hi hf hacc he
    obtain ⟨f, rfl⟩ : ∃ k, f = k + 1 := ⟨f - 1, by omega⟩
    constructor <;> intro h1
    · have hlt : i < l.length := by have h1 : decide ((i : Int) < (l.length : Int)) = true := h1; have := of_decide_eq_true h1; omega
      conv => whnf
      refine ⟨Int.natCast_nonneg i, Int.ofNat_lt.2 hlt, ?_⟩
      have hstep : IntKind.i64.wrap ((i : Int) + 1) = ((i + 1 : Nat) : Int) := by rw [wrap_i64 (by omega) (by omega)]; simp
      have next : blank (l.getD i 0) = true → (f = f) → scan l = scanG l f (i + 1) acc := by
        intro hb _
        rw [he, scanG, if_neg (by omega), if_pos hb]
      constructor <;> intro h2
      · have e2 : (((l.getD i 0).toNat : Int) == 32) = false := h2
        refine ⟨Int.natCast_nonneg i, Int.ofNat_lt.2 hlt, ?_⟩
        constructor <;> intro h3
        · have e3 : (((l.getD i 0).toNat : Int) == 10) = true := h3
          have hb : blank (l.getD i 0) = true := by rw [blank, e2, e3]; rfl
          conv => whnf
          refine ⟨(f, i + 1, acc), ⟨by dsimp only; omega, by dsimp only; omega, by dsimp only; omega, next hb rfl⟩, by dsimp only; omega, .of ⟨rfl, rfl, ?_, trivial⟩ trivial ⟨rfl, trivial⟩ (fun _ => .inr rfl)⟩
          exact congrArg (fun x => SV.t (.int .i64 x)) hstep
        · have e3 : (((l.getD i 0).toNat : Int) == 10) = false := h3
          have hb : blank (l.getD i 0) = false := by rw [blank, e2, e3]; rfl
          conv => whnf
          refine ⟨Int.natCast_nonneg i, by dsimp only; omega, by simp, ?_⟩
          have e : (l.take ((l.length : Int)).toNat).drop ((i : Int)).toNat = l.drop i := by simp
          have hdl : (l.drop i).length = l.length - i := List.length_drop
          have hlen : 0 < (l.drop i).length := by omega
          refine (c_first hE ((l.take ((l.length : Int)).toNat).drop ((i : Int)).toNat) (by rw [e]; exact hlen) (by rw [e]; omega)).use ?_
          constructor <;> intro h4
          · have h4' : ((first (l.drop i)).1 == 0) = true := by rw [← e]; exact h4
            refine ⟨?_, rfl⟩
            rw [he, scanG, if_neg (by omega), if_neg (by rw [hb]; simp), if_pos h4']
            rfl
          · have h4' : ¬ ((first (l.drop i)).1 == 0) = true := by rw [← e, show ((first ((l.take ((l.length : Int)).toNat).drop ((i : Int)).toNat)).1 == 0) = false from h4]; simp
            obtain ⟨hp1, hp2⟩ := first_len hlen h4'
            constructor <;> intro h5
            · have h5' : (first (l.drop i)).2.2 > 1099511627776 := by rw [← e]; exact of_decide_eq_true h5
              refine ⟨?_, rfl⟩
              rw [he, scanG, if_neg (by omega), if_neg (by rw [hb]; simp), if_neg h4', if_pos h5']
              rfl
            · have h5' : ¬ (first (l.drop i)).2.2 > 1099511627776 := by rw [← e]; exact of_decide_eq_false h5
              conv => whnf
              refine ⟨?_, ?_, ?_⟩
              · show ((acc.map Tk.tv).length + 1) * 40 ≤ 140737488355328
                rw [List.length_map]; omega
              · show (acc.map Tk.tv).length + 1 ≤ 9223372036854775807
                rw [List.length_map]; omega
              conv => whnf
              refine ⟨(f, i + (first (l.drop i)).2.1.length, acc ++ [⟨(first (l.drop i)).1, (first (l.drop i)).2.1, (first (l.drop i)).2.2, i⟩]), ⟨by dsimp only; omega, by dsimp only; omega, by dsimp only; rw [List.length_append, List.length_singleton]; omega, ?_⟩, by dsimp only; omega,
                .of ⟨rfl, rfl, ?_, trivial⟩ trivial ⟨?_, trivial⟩ (fun _ => .inr rfl)⟩
              · rw [he, scanG, if_neg (by omega), if_neg (by rw [hb]; simp), if_neg h4', if_neg h5']
              · show SV.t (.int .i64 (IntKind.i64.wrap ((i : Int) + ((first ((l.take ((l.length : Int)).toNat).drop ((i : Int)).toNat)).2.1.length : Int)))) = SV.t (.int .i64 ((i + (first (l.drop i)).2.1.length : Nat) : Int))
                rw [e, wrap_i64 (by omega) (by omega)]
                simp
              · show some (AObj.mk 4 false (acc.map Tk.tv ++ [tok (first ((l.take ((l.length : Int)).toNat).drop ((i : Int)).toNat)).1 (first ((l.take ((l.length : Int)).toNat).drop ((i : Int)).toNat)).2.1 (first ((l.take ((l.length : Int)).toNat).drop ((i : Int)).toNat)).2.2 i])) = _
                rw [e, List.map_append]
                rfl
      · have e2 : (((l.getD i 0).toNat : Int) == 32) = true := h2
        have hb : blank (l.getD i 0) = true := by rw [blank, e2]; rfl
        constructor <;> intro h3
        · conv => whnf
          refine ⟨(f, i + 1, acc), ⟨by dsimp only; omega, by dsimp only; omega, by dsimp only; omega, next hb rfl⟩, by dsimp only; omega, .of ⟨rfl, rfl, ?_, trivial⟩ trivial ⟨rfl, trivial⟩ (fun _ => .inr rfl)⟩
          exact congrArg (fun x => SV.t (.int .i64 x)) hstep
        · cases h3
    · have hge : l.length ≤ i := by have h1 : decide ((i : Int) < (l.length : Int)) = false := h1; have := of_decide_eq_false h1; omega
      conv => whnf
      refine ⟨?_, rfl⟩
      rw [he, scanG, if_pos hge]
      rfl
end Go.T
set_option linter.unusedVariables false
set_option linter.unusedSimpArgs false
namespace Go.T
open Go.Proofs Go.RowKit
variable {Ev : Env} {H : Nat → Option RObj}
/-- The parser's state: tokens, place, end, and what is made. -/
def pcells (l : List Tk) (p e : Int) (rest : List CV) : List CV := .v (.sl 4 (l.map Tk.tv)) :: .v (.int .i64 p) :: .v (.int .i64 e) :: rest
def failAt (l : List Tk) (p : Nat) (e : Int) : Int :=
  match l[p]? with
  | some t => t.pos
  | none => e
theorem c_fail (i : Nat) (l : List Tk) (p : Nat) (e : Int) (a b c d : CV) (hH : H i = some (.cells (pcells l p e [a, b, c, d]))) :
    TCalls Tryz.prog Ev 60 [.ptr i 0] H fun o H' => o = .panic (.iface 73 (.int .i64 (failAt l p e))) ∧ H' = H := by
  refine go noStop noStop Tryz.func60 rfl (by kernel_rfl) rfl ?_
  conv => whnf
  refine goDraw noStop [0, 1, 2, 3, 4, 5, 6, 7, 8, 9] (.first 0 false (.first 1 false (.first 2 false (.first 4 false (.first 5 false (.first 6 false (.first 3 true (.first 7 true (.first 8 false (.first 9 false .fin)))))))))) (by kernel_rfl) (by kernel_rfl) ?_
  refine ⟨_, hH, ?_⟩
  conv => whnf
  refine ⟨_, hH, ?_⟩
  conv => whnf
  intro hlen
  constructor <;> intro h1
  · have hlt : p < l.length := by have h1 : decide ((p : Int) < ((l.map Tk.tv).length : Int)) = true := h1; have := of_decide_eq_true h1; rw [List.length_map] at this; omega
    refine goDraw noStop [0, 1, 2, 3, 4, 5, 6, 7, 8, 9, 10, 11] (.first 0 false (.first 1 false (.first 2 false (.first 4 false (.first 5 false (.first 6 false (.first 3 true (.first 7 true (.first 8 false (.first 9 false (.first 10 false (.first 11 false (.alt 12 .fin .noalt))))))))))))) (by kernel_rfl) (by kernel_rfl) ?_
    refine ⟨_, hH, ?_⟩
    conv => whnf
    refine ⟨_, hH, ?_⟩
    conv => whnf
    refine ⟨by omega, by rw [List.length_map]; omega, ?_⟩
    intro x hx
    obtain ⟨t, ht, rfl⟩ := get_map' hx
    refine ⟨⟨?_, rfl⟩, trivial⟩
    show TOut.panic (.iface 73 (.int .i64 t.pos)) = _
    simp only [failAt, ht]
  · have hge : l.length ≤ p := by have h1 : decide ((p : Int) < ((l.map Tk.tv).length : Int)) = false := h1; have := of_decide_eq_false h1; rw [List.length_map] at this; omega
    conv => whnf
    refine ⟨_, hH, ?_⟩
    refine ⟨?_, rfl⟩
    show TOut.panic (.iface 73 (.int .i64 e)) = _
    simp only [failAt, List.getElem?_eq_none hge]
end Go.T
set_option linter.unusedVariables false
namespace Go.T
open Go.Proofs Go.RowKit
variable {Ev : Env} {H : Nat → Option RObj}
theorem c_member (l : List (List UInt8)) (x : List UInt8) : Ret Tryz.prog Ev 77 [.sl 1 (l.map .str), .str x] H (.t (.bool (decide (idx l x 0 ≥ 0)))) := by
  refine go noStop noStop Tryz.func77 rfl (by kernel_rfl) rfl ?_
  conv => whnf
  refine (c_index l x).use ?_
  exact ⟨rfl, rfl⟩
end Go.T
set_option linter.unusedVariables false
namespace Go.T
/-- A token without its place. -/
structure Tok where
  kind : Int
  text : List UInt8
  value : Int
  deriving Inhabited
def bs (s : String) : List UInt8 := s.toUTF8.data.toList
def kwText : List UInt8 := [32, 101, 120, 105, 115, 116, 115, 32, 102, 111, 114, 97, 108, 108, 32, 105, 110, 32, 119, 104, 101, 114, 101, 32, 97, 110, 100, 32, 103, 111, 97, 108, 32, 116, 114, 117, 101, 32, 112, 114, 111, 100, 117, 99, 116, 32, 105, 102, 102, 32, 101, 108, 101, 109, 101, 110, 116, 32, 100, 105, 102, 102, 101, 114, 101, 110, 116, 32, 116, 97, 98, 108, 101, 32]
section
variable (l : List Tok)
def aheadP (xs : List (List UInt8)) (p : Nat) : Bool :=
  match l[p]? with
  | some t => decide (idx xs t.text 0 ≥ 0)
  | none => false
def namedP (p : Nat) : Bool :=
  match l[p]? with
  | some t => t.kind == 1 && !Lib.contains kwText (([32] ++ t.text) ++ [32])
  | none => false
def digitsP (p : Nat) : Bool :=
  match l[p]? with
  | some t => t.kind == 2
  | none => false
def textP (p : Nat) : List UInt8 := (l.getD p default).text
def mustP (x : List UInt8) (p : Nat) : Except Nat Nat := if aheadP l [x] p then .ok (p + 1) else .error p
def nameP (p : Nat) : Except Nat Nat := if namedP l p then .ok (p + 1) else .error p
def valueP (p : Nat) : Except Nat (Int × Nat) := if digitsP l p then .ok ((l.getD p default).value, p + 1) else .error p
def minus : List UInt8 := [45]
def numberP (p : Nat) : Except Nat (Int × Nat) := if aheadP l [minus] p then (valueP l (p + 1)).map (fun x => (-x.1, x.2)) else valueP l p
def numbersG (least : Nat) : Nat → Nat → List Int → Except Nat ((List Int) × Nat)
  | 0, p, _ => .error p
  | f + 1, p, acc => if acc.length < least || digitsP l p || aheadP l [minus] p then
      match numberP l p with
      | .ok (n, p) => numbersG least f p (acc ++ [n])
      | .error k => .error k
    else .ok (acc, p)
def numbersP (least : Nat) (p : Nat) : Except Nat ((List Int) × Nat) := do
  let p ← mustP l [91] p
  let (ns, p) ← numbersG l least 5000 p []
  let p ← mustP l [93] p
  return (ns, p)

/-- A name in a constraint: its text, which token it is. -/
structure Nm where
  name : List UInt8
  ix : Nat
/-- A constraint, as it is parsed. -/
structure Cn where
  kind : Int
  vars : List Nm
  upto : Nat
  coefs : List Int
  rel : Int
  const : Int
  nums : List Int
def variableP (c : Cn) (p : Nat) : Except Nat (Cn × Nat) := do
  let q ← nameP l p
  return ({ c with vars := c.vars ++ [⟨textP l p, p⟩] }, q)
def variablesG (least : Nat) (more : Bool) : Nat → Nat → Cn → Nat → Except Nat (Cn × Nat)
  | 0, _, _, p => .error p
  | f + 1, n, c, p => if n < least || (more && namedP l p) then
      match variableP l c p with
      | .ok (c, p) => variablesG least more f (n + 1) c p
      | .error k => .error k
    else .ok (c, p)
def variablesP (least : Nat) (more : Bool) (c : Cn) (p : Nat) : Except Nat (Cn × Nat) := variablesG l least more 5000 0 c p
def coefP (p : Nat) : Except Nat (Int × Nat) :=
  if digitsP l p then do
    let (n, p) ← valueP l p
    let p ← mustP l [42] p
    return (n, p)
  else .ok (1, p)
def termP (sign : Int) (c : Cn) (p : Nat) : Except Nat (Cn × Nat) := do
  let (n, p) ← coefP l p
  variableP l { c with coefs := c.coefs ++ [sign * n] } p
def plus : List UInt8 := [43]
def signP (p : Nat) : Except Nat (Int × Nat) := if aheadP l [plus] p then .ok (1, p + 1) else (mustP l minus p).map (fun q => (-1, q))
def sumG : Nat → Cn → Nat → Except Nat (Cn × Nat)
  | 0, _, p => .error p
  | f + 1, c, p => if aheadP l [plus, minus] p then
      match (do let (s, p) ← signP l p; termP l s c p) with
      | .ok (c, p) => sumG f c p
      | .error k => .error k
    else .ok (c, p)
def relTexts : List (List UInt8) := [[61], [33, 61], [60], [60, 61], [62], [62, 61]]
def relP (c : Cn) (p : Nat) : Except Nat (Cn × Nat) :=
  if aheadP l relTexts p then (numberP l (p + 1)).map (fun x => ({ c with rel := idx relTexts (textP l p) 0, const := x.1 }, x.2)) else .error p
def sumP (c : Cn) (p : Nat) : Except Nat (Cn × Nat) := do
  let (c, p) ← if aheadP l [minus] p then termP l (-1) c (p + 1) else termP l 1 c p
  let (c, p) ← sumG l 5000 c p
  relP l c p
def con0 (upto : Nat) : Cn := ⟨1, [], upto, [], 0, 0, []⟩
def numsP (least : Nat) (c : Cn) (p : Nat) : Except Nat (Cn × Nat) := (numbersP l least p).map (fun x => ({ c with nums := x.1 }, x.2))
def kProduct : List UInt8 := [112, 114, 111, 100, 117, 99, 116]
def kIff : List UInt8 := [105, 102, 102]
def kElement : List UInt8 := [101, 108, 101, 109, 101, 110, 116]
def kDifferent : List UInt8 := [100, 105, 102, 102, 101, 114, 101, 110, 116]
def kTable : List UInt8 := [116, 97, 98, 108, 101]
def kTrue : List UInt8 := [116, 114, 117, 101]
def kAnd : List UInt8 := [97, 110, 100]
def kForall : List UInt8 := [102, 111, 114, 97, 108, 108]
def kExists : List UInt8 := [101, 120, 105, 115, 116, 115]
def kWhere : List UInt8 := [119, 104, 101, 114, 101]
def kGoal : List UInt8 := [103, 111, 97, 108]
def kIn : List UInt8 := [105, 110]
def kDots : List UInt8 := [46, 46]
def conP (upto : Nat) (p : Nat) : Except Nat (Cn × Nat) :=
  if aheadP l [kProduct] p then variablesP l 3 false { con0 upto with kind := 2 } (p + 1)
  else if aheadP l [kIff] p then do
    let (c, p) ← variableP l { con0 upto with kind := 3 } (p + 1)
    sumP l c p
  else if aheadP l [kElement] p then do
    let (c, p) ← variablesP l 2 false { con0 upto with kind := 4 } (p + 1)
    numsP l 1 c p
  else if aheadP l [kDifferent] p then variablesP l 2 true { con0 upto with kind := 5 } (p + 1)
  else if aheadP l [kTable] p then do
    let (c, p) ← variablesP l 1 true { con0 upto with kind := 6 } (p + 1)
    numsP l 0 c p
  else sumP l (con0 upto) p
def listG (upto : Nat) : Nat → List Cn → Nat → Except Nat ((List Cn) × Nat)
  | 0, _, p => .error p
  | f + 1, acc, p => if aheadP l [kAnd] p then
      match conP l upto (p + 1) with
      | .ok (c, p) => listG upto f (acc ++ [c]) p
      | .error k => .error k
    else .ok (acc, p)
def listP (upto : Nat) (p : Nat) : Except Nat ((List Cn) × Nat) :=
  if aheadP l [kTrue] p then .ok ([], p + 1)
  else do
    let (c, p) ← conP l upto p
    listG l upto 5000 [c] p
structure Dc where
  name : List UInt8
  dom : List (Int × Int)
def highP (low : Int) (p : Nat) : Except Nat (Int × Nat) := if aheadP l [kDots] p then numberP l (p + 1) else .ok (low, p)
def spanP (p : Nat) : Except Nat ((Int × Int) × Nat) := do
  let (a, p) ← numberP l p
  let (b, p) ← highP l a p
  return ((a, b), p)
def domG : Nat → List (Int × Int) → Nat → Except Nat ((List (Int × Int)) × Nat)
  | 0, _, p => .error p
  | f + 1, acc, p => match spanP l p with
    | .ok (s, p) => if digitsP l p || aheadP l [minus] p then domG f (acc ++ [s]) p else .ok (acc ++ [s], p)
    | .error k => .error k
def declP (p : Nat) : Except Nat (Dc × Nat) := do
  let q ← nameP l p
  let q ← mustP l kIn q
  let (d, q) ← domG l 5000 [] q
  return (⟨textP l p, d⟩, q)
def declsG : Nat → List Dc → Nat → Except Nat ((List Dc) × Nat)
  | 0, _, p => .error p
  | f + 1, acc, p => if aheadP l [[44]] p then
      match declP l (p + 1) with
      | .ok (d, p) => declsG f (acc ++ [d]) p
      | .error k => .error k
    else .ok (acc, p)
structure Bk where
  all : Bool
  vars : List Dc
  cons : List Cn
def quantP (p : Nat) : Except Nat (Bool × Nat) := if aheadP l [kForall] p then .ok (true, p + 1) else (mustP l kExists p).map (fun q => (false, q))
def whereP (upto : Nat) (p : Nat) : Except Nat ((List Cn) × Nat) := if aheadP l [kWhere] p then listP l upto (p + 1) else .ok ([], p)
def blockP (upto : Nat) (p : Nat) : Except Nat (Bk × Nat) := do
  let (a, p) ← quantP l p
  let (d, p) ← declP l p
  let (ds, p) ← declsG l 5000 [d] p
  let (cs, p) ← whereP l (upto + ds.length) p
  let p ← mustP l [59] p
  return (⟨a, ds, cs⟩, p)
def uptoB (bs : List Bk) : Nat := bs.foldl (fun n b => n + b.vars.length) 0
def blocksG : Nat → List Bk → Nat → Except Nat ((List Bk) × Nat)
  | 0, _, p => .error p
  | f + 1, acc, p => match blockP l (uptoB acc) p with
    | .ok (b, p) => if aheadP l [kGoal] p then .ok (acc ++ [b], p) else blocksG f (acc ++ [b]) p
    | .error k => .error k
structure Md where
  blocks : List Bk
  goal : List Cn
def allP (p : Nat) : Except Nat (Md × Nat) := do
  let (bs, p) ← blocksG l 5000 [] p
  let p ← mustP l kGoal p
  let (g, p) ← listP l (uptoB bs) p
  let p ← mustP l [59] p
  if p < l.length then .error p else .ok (⟨bs, g⟩, p)
end
end Go.T
set_option linter.unusedVariables false
set_option linter.unusedSimpArgs false
namespace Go.T
open Go.Proofs Go.RowKit
variable {Ev : Env} {H : Nat → Option RObj}
def Tk.tok (t : Tk) : Tok := ⟨t.kind, t.text, t.value⟩
def toks (l : List Tk) : List Tok := l.map Tk.tok
theorem toks_get {l : List Tk} {p : Nat} {t : Tk} (h : l[p]? = some t) : (toks l)[p]? = some t.tok := by simp [toks, h]
theorem toks_none {l : List Tk} {p : Nat} (h : l.length ≤ p) : (toks l)[p]? = none := by simp [toks, h]
theorem get_same {α β : Type} {f : α → β} {l : List α} {i : Nat} {y : β} {t : α} (h : (l.map f)[(i : Int).toNat]? = some y) (ht : l[i]? = some t) : y = f t := by
  obtain ⟨x, h1, rfl⟩ := get_map' h
  rw [ht] at h1; cases h1; rfl
theorem lt_of {l : List Tk} {p : Nat} (h : decide ((p : Int) < ((l.map Tk.tv).length : Int)) = true) : p < l.length := by
  have := of_decide_eq_true h; rw [List.length_map] at this; omega
theorem ge_of {l : List Tk} {p : Nat} (h : decide ((p : Int) < ((l.map Tk.tv).length : Int)) = false) : l.length ≤ p := by
  have := of_decide_eq_false h; rw [List.length_map] at this; omega

theorem c_ahead (i : Nat) (l : List Tk) (p : Nat) (e : Int) (a b c d : CV) (hH : H i = some (.cells (pcells l p e [a, b, c, d]))) (xs : List (List UInt8)) :
    Ret Tryz.prog Ev 56 [.ptr i 0, .sl 1 (xs.map .str)] H (.t (.bool (aheadP (toks l) xs p))) := by
  refine go noStop noStop Tryz.func56 rfl (by kernel_rfl) rfl ?_
  conv => whnf
  refine goDraw noStop [0, 1, 2, 3, 4, 5, 6, 7, 8, 9, 10, 11, 12, 13, 14, 15, 16, 17, 18, 19, 20, 21, 22, 24, 25] (.first 0 false (.first 1 false (.first 2 false (.first 4 false (.first 5 false (.first 6 false (.first 3 true (.first 7 true (.first 8 false (.first 9 false (.first 10 false (.first 11 false (.first 12 false (.first 13 false (.first 14 false (.first 16 false (.first 17 false (.first 18 false (.first 15 true (.first 19 true (.first 20 false (.first 21 false (.first 22 false (.alt 23 (.first 24 false (.first 25 false .fin)) .noalt)))))))))))))))))))))))) (by kernel_rfl) (by kernel_rfl) ?_
  refine ⟨_, hH, ?_⟩; conv => whnf
  refine ⟨_, hH, ?_⟩; conv => whnf
  intro hlen
  conv => whnf
  constructor <;> intro h1
  · have hlt := lt_of h1
    conv => whnf
    refine ⟨_, hH, ?_⟩; conv => whnf
    refine ⟨_, hH, ?_⟩; conv => whnf
    refine ⟨by omega, by rw [List.length_map]; omega, ?_⟩
    intro x hx
    obtain ⟨t, ht, rfl⟩ := get_map' hx
    conv => whnf
    refine ⟨(c_member xs t.text).use ?_, trivial⟩
    refine ⟨?_, rfl⟩
    show TOut.ret (RV.t (TV.bool (decide (idx xs t.text 0 ≥ 0)))) = _
    simp only [aheadP, toks_get ht]
    rfl
  · have hge := ge_of h1
    refine ⟨?_, trivial⟩
    conv => whnf
    refine ⟨?_, rfl⟩
    show TOut.ret (RV.t (TV.bool false)) = _
    simp only [aheadP, toks_none hge]

theorem c_digits (i : Nat) (l : List Tk) (p : Nat) (e : Int) (a b c d : CV) (hH : H i = some (.cells (pcells l p e [a, b, c, d]))) :
    Ret Tryz.prog Ev 91 [.ptr i 0] H (.t (.bool (digitsP (toks l) p))) := by
  refine go noStop noStop Tryz.func91 rfl (by kernel_rfl) rfl ?_
  conv => whnf
  refine goDraw noStop [0, 1, 2, 3, 4, 5, 6, 7, 8, 9, 10, 11, 12, 13, 14, 15, 16, 17, 18, 19, 20, 21, 22, 23, 24] (.first 0 false (.first 1 false (.first 2 false (.first 4 false (.first 5 false (.first 6 false (.first 3 true (.first 7 true (.first 8 false (.first 9 false (.first 10 false (.first 11 false (.first 12 false (.first 13 false (.first 15 false (.first 16 false (.first 17 false (.first 14 true (.first 18 true (.first 19 false (.first 20 false (.first 21 false (.first 22 false (.first 23 false (.first 24 false .fin))))))))))))))))))))))))) (by kernel_rfl) (by kernel_rfl) ?_
  refine ⟨_, hH, ?_⟩; conv => whnf
  refine ⟨_, hH, ?_⟩; conv => whnf
  intro hlen
  conv => whnf
  constructor <;> intro h1
  · have hlt := lt_of h1
    conv => whnf
    refine ⟨_, hH, ?_⟩; conv => whnf
    refine ⟨_, hH, ?_⟩; conv => whnf
    refine ⟨by omega, by rw [List.length_map]; omega, ?_⟩
    intro x hx
    obtain ⟨t, ht, rfl⟩ := get_map' hx
    conv => whnf
    refine ⟨?_, rfl⟩
    show TOut.ret (RV.t (TV.bool (t.kind == 2))) = _
    simp only [digitsP, toks_get ht]
    rfl
  · have hge := ge_of h1
    conv => whnf
    refine ⟨?_, rfl⟩
    show TOut.ret (RV.t (TV.bool false)) = _
    simp only [digitsP, toks_none hge]

theorem c_named (hE : ∀ w, Ev.E w → HasMax w) (i : Nat) (l : List Tk) (hl : ∀ t, t ∈ l → t.text.length ≤ 4000) (p : Nat) (e : Int) (a b c d : CV) (hH : H i = some (.cells (pcells l p e [a, b, c, d]))) :
    Ret Tryz.prog Ev 105 [.ptr i 0] H (.t (.bool (namedP (toks l) p))) := by
  refine go noStop noStop Tryz.func105 rfl (by kernel_rfl) rfl ?_
  conv => whnf
  refine goDraw noStop [0, 1, 2, 3, 4, 5, 6, 7, 8, 9, 10, 11, 12, 13, 14, 15, 16, 17, 18, 19, 20, 21, 22, 23, 24, 25, 26, 27, 28, 29, 30, 31, 32, 33, 34, 35, 36, 37, 39, 40, 41] (.first 0 false (.first 1 false (.first 2 false (.first 4 false (.first 5 false (.first 6 false (.first 3 true (.first 7 true (.first 8 false (.first 9 false (.first 10 false (.first 11 false (.first 12 false (.first 13 false (.first 15 false (.first 16 false (.first 17 false (.first 14 true (.first 18 true (.first 19 false (.first 20 false (.first 21 false (.first 22 false (.first 23 false (.first 24 false (.first 25 false (.first 26 false (.first 27 false (.first 29 false (.first 30 false (.first 31 false (.first 28 true (.first 32 true (.first 33 false (.first 34 false (.first 35 false (.first 36 false (.first 37 false (.alt 38 (.first 39 false (.first 40 false (.first 41 false .fin))) .noalt))))))))))))))))))))))))))))))))))))))) (by kernel_rfl) (by kernel_rfl) ?_
  refine ⟨_, hH, ?_⟩; conv => whnf
  refine ⟨_, hH, ?_⟩; conv => whnf
  intro hlen
  conv => whnf
  constructor <;> intro h1
  · have hlt := lt_of h1
    conv => whnf
    refine ⟨_, hH, ?_⟩; conv => whnf
    refine ⟨_, hH, ?_⟩; conv => whnf
    refine ⟨by omega, by rw [List.length_map]; omega, ?_⟩
    intro x hx
    obtain ⟨t, ht, rfl⟩ := get_map' hx
    have hm := hl t (List.mem_of_getElem? ht)
    conv => whnf
    constructor <;> intro h2
    · have h2' : (t.kind == 1) = true := h2
      conv => whnf
      refine ⟨_, hH, ?_⟩; conv => whnf
      refine ⟨_, hH, ?_⟩; conv => whnf
      refine ⟨by omega, by rw [List.length_map]; omega, ?_⟩
      intro x hx
      obtain rfl := get_same hx ht
      conv => whnf
      refine ⟨by simp only [List.length_singleton]; omega, ?_⟩
      conv => whnf
      refine ⟨by simp only [List.length_append, List.length_singleton]; omega, ?_⟩
      conv => whnf
      refine ⟨(c_contains hE _ _ (by decide)).use ?_, trivial⟩
      conv => whnf
      refine ⟨?_, rfl⟩
      show TOut.ret (RV.t (TV.bool (!Lib.contains kwText (([32] ++ t.text) ++ [32])))) = _
      simp only [namedP, toks_get ht, show t.tok.kind = t.kind from rfl, h2', Bool.true_and]
      rfl
    · have h2' : (t.kind == 1) = false := h2
      conv => whnf
      refine ⟨?_, trivial⟩
      conv => whnf
      refine ⟨?_, rfl⟩
      show TOut.ret (RV.t (TV.bool false)) = _
      simp only [namedP, toks_get ht, show t.tok.kind = t.kind from rfl, h2', Bool.false_and]
  · have hge := ge_of h1
    conv => whnf
    constructor <;> intro h2
    · cases h2
    · conv => whnf
      refine ⟨?_, trivial⟩
      conv => whnf
      refine ⟨?_, rfl⟩
      show TOut.ret (RV.t (TV.bool false)) = _
      simp only [namedP, toks_none hge]
end Go.T
set_option linter.unusedVariables false
set_option linter.unusedSimpArgs false
namespace Go.T
open Go.Proofs Go.RowKit
variable {Ev : Env} {H : Nat → Option RObj}
def wrongAt (l : List Tk) (e : Int) (k : Nat) : TOut := .panic (.iface 73 (.int .i64 (failAt l k e)))
/-- What a parser's function does: it takes what is told, or gives up at a token. -/
def PK {α : Type} (r : Except Nat α) (l : List Tk) (e : Int) (ok : α → TOut → (Nat → Option RObj) → Prop) (o : TOut) (H' : Nat → Option RObj) : Prop :=
  match r with
  | .ok x => ok x o H'
  | .error k => o = wrongAt l e k
theorem PK.use {α : Type} {f : FuncId} {args : List TV} {r : Except Nat α} {l : List Tk} {e : Int} {ok : α → TOut → (Nat → Option RObj) → Prop} {K : TOut → (Nat → Option RObj) → Prop} (h : TCalls Tryz.prog Ev f args H (PK r l e ok))
    (k1 : ∀ x, r = .ok x → ∀ o H', ok x o H' → K o H') (k2 : ∀ k H', r = .error k → K (wrongAt l e k) H') : Hold (TCalls Tryz.prog Ev f args H K) := by
  refine ⟨h.mono fun o H' ho => ?_⟩
  cases r with
  | ok x => exact k1 x rfl o H' ho
  | error k => have ho : o = _ := ho; rw [ho]; exact k2 k H' rfl
theorem upd_upd {α : Type} (f : Nat → α) (d : Nat) (x y : α) : upd (upd f d x) d y = upd f d y := by
  funext k
  by_cases e : k = d
  · subst e; simp
  · simp [upd_ne _ _ e]
theorem upd_comm {α : Type} (f : Nat → α) {d e : Nat} (h : d ≠ e) (x y : α) : upd (upd f d x) e y = upd (upd f e y) d x := by
  funext k
  by_cases h1 : k = d
  · subst h1; simp [upd_ne _ _ h]
  · by_cases h2 : k = e
    · subst h2; simp [upd_ne _ _ h1]
    · simp [upd_ne _ _ h1, upd_ne _ _ h2]
theorem wrap_succ {p : Nat} (h : p ≤ 4000) : IntKind.i64.wrap ((p : Int) + 1) = ((p + 1 : Nat) : Int) := by rw [wrap_i64 (by omega) (by omega)]; simp

theorem wrap_back {p : Nat} (h : p ≤ 4000) : IntKind.i64.wrap (IntKind.i64.wrap ((p : Int) + 1) - 1) = (p : Int) := by
  rw [wrap_succ h, wrap_i64 (by omega) (by omega)]; omega
/-- What is known of the tokens. -/
structure Toks (l : List Tk) : Prop where
  len : l.length ≤ 4000
  text : ∀ t, t ∈ l → t.text.length ≤ 4000
  val : ∀ t, t ∈ l → 0 ≤ t.value ∧ t.value ≤ 1099511627776

theorem aheadP_lt {l : List Tk} {xs : List (List UInt8)} {p : Nat} (h : aheadP (toks l) xs p = true) : p < l.length := by
  rcases Nat.lt_or_ge p l.length with h' | h'
  · exact h'
  · simp [aheadP, toks_none h'] at h
theorem namedP_lt {l : List Tk} {p : Nat} (h : namedP (toks l) p = true) : p < l.length := by
  rcases Nat.lt_or_ge p l.length with h' | h'
  · exact h'
  · simp [namedP, toks_none h'] at h
theorem digitsP_lt {l : List Tk} {p : Nat} (h : digitsP (toks l) p = true) : p < l.length := by
  rcases Nat.lt_or_ge p l.length with h' | h'
  · exact h'
  · simp [digitsP, toks_none h'] at h

theorem valueP_ok {l : List Tk} (hl : Toks l) {p : Nat} {x : Int × Nat} (h : valueP (toks l) p = .ok x) : 0 ≤ x.1 ∧ x.1 ≤ 1099511627776 ∧ x.2 = p + 1 ∧ p < l.length := by
  unfold valueP at h
  split at h
  · rename_i h1
    have hlt := digitsP_lt h1
    cases h
    have ht : l[p]? = some l[p] := List.getElem?_eq_getElem hlt
    have hv := hl.val _ (List.getElem_mem hlt)
    rw [List.getD_eq_getElem?_getD, toks_get ht]
    exact ⟨hv.1, hv.2, rfl, hlt⟩
  · cases h
theorem numberP_ok {l : List Tk} (hl : Toks l) {p : Nat} {x : Int × Nat} (h : numberP (toks l) p = .ok x) : -1099511627776 ≤ x.1 ∧ x.1 ≤ 1099511627776 ∧ p < x.2 ∧ x.2 ≤ l.length := by
  unfold numberP at h
  split at h
  · cases hv : valueP (toks l) (p + 1) with
    | error k => rw [hv] at h; cases h
    | ok y =>
      rw [hv] at h
      cases h
      have := valueP_ok hl hv
      dsimp only
      omega
  · have := valueP_ok hl h
    omega
section
variable (i : Nat) (l : List Tk) (hl : Toks l) (p : Nat) (e : Int) (a b c d : CV)
include hl
theorem c_take (hH : H i = some (.cells (pcells l p e [a, b, c, d]))) (x : List UInt8) :
    TCalls Tryz.prog Ev 78 [.ptr i 0, .str x] H fun o H' => o = .ret (.t (.bool (aheadP (toks l) [x] p))) ∧ H' = bif aheadP (toks l) [x] p then upd H i (some (.cells (pcells l (p + 1 : Nat) e [a, b, c, d]))) else H := by
  refine go noStop noStop Tryz.func78 rfl (by kernel_rfl) rfl ?_
  conv => whnf
  refine (c_ahead i l p e a b c d hH [x]).use ?_
  conv => whnf
  constructor <;> intro h1
  · have h1' : aheadP (toks l) [x] p = true := h1
    have hlt := aheadP_lt h1'
    have := hl.len
    conv => whnf
    refine ⟨_, hH, ?_⟩; conv => whnf
    refine ⟨_, hH, ?_⟩; conv => whnf
    refine ⟨?_, ?_⟩
    · show TOut.ret (RV.t (TV.bool (aheadP (toks l) [x] p))) = _
      rfl
    · rw [h1']
      show upd H i (some (.cells (pcells l (IntKind.i64.wrap ((p : Int) + 1)) e [a, b, c, d]))) = _
      rw [wrap_succ (by omega)]
      rfl
  · have h1' : aheadP (toks l) [x] p = false := h1
    conv => whnf
    refine ⟨rfl, ?_⟩
    rw [h1']
    rfl
theorem c_must (hH : H i = some (.cells (pcells l p e [a, b, c, d]))) (x : List UInt8) :
    TCalls Tryz.prog Ev 58 [.ptr i 0, .str x] H (PK (mustP (toks l) x p) l e fun q o H' => o = .ret (.tup []) ∧ H' = upd H i (some (.cells (pcells l (q : Nat) e [a, b, c, d])))) := by
  generalize hr : mustP (toks l) x p = r
  refine go noStop noStop Tryz.func58 rfl (by kernel_rfl) rfl ?_
  conv => whnf
  refine ⟨(c_take i l hl p e a b c d hH x).mono ?_⟩
  rintro _ _ ⟨rfl, rfl⟩
  unfold mustP at hr
  cases h1 : aheadP (toks l) [x] p with
  | true =>
    rw [h1] at hr
    obtain rfl : r = .ok (p + 1) := hr.symm
    conv => whnf
    constructor <;> intro h2
    · cases h2
    · conv => whnf
      exact ⟨rfl, rfl⟩
  | false =>
    rw [h1] at hr
    obtain rfl : r = .error p := hr.symm
    conv => whnf
    constructor <;> intro h2
    · conv => whnf
      refine ⟨(c_fail i l p e a b c d hH).mono ?_⟩
      rintro _ _ ⟨rfl, rfl⟩
      conv => whnf
      rfl
    · cases h2
theorem c_pvalue (hH : H i = some (.cells (pcells l p e [a, b, c, d]))) :
    TCalls Tryz.prog Ev 106 [.ptr i 0] H (PK (valueP (toks l) p) l e fun x o H' => o = .ret (.t (.int .i64 x.1)) ∧ H' = upd H i (some (.cells (pcells l (x.2 : Nat) e [a, b, c, d])))) := by
  generalize hr : valueP (toks l) p = r
  refine go noStop noStop Tryz.func106 rfl (by kernel_rfl) rfl ?_
  conv => whnf
  refine (c_digits i l p e a b c d hH).use ?_
  unfold valueP at hr
  constructor <;> intro h1
  · have h1' : digitsP (toks l) p = false := by have h1 : (!digitsP (toks l) p) = true := h1; simpa using h1
    rw [h1'] at hr
    obtain rfl : r = .error p := hr.symm
    conv => whnf
    refine ⟨(c_fail i l p e a b c d hH).mono ?_⟩
    rintro _ _ ⟨rfl, rfl⟩
    conv => whnf
    rfl
  · have h1' : digitsP (toks l) p = true := by have h1 : (!digitsP (toks l) p) = false := h1; simpa using h1
    have hlt := digitsP_lt h1'
    have := hl.len
    rw [h1'] at hr
    obtain rfl : r = .ok (((toks l).getD p default).value, p + 1) := hr.symm
    conv => whnf
    refine ⟨_, hH, ?_⟩; conv => whnf
    refine ⟨_, hH, ?_⟩; conv => whnf
    refine goDraw noStop [0, 1, 2, 3, 4, 5, 6, 7, 8, 9, 10, 11, 12] (.first 0 false (.first 1 false (.first 2 false (.first 4 false (.first 5 false (.first 6 false (.first 3 true (.first 7 true (.first 8 false (.first 9 false (.first 10 false (.first 11 false (.first 12 false .fin))))))))))))) (by kernel_rfl) (by kernel_rfl) ?_
    refine ⟨_, upd_same _ _ _, ?_⟩
    conv => whnf
    refine ⟨_, upd_same _ _ _, ?_⟩
    conv => whnf
    have hw : IntKind.i64.wrap (IntKind.i64.wrap ((p : Int) + 1) - 1) = (p : Int) := wrap_back (by omega)
    refine ⟨by rw [hw]; omega, by rw [hw, List.length_map]; omega, ?_⟩
    intro x hx
    rw [hw] at hx
    obtain ⟨t, ht, rfl⟩ := get_map' hx
    conv => whnf
    refine ⟨?_, ?_⟩
    · show TOut.ret (RV.t (TV.int .i64 t.value)) = _
      rw [List.getD_eq_getElem?_getD, toks_get ht]
      rfl
    · show upd H i (some (.cells (pcells l (IntKind.i64.wrap ((p : Int) + 1)) e [a, b, c, d]))) = _
      rw [wrap_succ (by omega)]
theorem c_name (hE : ∀ w, Ev.E w → HasMax w) (hH : H i = some (.cells (pcells l p e [a, b, c, d]))) :
    TCalls Tryz.prog Ev 90 [.ptr i 0] H (PK (nameP (toks l) p) l e fun q o H' => q = p + 1 ∧ (∃ t, l[p]? = some t ∧ o = .ret (.t t.tv)) ∧ H' = upd H i (some (.cells (pcells l (q : Nat) e [a, b, c, d])))) := by
  generalize hr : nameP (toks l) p = r
  refine go noStop noStop Tryz.func90 rfl (by kernel_rfl) rfl ?_
  conv => whnf
  refine (c_named hE i l hl.text p e a b c d hH).use ?_
  unfold nameP at hr
  constructor <;> intro h1
  · have h1' : namedP (toks l) p = false := by have h1 : (!namedP (toks l) p) = true := h1; simpa using h1
    rw [h1'] at hr
    obtain rfl : r = .error p := hr.symm
    conv => whnf
    refine ⟨(c_fail i l p e a b c d hH).mono ?_⟩
    rintro _ _ ⟨rfl, rfl⟩
    conv => whnf
    rfl
  · have h1' : namedP (toks l) p = true := by have h1 : (!namedP (toks l) p) = false := h1; simpa using h1
    have hlt := namedP_lt h1'
    have := hl.len
    rw [h1'] at hr
    obtain rfl : r = .ok (p + 1) := hr.symm
    conv => whnf
    refine ⟨_, hH, ?_⟩; conv => whnf
    refine ⟨_, hH, ?_⟩; conv => whnf
    refine goDraw noStop [0, 1, 2, 3, 4, 5, 6, 7, 8, 9, 10] (.first 0 false (.first 1 false (.first 2 false (.first 4 false (.first 5 false (.first 6 false (.first 3 true (.first 7 true (.first 8 false (.first 9 false (.first 10 false (.alt 11 .fin .noalt)))))))))))) (by kernel_rfl) (by kernel_rfl) ?_
    refine ⟨_, upd_same _ _ _, ?_⟩
    conv => whnf
    refine ⟨_, upd_same _ _ _, ?_⟩
    conv => whnf
    have hw : IntKind.i64.wrap (IntKind.i64.wrap ((p : Int) + 1) - 1) = (p : Int) := wrap_back (by omega)
    refine ⟨by rw [hw]; omega, by rw [hw, List.length_map]; omega, ?_⟩
    intro x hx
    rw [hw] at hx
    obtain ⟨t, ht, rfl⟩ := get_map' hx
    conv => whnf
    refine ⟨⟨rfl, ⟨t, ht, rfl⟩, ?_⟩, trivial⟩
    show upd H i (some (.cells (pcells l (IntKind.i64.wrap ((p : Int) + 1)) e [a, b, c, d]))) = _
    rw [wrap_succ (by omega)]
theorem c_number (hH : H i = some (.cells (pcells l p e [a, b, c, d]))) :
    TCalls Tryz.prog Ev 92 [.ptr i 0] H (PK (numberP (toks l) p) l e fun x o H' => o = .ret (.t (.int .i64 x.1)) ∧ H' = upd H i (some (.cells (pcells l (x.2 : Nat) e [a, b, c, d])))) := by
  generalize hr : numberP (toks l) p = r
  refine go noStop noStop Tryz.func92 rfl (by kernel_rfl) rfl ?_
  conv => whnf
  refine ⟨(c_take i l hl p e a b c d hH minus).mono ?_⟩
  rintro _ _ ⟨rfl, rfl⟩
  unfold numberP at hr
  cases h1 : aheadP (toks l) [minus] p with
  | true =>
    rw [h1] at hr
    have hr : (valueP (toks l) (p + 1)).map (fun x => (-x.1, x.2)) = r := hr
    conv => whnf
    constructor <;> intro h2
    · conv => whnf
      refine PK.use (c_pvalue i l hl (p + 1) e a b c d (upd_same _ _ _)) ?_ ?_
      · rintro x hx _ _ ⟨rfl, rfl⟩
        rw [hx] at hr
        obtain rfl : r = .ok (-x.1, x.2) := hr.symm
        conv => whnf
        refine ⟨?_, ?_⟩
        · show TOut.ret (RV.t (TV.int .i64 (IntKind.i64.wrap (0 - x.1)))) = _
          have hb := valueP_ok hl hx
          rw [wrap_i64 (by omega) (by omega)]
          show _ = TOut.ret (RV.t (TV.int .i64 (-x.1)))
          congr 3; omega
        · exact upd_upd _ _ _ _
      · intro k H' hx
        rw [hx] at hr
        obtain rfl : r = .error k := hr.symm
        conv => whnf
        rfl
    · cases h2
  | false =>
    rw [h1] at hr
    have hr : valueP (toks l) p = r := hr
    conv => whnf
    constructor <;> intro h2
    · cases h2
    · conv => whnf
      refine PK.use (c_pvalue i l hl p e a b c d hH) ?_ ?_
      · rintro x hx _ _ ⟨rfl, rfl⟩
        obtain rfl : r = .ok x := hr.symm.trans hx
        conv => whnf
        exact ⟨rfl, rfl⟩
      · intro k H' hx
        obtain rfl : r = .error k := hr.symm.trans hx
        conv => whnf
        rfl
end
end Go.T
set_option linter.unusedVariables false
set_option linter.unusedSimpArgs false
namespace Go.T
open Go.Proofs Go.RowKit
variable {Ev : Env} {H : Nat → Option RObj}
def stopAt (k : Nat) : Nat → Bool := fun i => Nat.beq i k
def ints (ns : List Int) : List TV := ns.map (TV.int .i64)
theorem mustP_ok {l : List Tok} {x : List UInt8} {p q : Nat} (h : mustP l x p = .ok q) : q = p + 1 ∧ aheadP l [x] p = true := by
  unfold mustP at h
  split at h
  · rename_i h1; cases h; exact ⟨rfl, h1⟩
  · cases h
section
variable (i : Nat) (l : List Tk) (hl : Toks l) (p : Nat) (e : Int) (a b c d : CV)
include hl
theorem c_numbers (hH : H i = some (.cells (pcells l p e [a, b, c, d]))) (least : Nat) :
    TCalls Tryz.prog Ev 96 [.ptr i 0, .int .i64 least] H (PK (numbersP (toks l) least p) l e fun x o H' => o = .ret (.own 1 (ints x.1)) ∧ H' = upd H i (some (.cells (pcells l (x.2 : Nat) e [a, b, c, d])))) := by
  generalize hr : numbersP (toks l) least p = r
  refine go noStop noStop Tryz.func96 rfl (by kernel_rfl) rfl ?_
  conv => whnf
  refine PK.use (c_must i l hl p e a b c d hH [91]) ?_ ?_
  · rintro q hq _ _ ⟨rfl, rfl⟩
    obtain ⟨hq1, hq2⟩ := mustP_ok hq
    have hp := aheadP_lt hq2
    have hlen := hl.len
    conv => whnf
    refine goLoop noStop (stopAt 3) (fun s : Nat × Nat × List Int => .of [(0, .t (.ptr i 0)), (1, .t (.int .i64 least)), (5, .arr 5)] [] [(5, some ⟨1, false, ints s.2.2⟩)] (upd H i (some (.cells (pcells l (s.2.1 : Nat) e [a, b, c, d])))))
      (fun s => s.2.1 ≤ l.length ∧ l.length - s.2.1 < s.1 ∧ s.2.2.length ≤ s.2.1 ∧ numbersG (toks l) least 5000 q [] = numbersG (toks l) least s.1 s.2.1 s.2.2) (fun s => l.length - s.2.1) (5000, q, []) ⟨by dsimp only; omega, by dsimp only; omega, by simp, rfl⟩
      (.of ⟨rfl, rfl, rfl, trivial⟩ trivial ⟨rfl, trivial⟩ (fun _ => .inr rfl)) ?_
    rintro ⟨f, p', acc⟩ ⟨h1, h2, h3, h4⟩
    dsimp only at h1 h2 h3 h4
    obtain ⟨f, rfl⟩ : ∃ k, f = k + 1 := ⟨f - 1, by omega⟩
    have hi : (ints acc).length = acc.length := by simp [ints]
    let C : Bool := acc.length < least || digitsP (toks l) p' || aheadP (toks l) [minus] p'
    let s0 : TS := .of [(0, .t (.ptr i 0)), (1, .t (.int .i64 least)), (5, .arr 5), (20, .t (.bool C))] [] [(5, some ⟨1, false, ints acc⟩)] (upd H i (some (.cells (pcells l (p' : Nat) e [a, b, c, d]))))
    refine goSeqTo noStop (stopAt 3) noStop (fun _ : Unit => s0) (fun _ => C = true) (show Hold _ from goSeqTo noStop noStop noStop (fun _ : Unit => s0) (fun _ => True) ?_ ?_) ?_
    · conv => whnf
      intro hm
      constructor <;> intro g1
      · have g1' : decide (acc.length < least) = false := by
          have g1 : decide (((ints acc).length : Int) < (least : Int)) = false := g1
          have := of_decide_eq_false g1
          exact decide_eq_false (by omega)
        refine (c_digits i l p' e a b c d (upd_same _ _ _)).use ?_
        conv => whnf
        constructor <;> intro g2
        · have g2' : digitsP (toks l) p' = false := g2
          conv => whnf
          refine (c_ahead i l p' e a b c d (upd_same _ _ _) [minus]).use ?_
          conv => whnf
          refine ⟨(), trivial, .of ⟨rfl, rfl, rfl, ?_, trivial⟩ trivial ⟨rfl, trivial⟩ (fun _ => .inr rfl)⟩
          show SV.t (TV.bool (aheadP (toks l) [minus] p')) = SV.t (TV.bool C)
          simp only [C, g1', g2', Bool.false_or]
        · have g2' : digitsP (toks l) p' = true := g2
          conv => whnf
          refine ⟨(), trivial, .of ⟨rfl, rfl, rfl, ?_, trivial⟩ trivial ⟨rfl, trivial⟩ (fun _ => .inr rfl)⟩
          show SV.t (TV.bool true) = SV.t (TV.bool C)
          simp only [C, g1', g2', Bool.false_or, Bool.true_or]
      · have g1' : decide (acc.length < least) = true := by
          have g1 : decide (((ints acc).length : Int) < (least : Int)) = true := g1
          have := of_decide_eq_true g1
          exact decide_eq_true (by omega)
        conv => whnf
        constructor <;> intro g2
        · cases g2
        · conv => whnf
          refine ⟨(), trivial, .of ⟨rfl, rfl, rfl, ?_, trivial⟩ trivial ⟨rfl, trivial⟩ (fun _ => .inr rfl)⟩
          show SV.t (TV.bool true) = SV.t (TV.bool C)
          simp only [C, g1', Bool.true_or]
    · rintro _ _
      constructor <;> intro hC
      · exact ⟨(), hC, .refl _⟩
      · have hg : numbersG (toks l) least 5000 q [] = .ok (acc, p') := by rw [h4]; show (if C then _ else _) = _; rw [hC]; rfl
        conv => whnf
        refine PK.use (c_must i l hl p' e a b c d (upd_same _ _ _) [93]) ?_ ?_
        · rintro q2 hq2 _ _ ⟨rfl, rfl⟩
          obtain rfl : r = .ok (acc, q2) := hr.symm.trans (by simp only [numbersP, hq, hg, hq2, bind, Except.bind, pure, Except.pure])
          conv => whnf
          exact ⟨rfl, upd_upd _ _ _ _⟩
        · intro k H' hx
          obtain rfl : r = .error k := hr.symm.trans (by simp only [numbersP, hq, hg, hx, bind, Except.bind, pure, Except.pure])
          conv => whnf
          rfl
    · rintro _ hC
      have hg : numbersG (toks l) least 5000 q [] = match numberP (toks l) p' with
        | .ok (n, p) => numbersG (toks l) least f p (acc ++ [n])
        | .error k => .error k := by rw [h4]; show (if C then _ else _) = _; rw [hC]; rfl
      conv => whnf
      refine PK.use (c_number i l hl p' e a b c d (upd_same _ _ _)) ?_ ?_
      · rintro x hx _ _ ⟨rfl, rfl⟩
        have hb := numberP_ok hl hx
        rw [hx] at hg; dsimp only at hg
        conv => whnf
        refine ⟨by show ((ints acc).length + 1) * 8 ≤ _; omega, by show (ints acc).length + 1 ≤ _; omega, ?_⟩
        conv => whnf
        refine ⟨(f, x.2, acc ++ [x.1]), ⟨by dsimp only; omega, by dsimp only; omega, by simp only [List.length_append, List.length_singleton]; omega, hg⟩, by dsimp only; omega, .of ⟨rfl, rfl, rfl, trivial⟩ trivial ⟨?_, trivial⟩ (fun j => .inr (congrFun (upd_upd _ _ _ _) j))⟩
        show some (AObj.mk 1 false (ints acc ++ [.int .i64 x.1])) = some (AObj.mk 1 false (ints (acc ++ [x.1])))
        simp [ints]
      · intro k H' hx
        rw [hx] at hg; dsimp only at hg
        obtain rfl : r = .error k := hr.symm.trans (by simp only [numbersP, hq, hg, bind, Except.bind, pure, Except.pure])
        conv => whnf
        rfl
  · intro k H' hq
    have hr' : numbersP (toks l) least p = .error k := by unfold numbersP; rw [hq]; rfl
    obtain rfl : r = .error k := hr.symm.trans hr'
    conv => whnf
    rfl
end
end Go.T
set_option linter.unusedVariables false
set_option linter.unusedSimpArgs false
namespace Go.T
open Go.Proofs Go.RowKit
variable {Ev : Env} {H : Nat → Option RObj}
/-- A name in a constraint, as it is kept: its text, its place, how many variables there are. -/
def useTV (name : List UInt8) (pos : Int) (upto : Nat) : TV := .agg [.str name, .int .i64 pos, .int .i64 upto]
def zeros (n : Nat) : List TV := List.replicate n (.int .i64 0)
/-- A constraint that is being made. -/
def ccells (kind : Int) (r n cap : Nat) (coefs : List Int) (rel const : Int) (nm : CV) : List CV :=
  [.v (.int .i64 kind), .v (.slr 1 r n cap), .own 1 (ints coefs), .v (.int .i64 rel), .v (.int .i64 const), nm]
/-- The numbers of its variables: not known yet. -/
def VarsAt (H : Nat → Option RObj) (r n cap : Nat) : Prop := n = 0 ∨ H r = some (.arr 1 cap (zeros n))
def pcell (l : List Tk) (p : Nat) (e : Int) (a b : CV) (V : List (List UInt8)) (us : List TV) : RObj := .cells (pcells l p e [a, b, .own 1 (V.map .str), .own 3 us])
/-- Where names stand, as they are kept. -/
def Nm.use (l : List Tk) (upto : Nat) (x : Nm) : TV := useTV x.name (l.getD x.ix ⟨0, [], 0, 0⟩).pos upto

section
variable (i j : Nat) (l : List Tk) (hl : Toks l) (p : Nat) (e : Int) (a b : CV) (V : List (List UInt8)) (us : List TV)
include hl
theorem c_variable (hE : ∀ w, Ev.E w → HasMax w) (hH : H i = some (pcell l p e a b V us)) {kind : Int} {r n cap : Nat} {coefs : List Int} {rel const : Int} {nm : CV} (hC : H j = some (.cells (ccells kind r n cap coefs rel const nm)))
    (hR : VarsAt H r n cap) (hn : n ≤ 4000) (hV : V.length ≤ 4000) (hu : us.length ≤ 4000) :
    TCalls Tryz.prog Ev 94 [.ptr i 0, .ptr j 0] H (PK (nameP (toks l) p) l e fun q o H' => o = .ret (.tup []) ∧ ∃ r' cap', (r' = r ∧ 0 < n ∨ H r' = none) ∧ r' ≠ i ∧ r' ≠ j ∧
      H' i = some (pcell l q e a b V (us ++ [Nm.use l V.length ⟨textP (toks l) p, p⟩])) ∧ H' j = some (.cells (ccells kind r' (n + 1) cap' coefs rel const nm)) ∧ H' r' = some (.arr 1 cap' (zeros (n + 1))) ∧ ∀ x, x ≠ i → x ≠ j → x ≠ r' → H' x = H x) := by
  generalize hr : nameP (toks l) p = r0
  refine go noStop noStop Tryz.func94 rfl (by kernel_rfl) rfl ?_
  conv => whnf
  refine PK.use (c_name i l hl p e a b _ _ hE hH) ?_ ?_
  · rintro q hq _ _ ⟨rfl, ⟨t, ht, rfl⟩, rfl⟩
    obtain rfl : r0 = .ok (p + 1) := hr.symm.trans hq
    have hij : j ≠ i := by rintro rfl; rw [hH] at hC; cases hC
    conv => whnf
    refine ⟨_, (upd_ne _ _ hij).trans hC, ?_⟩
    conv => whnf
    refine ⟨by show (n + 1) * 8 ≤ _; omega, by show n + 1 ≤ _; omega, by simp, zeros n, ?_, by simp [zeros], ?_⟩
    · rcases hR with h0 | h0
      · exact .inl ⟨h0, by rw [h0]; rfl⟩
      · refine .inr ((upd_ne _ _ ?_).trans h0)
        rintro rfl
        rw [hH] at h0; cases h0
    intro r' cap' hr' hcap
    have hr'i : r' ≠ i := by
      rintro rfl
      rcases hr' with ⟨h1, h2⟩ | h1
      · rcases hR with h0 | h0
        · omega
        · rw [← h1, hH] at h0; cases h0
      · have h1 : upd H r' _ r' = none := h1
        rw [upd_same] at h1; cases h1
    have hr'j : r' ≠ j := by
      rintro rfl
      rcases hr' with ⟨h1, h2⟩ | h1
      · rcases hR with h0 | h0
        · omega
        · rw [← h1, hC] at h0; cases h0
      · have h1 : upd H i _ r' = none := h1
        rw [upd_ne _ _ hr'i, hC] at h1; cases h1
    have hr'' : r' = r ∧ 0 < n ∨ H r' = none := by
      rcases hr' with h1 | h1
      · exact .inl h1
      · exact .inr ((upd_ne _ _ hr'i).symm.trans h1)
    conv => whnf
    refine ⟨_, (upd_ne _ _ (Ne.symm hr'j)).trans ((upd_ne _ _ hij).trans hC), ?_⟩
    conv => whnf
    have hHi : upd (upd (upd H i (some (pcell l (p + 1) e a b V us))) r' (some (.arr 1 cap' (zeros n ++ [.int .i64 0])))) j (some (.cells (ccells kind r' (n + 1) cap' coefs rel const nm))) i = some (pcell l (p + 1) e a b V us) :=
      (upd_ne _ _ (Ne.symm hij)).trans ((upd_ne _ _ (Ne.symm hr'i)).trans (upd_same _ _ _))
    have fin : ∀ (A B C D : Option RObj), ∀ x, upd (upd (upd (upd (upd H i A) r' C) j D) i B) i (some (pcell l (p + 1) e a b V (us ++ [useTV t.text t.pos (V.map TV.str).length]))) x = upd (upd (upd H i (some (pcell l (p + 1) e a b V (us ++ [useTV t.text t.pos (V.map TV.str).length])))) r' C) j D x := by
      intro A B C D x
      by_cases hx : x = i
      · subst hx
        rw [upd_same, upd_ne _ _ (Ne.symm hij), upd_ne _ _ (Ne.symm hr'i), upd_same]
      · rw [upd_ne _ _ hx, upd_ne _ _ hx]
        by_cases hx2 : x = j
        · subst hx2; rw [upd_same, upd_same]
        · rw [upd_ne _ _ hx2, upd_ne _ _ hx2]
          by_cases hx3 : x = r'
          · subst hx3; rw [upd_same, upd_same]
          · rw [upd_ne _ _ hx3, upd_ne _ _ hx3, upd_ne _ _ hx, upd_ne _ _ hx]
    refine goDrawTo noStop [0, 1, 2, 3, 5, 6, 7, 8, 9, 10, 11, 12, 13, 17, 18] (.first 0 false (.first 1 false (.first 2 false (.first 3 false (.first 5 false (.first 7 false (.first 9 false (.first 10 false (.first 11 false (.first 6 true (.first 8 true (.first 12 true (.first 13 false (.alt 4 (.alt 14 (.alt 15 (.alt 16 (.first 17 false (.first 18 false (.alt 19 .fin .noalt))) .noalt) .noalt) .noalt) (.alt 14 (.alt 4 (.alt 15 (.alt 16 (.first 17 false (.first 18 false (.alt 19 .fin .noalt))) .noalt) .noalt) (.alt 15 (.alt 4 (.alt 16 (.first 17 false (.first 18 false (.alt 19 .fin .noalt))) .noalt) .noalt) .noalt)) .noalt))))))))))))))) (by kernel_rfl) (by kernel_rfl) (fun _ : Unit => .of [] [] [] (upd (upd (upd H i (some (pcell l (p + 1) e a b V (us ++ [useTV t.text t.pos (V.map TV.str).length])))) r' (some (.arr 1 cap' (zeros n ++ [.int .i64 0])))) j (some (.cells (ccells kind r' (n + 1) cap' coefs rel const nm))))) (fun _ => True) ?_ ?_
    · conv => whnf
      refine ⟨_, hHi, ?_⟩
      conv => whnf
      intro hlen
      conv => whnf
      clear hr' hcap
      refine ⟨?_, ?_, trivial⟩
      · conv => whnf
        refine ⟨_, hHi, ?_⟩
        conv => whnf
        refine ⟨?_, trivial⟩
        conv => whnf
        refine ⟨?_, trivial⟩
        conv => whnf
        refine ⟨?_, trivial⟩
        conv => whnf
        refine ⟨by show (us.length + 1) * 32 ≤ _; omega, by show us.length + 1 ≤ _; omega, ?_⟩
        conv => whnf
        refine ⟨⟨_, upd_same _ _ _, ?_⟩, trivial⟩
        conv => whnf
        exact ⟨(), trivial, .of trivial trivial trivial (fun x => .inr (fin _ _ _ _ x))⟩
      · conv => whnf
        refine ⟨?_, ?_, trivial⟩
        · conv => whnf
          refine ⟨_, hHi, ?_⟩
          conv => whnf
          refine ⟨?_, trivial⟩
          conv => whnf
          refine ⟨?_, trivial⟩
          conv => whnf
          refine ⟨by show (us.length + 1) * 32 ≤ _; omega, by show us.length + 1 ≤ _; omega, ?_⟩
          conv => whnf
          refine ⟨⟨_, upd_same _ _ _, ?_⟩, trivial⟩
          conv => whnf
          exact ⟨(), trivial, .of trivial trivial trivial (fun x => .inr (fin _ _ _ _ x))⟩
        · conv => whnf
          refine ⟨?_, trivial⟩
          conv => whnf
          refine ⟨_, hHi, ?_⟩
          conv => whnf
          refine ⟨?_, trivial⟩
          conv => whnf
          refine ⟨by show (us.length + 1) * 32 ≤ _; omega, by show us.length + 1 ≤ _; omega, ?_⟩
          conv => whnf
          refine ⟨⟨_, upd_same _ _ _, ?_⟩, trivial⟩
          conv => whnf
          exact ⟨(), trivial, .of trivial trivial trivial (fun x => .inr (fin _ _ _ _ x))⟩
    · rintro _ _
      conv => whnf
      refine ⟨rfl, r', cap', hr'', hr'i, hr'j, ?_, ?_, ?_, ?_⟩
      · show upd (upd (upd H i _) r' _) j _ i = _
        rw [upd_ne _ _ (Ne.symm hij), upd_ne _ _ (Ne.symm hr'i), upd_same]
        simp only [Nm.use, textP, List.getD_eq_getElem?_getD, toks_get ht, ht, Option.getD_some, Tk.tok, List.length_map]
      · exact upd_same _ _ _
      · show upd (upd (upd H i _) r' _) j _ r' = _
        rw [upd_ne _ _ hr'j, upd_same]
        simp only [zeros, List.replicate_succ']
      · intro x h1 h2 h3
        show upd (upd (upd H i _) r' _) j _ x = _
        rw [upd_ne _ _ h2, upd_ne _ _ h3, upd_ne _ _ h1]
  · intro k H' hx
    obtain rfl : r0 = .error k := hr.symm.trans hx
    conv => whnf
    rfl
end
end Go.T
set_option linter.unusedVariables false
set_option linter.unusedSimpArgs false
namespace Go.T
open Go.Proofs Go.RowKit
variable {Ev : Env} {H : Nat → Option RObj}
/-- Its numbers: none yet, or these. -/
def NumsAt (nm : CV) (ns : List Int) : Prop := nm = .nils ∧ ns = [] ∨ nm = .own 1 (ints ns)
/-- The heap while a constraint is made: Hc is the one ahead of it. -/
structure CS (Hc : Nat → Option RObj) (i j : Nat) (l : List Tk) (e : Int) (a b : CV) (V : List (List UInt8)) (us : List TV) (nm : CV) (c : Cn) (p : Nat) (r cap : Nat) (H : Nat → Option RObj) : Prop where
  hi : H i = some (pcell l p e a b V (us ++ c.vars.map (Nm.use l V.length)))
  hj : H j = some (.cells (ccells c.kind r c.vars.length cap c.coefs c.rel c.const nm))
  hr : VarsAt H r c.vars.length cap
  fr : ∀ x, x ≠ i → Hc x ≠ none → H x = Hc x
  nj : Hc j = none
  nr : c.vars.length = 0 ∨ Hc r = none
  hp : p ≤ l.length
  hu : us.length + c.vars.length ≤ p
  hc : c.coefs.length ≤ c.vars.length + 1
  hV : V.length ≤ 4000
  hn : NumsAt nm c.nums
def CK (Hc : Nat → Option RObj) (i j : Nat) (l : List Tk) (e : Int) (a b : CV) (V : List (List UInt8)) (us : List TV) (nm : CV) (r : Except Nat (Cn × Nat)) : TOut → (Nat → Option RObj) → Prop :=
  PK r l e fun x o H' => o = .ret (.tup []) ∧ ∃ r' cap', CS Hc i j l e a b V us nm x.1 x.2 r' cap' H'
section
variable {Hc : Nat → Option RObj} {i j : Nat} {l : List Tk} (hl : Toks l) {p : Nat} {e : Int} {a b : CV} {V : List (List UInt8)} {us : List TV} {nm : CV} {c : Cn} {r cap : Nat}
include hl
omit hl in
theorem nameP_ok {l : List Tk} {p q : Nat} (h : nameP (toks l) p = .ok q) : q = p + 1 ∧ p < l.length := by
  unfold nameP at h
  split at h
  · rename_i h1; cases h; exact ⟨rfl, namedP_lt h1⟩
  · cases h
theorem c_var (hE : ∀ w, Ev.E w → HasMax w) (hs : CS Hc i j l e a b V us nm c p r cap H) : TCalls Tryz.prog Ev 94 [.ptr i 0, .ptr j 0] H (CK Hc i j l e a b V us nm (variableP (toks l) c p)) := by
  have := hl.len
  have h1 := hs.hp
  have h2 := hs.hu
  refine (c_variable i j l hl p e a b V _ hE hs.hi hs.hj hs.hr (by omega) hs.hV (by simp; omega)).mono fun o H' h => ?_
  unfold CK variableP
  cases hq : nameP (toks l) p with
  | error k => rw [hq] at h; exact h
  | ok q =>
    rw [hq] at h
    obtain ⟨rfl, r', cap', k1, k2, k3, k4, k5, k6, k7⟩ := h
    have hq1 := nameP_ok hq
    have hnr : Hc r' = none := by
      cases hh : Hc r' with
      | none => rfl
      | some o =>
        rcases k1 with ⟨rfl, k1⟩ | k1
        · rcases hs.nr with h | h
          · omega
          · rw [h] at hh; cases hh
        · have := hs.fr r' k2 (by rw [hh]; simp)
          rw [k1, hh] at this; cases this
    refine ⟨rfl, r', cap', ?_, ?_, ?_, fun x h1 h2 => ?_, hs.nj, .inr hnr, ?_, ?_, ?_, hs.hV, hs.hn⟩
    · rw [k4]; simp
    · rw [k5]; simp
    · right; rw [k6]; simp
    · have hxj : x ≠ j := fun e => by rw [e, hs.nj] at h2; exact h2 rfl
      have hxr : x ≠ r' := fun e => by rw [e, hnr] at h2; exact h2 rfl
      rw [k7 x h1 hxj hxr]
      exact hs.fr x h1 h2
    · dsimp only; omega
    · simp only [List.length_append, List.length_singleton]; omega
    · have := hs.hc; simp only [List.length_append, List.length_singleton]; omega
theorem c_variables (hE : ∀ w, Ev.E w → HasMax w) (least : Nat) (hls : least ≤ 4000) (more : Bool) (hs : CS Hc i j l e a b V us nm c p r cap H) :
    TCalls Tryz.prog Ev 93 [.ptr i 0, .ptr j 0, .int .i64 least, .bool more] H (CK Hc i j l e a b V us nm (variablesP (toks l) least more c p)) := by
  generalize hr : variablesP (toks l) least more c p = r0
  refine go noStop noStop Tryz.func93 rfl (by kernel_rfl) rfl ?_
  conv => whnf
  refine goLoop noStop (stopAt 1) (fun s : Nat × Nat × Cn × Nat × (Nat → Option RObj) => .of [(0, .t (.ptr i 0)), (1, .t (.ptr j 0)), (2, .t (.int .i64 least)), (3, .t (.bool more)), (8, .t (.int .i64 (s.2.1 : Nat)))] [] [] s.2.2.2.2)
    (fun s => (∃ r cap, CS Hc i j l e a b V us nm s.2.2.1 s.2.2.2.1 r cap s.2.2.2.2) ∧ l.length - s.2.2.2.1 < s.1 ∧ s.2.1 ≤ s.2.2.2.1 ∧ r0 = variablesG (toks l) least more s.1 s.2.1 s.2.2.1 s.2.2.2.1) (fun s => l.length - s.2.2.2.1) (5000, 0, c, p, H)
    ⟨⟨r, cap, hs⟩, by have := hl.len; dsimp only; omega, by dsimp only; omega, hr.symm⟩ (.of ⟨rfl, rfl, rfl, rfl, rfl, trivial⟩ trivial trivial (fun _ => .inr rfl)) ?_
  rintro ⟨f, n, c, p, H⟩ ⟨⟨r, cap, hs⟩, h1, h2, h3⟩
  dsimp only at hs h1 h2 h3
  have hlen := hl.len
  have hp := hs.hp
  obtain ⟨f, rfl⟩ : ∃ k, f = k + 1 := ⟨f - 1, by omega⟩
  let C : Bool := n < least || (more && namedP (toks l) p)
  let s0 : TS := .of [(0, .t (.ptr i 0)), (1, .t (.ptr j 0)), (2, .t (.int .i64 least)), (3, .t (.bool more)), (8, .t (.int .i64 (n : Nat))), (18, .t (.bool C))] [] [] H
  refine goSeqTo noStop (stopAt 1) noStop (fun _ : Unit => s0) (fun _ => C = true) (show Hold _ from goSeqTo noStop noStop noStop (fun _ : Unit => s0) (fun _ => True) ?_ ?_) ?_
  · conv => whnf
    constructor <;> intro g1
    · have g1' : decide (n < least) = false := by
        have g1 : decide ((n : Int) < (least : Int)) = false := g1
        have := of_decide_eq_false g1
        exact decide_eq_false (by omega)
      conv => whnf
      constructor <;> intro g2
      · conv => whnf
        refine (c_named hE i l hl.text p e a b _ _ hs.hi).use ?_
        conv => whnf
        refine ⟨(), trivial, .of ⟨rfl, rfl, rfl, ?_, rfl, ?_, trivial⟩ trivial trivial (fun _ => .inr rfl)⟩
        · rw [g2]; rfl
        · show SV.t (TV.bool (namedP (toks l) p)) = SV.t (TV.bool C)
          simp only [C, g1', g2, Bool.false_or, Bool.true_and]
      · conv => whnf
        refine ⟨(), trivial, .of ⟨rfl, rfl, rfl, ?_, rfl, ?_, trivial⟩ trivial trivial (fun _ => .inr rfl)⟩
        · rw [g2]; rfl
        · show SV.t (TV.bool false) = SV.t (TV.bool C)
          simp only [C, g1', g2, Bool.false_or, Bool.false_and]; rfl
    · have g1' : decide (n < least) = true := by
        have g1 : decide ((n : Int) < (least : Int)) = true := g1
        have := of_decide_eq_true g1
        exact decide_eq_true (by omega)
      conv => whnf
      refine ⟨(), trivial, .of ⟨rfl, rfl, rfl, rfl, rfl, ?_, trivial⟩ trivial trivial (fun _ => .inr rfl)⟩
      show SV.t (TV.bool true) = SV.t (TV.bool C)
      simp only [C, g1', Bool.true_or]
  · rintro _ _
    constructor <;> intro hC
    · exact ⟨(), hC, .refl _⟩
    · have hg : r0 = .ok (c, p) := by rw [h3]; show (if C then _ else _) = _; rw [hC]; rfl
      subst hg
      conv => whnf
      exact ⟨rfl, r, cap, hs⟩
  · rintro _ hC
    have hg : r0 = match variableP (toks l) c p with
      | .ok (c, p) => variablesG (toks l) least more f (n + 1) c p
      | .error k => .error k := by rw [h3]; show (if C then _ else _) = _; rw [hC]; rfl
    conv => whnf
    refine PK.use (c_var hl hE hs) ?_ ?_
    · rintro ⟨c', q⟩ hx _ H' ⟨rfl, r', cap', hs'⟩
      rw [hx] at hg; dsimp only at hg
      have hq : q = p + 1 := by
        unfold variableP at hx
        cases hq : nameP (toks l) p with
        | error k => rw [hq] at hx; cases hx
        | ok q' => rw [hq] at hx; cases hx; exact (nameP_ok hq).1
      have hq2 := hs'.hp
      dsimp only at hs' hq2
      conv => whnf
      refine ⟨(f, n + 1, c', q, H'), ⟨⟨r', cap', hs'⟩, by dsimp only; omega, by dsimp only; omega, hg⟩, by dsimp only; omega, .of ⟨rfl, rfl, rfl, rfl, ?_, trivial⟩ trivial trivial (fun j => .inr rfl)⟩
      show SV.t (.int .i64 (IntKind.i64.wrap ((n : Int) + 1))) = _
      rw [wrap_i64 (by omega) (by omega)]
      rfl
    · intro k H' hx
      rw [hx] at hg; dsimp only at hg
      subst hg
      conv => whnf
      rfl
end
end Go.T
