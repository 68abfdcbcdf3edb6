/- The tables of the abstract run: the functions that are met, and the plans of their drawn regions. Printed by gentab.py. -/
import Derived.Test.YthckkbhjocjmkaaGreatDoorProg
import Derived.Test.YthckkbhjocjmkaaGreatDoorEvK
import Derived.KernelRfl
namespace Go.Proofs.YthckkbhjocjmkaaGreatDoor
namespace Ev

def assoc {α : Type} : List (Nat × α) → Nat → Option α
  | [], _ => none
  | x :: l, n => cond (Nat.beq x.1 n) (some x.2) (assoc l n)
theorem assoc_mem {α : Type} : ∀ {l : List (Nat × α)} {n : Nat} {x : α}, assoc l n = some x → (n, x) ∈ l
  | [], _, _, h => by cases h
  | (k, y) :: l, n, x, h => by
    simp only [assoc] at h
    cases hb : Nat.beq k n with
    | true =>
      rw [hb] at h
      simp only [cond_true, Option.some.injEq] at h
      rw [Nat.eq_of_beq_eq_true hb, h]; exact List.mem_cons_self
    | false => rw [hb] at h; exact List.mem_cons_of_mem _ (assoc_mem h)
def AllP {α : Type} (p : α → Prop) : List α → Prop
  | [] => True
  | x :: l => p x ∧ AllP p l
theorem AllP.mem {α : Type} {p : α → Prop} : ∀ {l : List α}, AllP p l → ∀ x ∈ l, p x
  | [], _, x, h => by cases h
  | y :: l, h, x, hx => by
    rcases List.mem_cons.1 hx with rfl | hx
    · exact h.1
    · exact AllP.mem h.2 x hx

def eqNats : List Nat → List Nat → Bool
  | [], [] => true
  | a :: l, b :: m => Nat.beq a b && eqNats l m
  | _, _ => false
theorem eqNats_eq : ∀ {l m : List Nat}, eqNats l m = true → l = m
  | [], [], _ => rfl
  | [], _ :: _, h => by cases h
  | _ :: _, [], h => by cases h
  | a :: l, b :: m, h => by
    simp only [eqNats, Bool.and_eq_true] at h
    rw [Nat.eq_of_beq_eq_true h.1, eqNats_eq h.2]
def eqPs : List PStep → List PStep → Bool
  | [], [] => true
  | .take a :: l, .take b :: m => Nat.beq a b && eqPs l m
  | .go a :: l, .go b :: m => Nat.beq a b && eqPs l m
  | .duo a b c :: l, .duo a' b' c' :: m => Nat.beq a a' && (Nat.beq b b' && (eqNats c c' && eqPs l m))
  | _, _ => false
theorem eqPs_eq : ∀ {l m : List PStep}, eqPs l m = true → l = m
  | [], m, h => by cases m with
    | nil => rfl
    | cons x m => cases h
  | x :: l, [], h => by cases x <;> cases h
  | .take a :: l, y :: m, h => by
    cases y <;> simp only [eqPs, Bool.and_eq_true, Bool.false_eq_true] at h
    rw [Nat.eq_of_beq_eq_true h.1, eqPs_eq h.2]
  | .go a :: l, y :: m, h => by
    cases y <;> simp only [eqPs, Bool.and_eq_true, Bool.false_eq_true] at h
    rw [Nat.eq_of_beq_eq_true h.1, eqPs_eq h.2]
  | .duo a b c :: l, y :: m, h => by
    cases y <;> simp only [eqPs, Bool.and_eq_true, Bool.false_eq_true] at h
    rw [Nat.eq_of_beq_eq_true h.1, Nat.eq_of_beq_eq_true h.2.1, eqNats_eq h.2.2.1, eqPs_eq h.2.2.2]
def isPlan (o : Option (List PStep)) (p : List PStep) : Bool :=
  match o with
  | some q => eqPs q p
  | none => false
def plannedB (tab : List (Nat × List PStep)) : Code → Bool
  | .region id ops true => match assoc tab id with
    | none => true
    | some p => isPlan (plan ops) p
  | .seq a b => plannedB tab a && plannedB tab b
  | .cond _ a b => plannedB tab a && plannedB tab b
  | .block _ a => plannedB tab a
  | .loop a => plannedB tab a
  | .scope a => plannedB tab a
  | _ => true
theorem plannedB_ok {tab : List (Nat × List PStep)} {pl : Nat → Nat → Option (List PStep)} {f : Nat} (hp : ∀ id, pl f id = assoc tab id) : ∀ {c : Code}, plannedB tab c = true → Planned pl f c
  | .region id ops true, h => by
    intro p hpp
    rw [hp] at hpp
    simp only [plannedB, hpp, isPlan] at h
    split at h
    · rename_i q hq; rw [hq, eqPs_eq h]
    · cases h
  | .region id ops false, _ => trivial
  | .seq a b, h => by
    simp only [plannedB, Bool.and_eq_true] at h
    exact ⟨plannedB_ok hp h.1, plannedB_ok hp h.2⟩
  | .cond _ a b, h => by
    simp only [plannedB, Bool.and_eq_true] at h
    exact ⟨plannedB_ok hp h.1, plannedB_ok hp h.2⟩
  | .block _ a, h => by simp only [plannedB] at h; exact plannedB_ok (c := a) hp h
  | .loop a, h => by simp only [plannedB] at h; exact plannedB_ok (c := a) hp h
  | .scope a, h => by simp only [plannedB] at h; exact plannedB_ok (c := a) hp h
  | .skip, _ => trivial
  | .rangeFunc .., _ => trivial
  | .exit _, _ => trivial
  | .label _, _ => trivial
  | .goto _, _ => trivial
  | .ret, _ => trivial
  | .refuse _, _ => trivial
def bodyB (tab : List (Nat × List PStep)) (fn : Func) : Bool :=
  match fn.body with
  | some c => plannedB tab c
  | none => true
theorem bodyB_ok {tab : List (Nat × List PStep)} {pl : Nat → Nat → Option (List PStep)} {f : Nat} {fn : Func} (hp : ∀ id, pl f id = assoc tab id) (h : bodyB tab fn = true) {c : Code} (hc : fn.body = some c) : Planned pl f c := by
  simp only [bodyB, hc] at h
  exact plannedB_ok hp h

def pl6 : List (Nat × List PStep) := [(8, [.take 0, .take 1, .take 2, .take 3, .take 4, .take 5, .take 6, .take 7, .take 8, .take 9, .take 13, .take 16, .take 17, .go 10, .take 11, .go 12, .take 14, .go 15, .take 18, .go 19])]
def pl9 : List (Nat × List PStep) := [(8, [.take 0, .take 1, .take 2, .take 3, .take 4, .take 5, .take 6, .take 7, .take 8, .take 9, .take 10, .take 11, .go 12, .go 13, .take 14, .take 15, .take 16, .take 17, .take 18]), (17, [.take 0, .take 1, .take 2, .take 3, .take 4, .take 9, .go 5, .take 6, .take 7, .take 8, .go 10, .take 11]), (19, [.take 0, .take 1, .take 2, .take 3, .take 4, .take 6, .go 5, .go 7])]
def pl10 : List (Nat × List PStep) := [(4, [.take 0, .take 1, .take 2, .take 3, .take 4, .take 5, .take 6, .take 7, .take 8, .duo 9 13 [10, 11, 12], .go 14, .take 15])]
def pl11 : List (Nat × List PStep) := [(1, [.take 0, .take 2, .take 3, .take 4, .take 5, .take 6, .go 1, .go 7, .take 8, .take 9, .take 10, .go 11, .take 12, .take 13])]
def pl20 : List (Nat × List PStep) := [(12, [.take 0, .take 1, .take 2, .take 3, .take 4, .take 5, .take 6, .take 7, .go 8])]
def pl23 : List (Nat × List PStep) := [(10, [.take 0, .take 1, .take 2, .take 3, .take 4, .go 5, .take 6])]
def pl28 : List (Nat × List PStep) := [(5, [.take 0, .take 1, .take 2, .take 3, .go 4, .take 5, .go 6, .go 7, .take 8])]
def pl32 : List (Nat × List PStep) := [(2, [.take 0, .take 1, .take 2, .take 3, .take 4, .take 5, .take 6, .take 7, .take 8, .take 9, .take 10, .take 11, .take 12, .take 13, .take 14, .take 15, .go 16, .take 17, .take 18, .take 19, .take 20])]
def pl36 : List (Nat × List PStep) := [(1, [.take 0, .take 1, .go 2, .take 3])]
def pl37 : List (Nat × List PStep) := [(16, [.take 0, .take 1, .take 2, .take 3, .take 4, .take 5, .take 6, .take 7, .take 8, .take 9]), (18, [.take 0, .take 1, .take 2, .take 3, .take 4, .take 5, .take 6, .take 7, .take 8, .take 9, .take 10, .take 11, .take 12, .take 13, .take 14, .take 15, .take 16, .take 17, .take 18, .take 19, .take 20, .take 21]), (20, [.take 0, .take 1, .take 2, .take 3, .take 4, .take 5, .take 6])]
def pl38 : List (Nat × List PStep) := [(1, [.take 0, .take 1, .take 2, .take 3, .take 4, .take 5, .take 6, .take 7, .take 8, .go 9, .go 10, .go 11, .take 12, .take 13, .go 14])]
def pl39 : List (Nat × List PStep) := [(5, [.take 0, .take 1, .take 2, .take 3, .go 4, .take 5, .go 6])]
def pl43 : List (Nat × List PStep) := [(3, [.take 0, .take 1, .take 2, .take 3, .take 4, .take 5, .take 6, .take 7, .go 8])]
def pl46 : List (Nat × List PStep) := [(1, [.take 0, .take 1, .go 2, .take 3])]
def pl51 : List (Nat × List PStep) := [(5, [.take 0, .take 1, .take 2, .take 3, .take 4, .take 5, .go 6, .take 7]), (8, [.take 0, .take 1, .take 2, .take 3, .take 4, .take 5, .take 6, .take 7, .take 8, .take 9, .take 10, .go 11, .take 12, .take 13, .take 14, .take 15])]
def pl52 : List (Nat × List PStep) := [(17, [.take 0, .take 1, .take 2, .take 3, .take 4, .take 5, .take 6, .take 7, .take 8, .take 9, .take 10, .take 11, .take 12, .go 13, .take 14, .take 15, .take 16])]
def pl63 : List (Nat × List PStep) := [(1, [.take 0, .take 1, .take 2, .take 3, .take 4, .take 5, .duo 6 10 [7, 8, 9], .go 11, .take 12])]
def pl79 : List (Nat × List PStep) := [(4, [.take 0, .take 1, .take 2, .take 3, .take 4, .take 5, .take 6, .take 7, .take 8, .take 9, .take 10, .take 11, .take 12, .take 13, .go 14, .take 15, .take 16]), (6, [.take 0, .take 1, .take 2, .take 3, .take 4, .take 5, .take 6, .take 7, .take 8, .take 9, .take 10, .take 11, .take 12, .take 13, .take 14, .go 15, .take 16, .go 17])]
def pl97 : List (Nat × List PStep) := [(9, [.take 0, .take 1, .take 2, .take 3, .take 4, .take 5, .duo 6 10 [7, 8, 9], .go 11, .take 12]), (14, [.take 0, .take 1, .take 2, .take 3, .take 4, .take 5, .take 6, .go 7, .take 8, .take 9, .take 10, .take 11, .take 12, .take 13, .take 14])]
def pl99 : List (Nat × List PStep) := [(1, [.take 0, .take 1, .take 2, .take 3, .take 4, .take 5, .take 6, .take 7, .take 8, .go 9, .take 10])]
def pl100 : List (Nat × List PStep) := [(1, [.take 0, .take 1, .take 2, .take 3, .take 4, .take 5, .take 6, .take 7, .take 8, .take 9, .take 10, .take 11, .go 12, .take 13])]
def pl103 : List (Nat × List PStep) := [(4, [.take 0, .take 1, .take 2, .take 3, .take 4, .take 5, .take 6, .take 7, .take 8, .take 9, .go 10, .go 11, .take 12, .take 13, .go 14])]
def pl115 : List (Nat × List PStep) := [(7, [.take 0, .take 1, .take 2, .take 3, .take 4, .take 6, .take 7, .go 5, .go 8, .take 9, .take 10, .take 11, .take 12]), (9, [.take 0, .take 1, .take 2, .take 3, .take 4, .take 6, .take 7, .take 10, .take 11, .take 13, .take 14, .go 5, .go 8, .take 9, .go 12, .go 15, .take 16, .take 17, .take 18, .take 19, .take 20]), (17, [.take 0, .take 1, .take 2, .take 3, .take 4, .take 5, .take 6, .take 7, .take 8, .take 9, .take 10, .take 11, .take 12, .take 13, .take 14, .take 15, .take 16]), (21, [.take 0, .take 1, .take 2, .take 3, .take 4, .take 5, .take 6, .take 7, .take 8, .take 9, .take 10, .take 11, .take 12, .take 13, .take 14, .take 15, .take 16, .take 17, .take 18, .take 19, .take 20, .take 21, .take 22, .take 23, .take 24, .take 25, .take 26]), (25, [.take 0, .take 1, .take 2, .take 3, .take 4, .take 5, .take 6, .take 7, .take 8, .take 9, .take 10, .take 11, .take 12, .take 13, .take 14, .take 15, .take 16, .take 17, .take 18, .take 19, .take 20, .take 21, .take 22, .take 23, .take 24, .take 25, .take 26, .take 27, .take 28, .take 29, .take 30, .take 31, .take 32, .take 33, .take 34, .take 35, .take 36])]
def pl121 : List (Nat × List PStep) := [(1, [.take 0, .take 1, .take 2, .take 3, .take 4, .take 5, .take 6, .take 7, .take 8, .take 9, .take 10, .take 11, .take 12, .take 13, .take 14, .take 15, .take 16, .take 17, .take 18, .take 19, .take 20, .take 21, .take 22, .take 23, .take 24, .go 25])]
def pl128 : List (Nat × List PStep) := [(1, [.take 0, .take 1, .take 2, .take 3, .take 4, .duo 5 9 [6, 7, 8], .go 10, .take 11]), (3, [.take 0, .take 1, .take 2, .take 3, .take 4, .take 5, .take 6, .take 7]), (5, [.take 0, .take 1, .take 2, .take 3, .take 4, .go 5, .take 6, .take 7, .take 8, .take 9, .take 10, .take 11, .take 12])]
def pl136 : List (Nat × List PStep) := [(1, [.take 0, .take 1, .take 2, .take 3, .take 4, .take 5, .go 6, .go 7, .go 8, .take 9, .take 10, .go 11])]
def pl145 : List (Nat × List PStep) := [(6, [.take 0, .take 1, .take 2, .take 3, .take 4, .take 5, .take 6]), (7, [.take 0, .take 1, .take 2, .take 3, .take 4, .take 5, .take 6, .go 7, .take 8]), (14, [.take 0, .take 1, .take 2, .take 3, .take 4, .take 5, .take 6, .take 7, .take 8, .take 9, .take 10]), (31, [.take 0, .take 1, .take 2, .take 3, .take 4, .take 5, .take 6, .take 7, .take 8, .take 9, .take 10])]
def pl150 : List (Nat × List PStep) := [(3, [.take 0, .take 1, .take 2, .take 3, .take 4, .take 5, .go 6, .go 7])]
def pl151 : List (Nat × List PStep) := [(7, [.take 0, .take 1, .take 2, .take 3, .go 4, .take 5])]
def pl158 : List (Nat × List PStep) := [(17, [.take 0, .take 1, .take 2, .take 3, .take 4, .take 5, .take 6, .take 7, .take 8, .take 9, .take 10, .take 11, .take 12, .go 13, .take 14, .take 15, .take 16])]
def pl159 : List (Nat × List PStep) := [(4, [.take 0, .take 1, .take 2, .take 3, .take 4, .take 5, .take 6, .take 7, .take 8, .take 9, .take 10, .take 11, .take 12, .take 13, .go 14, .take 15, .take 16]), (6, [.take 0, .take 1, .take 2, .take 3, .take 4, .take 5, .take 6, .take 7, .take 8, .take 9, .take 10, .take 11, .take 12, .take 13, .take 14, .go 15, .take 16, .go 17])]
def pl188 : List (Nat × List PStep) := [(1, [.take 0, .take 1, .take 2, .take 3, .take 4, .go 5, .take 6, .take 7, .take 8, .take 9, .take 10])]
def pl191 : List (Nat × List PStep) := [(5, [.take 0, .take 1, .take 2, .take 3, .take 4, .take 5, .go 6, .take 7]), (8, [.take 0, .take 1, .take 2, .take 3, .take 4, .take 5, .take 6, .take 7, .take 8, .take 9, .take 10, .go 11, .take 12, .take 13, .take 14, .take 15])]
def pl192 : List (Nat × List PStep) := [(1, [.take 0, .take 1, .take 2, .go 3, .take 4])]
def plT : List (Nat × List (Nat × List PStep)) := [(6, pl6), (9, pl9), (10, pl10), (11, pl11), (20, pl20), (23, pl23), (28, pl28), (32, pl32), (36, pl36), (37, pl37), (38, pl38), (39, pl39), (43, pl43), (46, pl46), (51, pl51), (52, pl52), (63, pl63), (79, pl79), (97, pl97), (99, pl99), (100, pl100), (103, pl103), (115, pl115), (121, pl121), (128, pl128), (136, pl136), (145, pl145), (150, pl150), (151, pl151), (158, pl158), (159, pl159), (188, pl188), (191, pl191), (192, pl192)]
def plF (f id : Nat) : Option (List PStep) := (assoc plT f).bind fun l => assoc l id
noncomputable def fsT : List (Nat × Func) := [(3, Tryz.f3), (4, Tryz.f4), (5, Tryz.f5), (6, Tryz.f6), (7, Tryz.f7), (8, Tryz.f8), (9, Tryz.f9), (10, Tryz.f10), (11, Tryz.f11), (12, Tryz.f12), (13, Tryz.f13), (14, Tryz.f14), (15, Tryz.f15), (16, Tryz.f16), (17, Tryz.f17), (18, Tryz.f18), (19, Tryz.f19), (20, Tryz.f20), (21, Tryz.f21), (22, Tryz.f22), (23, Tryz.f23), (24, Tryz.f24), (25, Tryz.f25), (26, Tryz.f26), (27, Tryz.f27), (28, Tryz.f28), (29, Tryz.f29), (30, Tryz.f30), (31, Tryz.f31), (32, Tryz.f32), (33, Tryz.f33), (34, Tryz.f34), (35, Tryz.f35), (36, Tryz.f36), (37, Tryz.f37), (38, Tryz.f38), (39, Tryz.f39), (41, Tryz.f41), (42, Tryz.f42), (43, Tryz.f43), (44, Tryz.f44), (45, Tryz.f45), (46, Tryz.f46), (47, Tryz.f47), (48, Tryz.f48), (49, Tryz.f49), (50, Tryz.f50), (51, Tryz.f51), (52, Tryz.f52), (53, Tryz.f53), (54, Tryz.f54), (56, Tryz.f56), (57, Tryz.f57), (63, Tryz.f63), (68, Tryz.f68), (69, Tryz.f69), (70, Tryz.f70), (71, Tryz.f71), (72, Tryz.f72), (73, Tryz.f73), (74, Tryz.f74), (75, Tryz.f75), (76, Tryz.f76), (77, Tryz.f77), (78, Tryz.f78), (79, Tryz.f79), (88, Tryz.f88), (91, Tryz.f91), (92, Tryz.f92), (93, Tryz.f93), (94, Tryz.f94), (95, Tryz.f95), (97, Tryz.f97), (98, Tryz.f98), (99, Tryz.f99), (100, Tryz.f100), (101, Tryz.f101), (102, Tryz.f102), (103, Tryz.f103), (104, Tryz.f104), (105, Tryz.f105), (106, Tryz.f106), (112, Tryz.f112), (113, Tryz.f113), (114, Tryz.f114), (115, Tryz.f115), (116, Tryz.f116), (118, Tryz.f118), (119, Tryz.f119), (120, Tryz.f120), (121, Tryz.f121), (123, Tryz.f123), (125, Tryz.f125), (128, Tryz.f128), (130, Tryz.f130), (131, Tryz.f131), (136, Tryz.f136), (137, Tryz.f137), (138, Tryz.f138), (140, Tryz.f140), (144, Tryz.f144), (145, Tryz.f145), (148, Tryz.f148), (149, Tryz.f149), (150, Tryz.f150), (151, Tryz.f151), (152, Tryz.f152), (154, Tryz.f154), (155, Tryz.f155), (157, Tryz.f157), (158, Tryz.f158), (159, Tryz.f159), (188, Tryz.f188), (190, Tryz.f190), (191, Tryz.f191), (192, Tryz.f192)]
noncomputable def fsF (f : FuncId) : Option Func := assoc fsT f
def xF (f : FuncId) : ExtK := cond (Nat.beq f 89) .cmp ( cond (Nat.beq f 134) .count ( cond (Nat.beq f 146) .index ( cond (Nat.beq f 96) .clone (.no))))
noncomputable def EE : Env := ⟨Tryz.prog, fsF, xF, plF⟩
theorem fsT_ok : AllP (fun x => Tryz.prog.funcs[x.1]? = some x.2 ∧ (x.2.name == "runtime.NumGoroutine") = false) fsT :=
  ⟨⟨Tryz.func3, by kernel_rfl⟩,
  ⟨Tryz.func4, by kernel_rfl⟩,
  ⟨Tryz.func5, by kernel_rfl⟩,
  ⟨Tryz.func6, by kernel_rfl⟩,
  ⟨Tryz.func7, by kernel_rfl⟩,
  ⟨Tryz.func8, by kernel_rfl⟩,
  ⟨Tryz.func9, by kernel_rfl⟩,
  ⟨Tryz.func10, by kernel_rfl⟩,
  ⟨Tryz.func11, by kernel_rfl⟩,
  ⟨Tryz.func12, by kernel_rfl⟩,
  ⟨Tryz.func13, by kernel_rfl⟩,
  ⟨Tryz.func14, by kernel_rfl⟩,
  ⟨Tryz.func15, by kernel_rfl⟩,
  ⟨Tryz.func16, by kernel_rfl⟩,
  ⟨Tryz.func17, by kernel_rfl⟩,
  ⟨Tryz.func18, by kernel_rfl⟩,
  ⟨Tryz.func19, by kernel_rfl⟩,
  ⟨Tryz.func20, by kernel_rfl⟩,
  ⟨Tryz.func21, by kernel_rfl⟩,
  ⟨Tryz.func22, by kernel_rfl⟩,
  ⟨Tryz.func23, by kernel_rfl⟩,
  ⟨Tryz.func24, by kernel_rfl⟩,
  ⟨Tryz.func25, by kernel_rfl⟩,
  ⟨Tryz.func26, by kernel_rfl⟩,
  ⟨Tryz.func27, by kernel_rfl⟩,
  ⟨Tryz.func28, by kernel_rfl⟩,
  ⟨Tryz.func29, by kernel_rfl⟩,
  ⟨Tryz.func30, by kernel_rfl⟩,
  ⟨Tryz.func31, by kernel_rfl⟩,
  ⟨Tryz.func32, by kernel_rfl⟩,
  ⟨Tryz.func33, by kernel_rfl⟩,
  ⟨Tryz.func34, by kernel_rfl⟩,
  ⟨Tryz.func35, by kernel_rfl⟩,
  ⟨Tryz.func36, by kernel_rfl⟩,
  ⟨Tryz.func37, by kernel_rfl⟩,
  ⟨Tryz.func38, by kernel_rfl⟩,
  ⟨Tryz.func39, by kernel_rfl⟩,
  ⟨Tryz.func41, by kernel_rfl⟩,
  ⟨Tryz.func42, by kernel_rfl⟩,
  ⟨Tryz.func43, by kernel_rfl⟩,
  ⟨Tryz.func44, by kernel_rfl⟩,
  ⟨Tryz.func45, by kernel_rfl⟩,
  ⟨Tryz.func46, by kernel_rfl⟩,
  ⟨Tryz.func47, by kernel_rfl⟩,
  ⟨Tryz.func48, by kernel_rfl⟩,
  ⟨Tryz.func49, by kernel_rfl⟩,
  ⟨Tryz.func50, by kernel_rfl⟩,
  ⟨Tryz.func51, by kernel_rfl⟩,
  ⟨Tryz.func52, by kernel_rfl⟩,
  ⟨Tryz.func53, by kernel_rfl⟩,
  ⟨Tryz.func54, by kernel_rfl⟩,
  ⟨Tryz.func56, by kernel_rfl⟩,
  ⟨Tryz.func57, by kernel_rfl⟩,
  ⟨Tryz.func63, by kernel_rfl⟩,
  ⟨Tryz.func68, by kernel_rfl⟩,
  ⟨Tryz.func69, by kernel_rfl⟩,
  ⟨Tryz.func70, by kernel_rfl⟩,
  ⟨Tryz.func71, by kernel_rfl⟩,
  ⟨Tryz.func72, by kernel_rfl⟩,
  ⟨Tryz.func73, by kernel_rfl⟩,
  ⟨Tryz.func74, by kernel_rfl⟩,
  ⟨Tryz.func75, by kernel_rfl⟩,
  ⟨Tryz.func76, by kernel_rfl⟩,
  ⟨Tryz.func77, by kernel_rfl⟩,
  ⟨Tryz.func78, by kernel_rfl⟩,
  ⟨Tryz.func79, by kernel_rfl⟩,
  ⟨Tryz.func88, by kernel_rfl⟩,
  ⟨Tryz.func91, by kernel_rfl⟩,
  ⟨Tryz.func92, by kernel_rfl⟩,
  ⟨Tryz.func93, by kernel_rfl⟩,
  ⟨Tryz.func94, by kernel_rfl⟩,
  ⟨Tryz.func95, by kernel_rfl⟩,
  ⟨Tryz.func97, by kernel_rfl⟩,
  ⟨Tryz.func98, by kernel_rfl⟩,
  ⟨Tryz.func99, by kernel_rfl⟩,
  ⟨Tryz.func100, by kernel_rfl⟩,
  ⟨Tryz.func101, by kernel_rfl⟩,
  ⟨Tryz.func102, by kernel_rfl⟩,
  ⟨Tryz.func103, by kernel_rfl⟩,
  ⟨Tryz.func104, by kernel_rfl⟩,
  ⟨Tryz.func105, by kernel_rfl⟩,
  ⟨Tryz.func106, by kernel_rfl⟩,
  ⟨Tryz.func112, by kernel_rfl⟩,
  ⟨Tryz.func113, by kernel_rfl⟩,
  ⟨Tryz.func114, by kernel_rfl⟩,
  ⟨Tryz.func115, by kernel_rfl⟩,
  ⟨Tryz.func116, by kernel_rfl⟩,
  ⟨Tryz.func118, by kernel_rfl⟩,
  ⟨Tryz.func119, by kernel_rfl⟩,
  ⟨Tryz.func120, by kernel_rfl⟩,
  ⟨Tryz.func121, by kernel_rfl⟩,
  ⟨Tryz.func123, by kernel_rfl⟩,
  ⟨Tryz.func125, by kernel_rfl⟩,
  ⟨Tryz.func128, by kernel_rfl⟩,
  ⟨Tryz.func130, by kernel_rfl⟩,
  ⟨Tryz.func131, by kernel_rfl⟩,
  ⟨Tryz.func136, by kernel_rfl⟩,
  ⟨Tryz.func137, by kernel_rfl⟩,
  ⟨Tryz.func138, by kernel_rfl⟩,
  ⟨Tryz.func140, by kernel_rfl⟩,
  ⟨Tryz.func144, by kernel_rfl⟩,
  ⟨Tryz.func145, by kernel_rfl⟩,
  ⟨Tryz.func148, by kernel_rfl⟩,
  ⟨Tryz.func149, by kernel_rfl⟩,
  ⟨Tryz.func150, by kernel_rfl⟩,
  ⟨Tryz.func151, by kernel_rfl⟩,
  ⟨Tryz.func152, by kernel_rfl⟩,
  ⟨Tryz.func154, by kernel_rfl⟩,
  ⟨Tryz.func155, by kernel_rfl⟩,
  ⟨Tryz.func157, by kernel_rfl⟩,
  ⟨Tryz.func158, by kernel_rfl⟩,
  ⟨Tryz.func159, by kernel_rfl⟩,
  ⟨Tryz.func188, by kernel_rfl⟩,
  ⟨Tryz.func190, by kernel_rfl⟩,
  ⟨Tryz.func191, by kernel_rfl⟩,
  ⟨Tryz.func192, by kernel_rfl⟩,
  trivial⟩
theorem pk3 : bodyB [] Tryz.f3 = true := by kernel_rfl
theorem pk4 : bodyB [] Tryz.f4 = true := by kernel_rfl
theorem pk5 : bodyB [] Tryz.f5 = true := by kernel_rfl
theorem pk6 : bodyB pl6 Tryz.f6 = true := by kernel_rfl
theorem pk7 : bodyB [] Tryz.f7 = true := by kernel_rfl
theorem pk8 : bodyB [] Tryz.f8 = true := by kernel_rfl
theorem pk9 : bodyB pl9 Tryz.f9 = true := by kernel_rfl
theorem pk10 : bodyB pl10 Tryz.f10 = true := by kernel_rfl
theorem pk11 : bodyB pl11 Tryz.f11 = true := by kernel_rfl
theorem pk12 : bodyB [] Tryz.f12 = true := by kernel_rfl
theorem pk13 : bodyB [] Tryz.f13 = true := by kernel_rfl
theorem pk14 : bodyB [] Tryz.f14 = true := by kernel_rfl
theorem pk15 : bodyB [] Tryz.f15 = true := by kernel_rfl
theorem pk16 : bodyB [] Tryz.f16 = true := by kernel_rfl
theorem pk17 : bodyB [] Tryz.f17 = true := by kernel_rfl
theorem pk18 : bodyB [] Tryz.f18 = true := by kernel_rfl
theorem pk19 : bodyB [] Tryz.f19 = true := by kernel_rfl
theorem pk20 : bodyB pl20 Tryz.f20 = true := by kernel_rfl
theorem pk21 : bodyB [] Tryz.f21 = true := by kernel_rfl
theorem pk22 : bodyB [] Tryz.f22 = true := by kernel_rfl
theorem pk23 : bodyB pl23 Tryz.f23 = true := by kernel_rfl
theorem pk24 : bodyB [] Tryz.f24 = true := by kernel_rfl
theorem pk25 : bodyB [] Tryz.f25 = true := by kernel_rfl
theorem pk26 : bodyB [] Tryz.f26 = true := by kernel_rfl
theorem pk27 : bodyB [] Tryz.f27 = true := by kernel_rfl
theorem pk28 : bodyB pl28 Tryz.f28 = true := by kernel_rfl
theorem pk29 : bodyB [] Tryz.f29 = true := by kernel_rfl
theorem pk30 : bodyB [] Tryz.f30 = true := by kernel_rfl
theorem pk31 : bodyB [] Tryz.f31 = true := by kernel_rfl
theorem pk32 : bodyB pl32 Tryz.f32 = true := by kernel_rfl
theorem pk33 : bodyB [] Tryz.f33 = true := by kernel_rfl
theorem pk34 : bodyB [] Tryz.f34 = true := by kernel_rfl
theorem pk35 : bodyB [] Tryz.f35 = true := by kernel_rfl
theorem pk36 : bodyB pl36 Tryz.f36 = true := by kernel_rfl
theorem pk37 : bodyB pl37 Tryz.f37 = true := by kernel_rfl
theorem pk38 : bodyB pl38 Tryz.f38 = true := by kernel_rfl
theorem pk39 : bodyB pl39 Tryz.f39 = true := by kernel_rfl
theorem pk41 : bodyB [] Tryz.f41 = true := by kernel_rfl
theorem pk42 : bodyB [] Tryz.f42 = true := by kernel_rfl
theorem pk43 : bodyB pl43 Tryz.f43 = true := by kernel_rfl
theorem pk44 : bodyB [] Tryz.f44 = true := by kernel_rfl
theorem pk45 : bodyB [] Tryz.f45 = true := by kernel_rfl
theorem pk46 : bodyB pl46 Tryz.f46 = true := by kernel_rfl
theorem pk47 : bodyB [] Tryz.f47 = true := by kernel_rfl
theorem pk48 : bodyB [] Tryz.f48 = true := by kernel_rfl
theorem pk49 : bodyB [] Tryz.f49 = true := by kernel_rfl
theorem pk50 : bodyB [] Tryz.f50 = true := by kernel_rfl
theorem pk51 : bodyB pl51 Tryz.f51 = true := by kernel_rfl
theorem pk52 : bodyB pl52 Tryz.f52 = true := by kernel_rfl
theorem pk53 : bodyB [] Tryz.f53 = true := by kernel_rfl
theorem pk54 : bodyB [] Tryz.f54 = true := by kernel_rfl
theorem pk56 : bodyB [] Tryz.f56 = true := by kernel_rfl
theorem pk57 : bodyB [] Tryz.f57 = true := by kernel_rfl
theorem pk63 : bodyB pl63 Tryz.f63 = true := by kernel_rfl
theorem pk68 : bodyB [] Tryz.f68 = true := by kernel_rfl
theorem pk69 : bodyB [] Tryz.f69 = true := by kernel_rfl
theorem pk70 : bodyB [] Tryz.f70 = true := by kernel_rfl
theorem pk71 : bodyB [] Tryz.f71 = true := by kernel_rfl
theorem pk72 : bodyB [] Tryz.f72 = true := by kernel_rfl
theorem pk73 : bodyB [] Tryz.f73 = true := by kernel_rfl
theorem pk74 : bodyB [] Tryz.f74 = true := by kernel_rfl
theorem pk75 : bodyB [] Tryz.f75 = true := by kernel_rfl
theorem pk76 : bodyB [] Tryz.f76 = true := by kernel_rfl
theorem pk77 : bodyB [] Tryz.f77 = true := by kernel_rfl
theorem pk78 : bodyB [] Tryz.f78 = true := by kernel_rfl
theorem pk79 : bodyB pl79 Tryz.f79 = true := by kernel_rfl
theorem pk88 : bodyB [] Tryz.f88 = true := by kernel_rfl
theorem pk91 : bodyB [] Tryz.f91 = true := by kernel_rfl
theorem pk92 : bodyB [] Tryz.f92 = true := by kernel_rfl
theorem pk93 : bodyB [] Tryz.f93 = true := by kernel_rfl
theorem pk94 : bodyB [] Tryz.f94 = true := by kernel_rfl
theorem pk95 : bodyB [] Tryz.f95 = true := by kernel_rfl
theorem pk97 : bodyB pl97 Tryz.f97 = true := by kernel_rfl
theorem pk98 : bodyB [] Tryz.f98 = true := by kernel_rfl
theorem pk99 : bodyB pl99 Tryz.f99 = true := by kernel_rfl
theorem pk100 : bodyB pl100 Tryz.f100 = true := by kernel_rfl
theorem pk101 : bodyB [] Tryz.f101 = true := by kernel_rfl
theorem pk102 : bodyB [] Tryz.f102 = true := by kernel_rfl
theorem pk103 : bodyB pl103 Tryz.f103 = true := by kernel_rfl
theorem pk104 : bodyB [] Tryz.f104 = true := by kernel_rfl
theorem pk105 : bodyB [] Tryz.f105 = true := by kernel_rfl
theorem pk106 : bodyB [] Tryz.f106 = true := by kernel_rfl
theorem pk112 : bodyB [] Tryz.f112 = true := by kernel_rfl
theorem pk113 : bodyB [] Tryz.f113 = true := by kernel_rfl
theorem pk114 : bodyB [] Tryz.f114 = true := by kernel_rfl
theorem pk115 : bodyB pl115 Tryz.f115 = true := by kernel_rfl
theorem pk116 : bodyB [] Tryz.f116 = true := by kernel_rfl
theorem pk118 : bodyB [] Tryz.f118 = true := by kernel_rfl
theorem pk119 : bodyB [] Tryz.f119 = true := by kernel_rfl
theorem pk120 : bodyB [] Tryz.f120 = true := by kernel_rfl
theorem pk121 : bodyB pl121 Tryz.f121 = true := by kernel_rfl
theorem pk123 : bodyB [] Tryz.f123 = true := by kernel_rfl
theorem pk125 : bodyB [] Tryz.f125 = true := by kernel_rfl
theorem pk128 : bodyB pl128 Tryz.f128 = true := by kernel_rfl
theorem pk130 : bodyB [] Tryz.f130 = true := by kernel_rfl
theorem pk131 : bodyB [] Tryz.f131 = true := by kernel_rfl
theorem pk136 : bodyB pl136 Tryz.f136 = true := by kernel_rfl
theorem pk137 : bodyB [] Tryz.f137 = true := by kernel_rfl
theorem pk138 : bodyB [] Tryz.f138 = true := by kernel_rfl
theorem pk140 : bodyB [] Tryz.f140 = true := by kernel_rfl
theorem pk144 : bodyB [] Tryz.f144 = true := by kernel_rfl
theorem pk145 : bodyB pl145 Tryz.f145 = true := by kernel_rfl
theorem pk148 : bodyB [] Tryz.f148 = true := by kernel_rfl
theorem pk149 : bodyB [] Tryz.f149 = true := by kernel_rfl
theorem pk150 : bodyB pl150 Tryz.f150 = true := by kernel_rfl
theorem pk151 : bodyB pl151 Tryz.f151 = true := by kernel_rfl
theorem pk152 : bodyB [] Tryz.f152 = true := by kernel_rfl
theorem pk154 : bodyB [] Tryz.f154 = true := by kernel_rfl
theorem pk155 : bodyB [] Tryz.f155 = true := by kernel_rfl
theorem pk157 : bodyB [] Tryz.f157 = true := by kernel_rfl
theorem pk158 : bodyB pl158 Tryz.f158 = true := by kernel_rfl
theorem pk159 : bodyB pl159 Tryz.f159 = true := by kernel_rfl
theorem pk188 : bodyB pl188 Tryz.f188 = true := by kernel_rfl
theorem pk190 : bodyB [] Tryz.f190 = true := by kernel_rfl
theorem pk191 : bodyB pl191 Tryz.f191 = true := by kernel_rfl
theorem pk192 : bodyB pl192 Tryz.f192 = true := by kernel_rfl
theorem plT_ok : AllP (fun x : Nat × Func => ∀ c, x.2.body = some c → Planned plF x.1 c) fsT :=
  ⟨fun _ hc => bodyB_ok (tab := []) (fun _ => rfl) pk3 hc,
  fun _ hc => bodyB_ok (tab := []) (fun _ => rfl) pk4 hc,
  fun _ hc => bodyB_ok (tab := []) (fun _ => rfl) pk5 hc,
  fun _ hc => bodyB_ok (tab := pl6) (fun _ => rfl) pk6 hc,
  fun _ hc => bodyB_ok (tab := []) (fun _ => rfl) pk7 hc,
  fun _ hc => bodyB_ok (tab := []) (fun _ => rfl) pk8 hc,
  fun _ hc => bodyB_ok (tab := pl9) (fun _ => rfl) pk9 hc,
  fun _ hc => bodyB_ok (tab := pl10) (fun _ => rfl) pk10 hc,
  fun _ hc => bodyB_ok (tab := pl11) (fun _ => rfl) pk11 hc,
  fun _ hc => bodyB_ok (tab := []) (fun _ => rfl) pk12 hc,
  fun _ hc => bodyB_ok (tab := []) (fun _ => rfl) pk13 hc,
  fun _ hc => bodyB_ok (tab := []) (fun _ => rfl) pk14 hc,
  fun _ hc => bodyB_ok (tab := []) (fun _ => rfl) pk15 hc,
  fun _ hc => bodyB_ok (tab := []) (fun _ => rfl) pk16 hc,
  fun _ hc => bodyB_ok (tab := []) (fun _ => rfl) pk17 hc,
  fun _ hc => bodyB_ok (tab := []) (fun _ => rfl) pk18 hc,
  fun _ hc => bodyB_ok (tab := []) (fun _ => rfl) pk19 hc,
  fun _ hc => bodyB_ok (tab := pl20) (fun _ => rfl) pk20 hc,
  fun _ hc => bodyB_ok (tab := []) (fun _ => rfl) pk21 hc,
  fun _ hc => bodyB_ok (tab := []) (fun _ => rfl) pk22 hc,
  fun _ hc => bodyB_ok (tab := pl23) (fun _ => rfl) pk23 hc,
  fun _ hc => bodyB_ok (tab := []) (fun _ => rfl) pk24 hc,
  fun _ hc => bodyB_ok (tab := []) (fun _ => rfl) pk25 hc,
  fun _ hc => bodyB_ok (tab := []) (fun _ => rfl) pk26 hc,
  fun _ hc => bodyB_ok (tab := []) (fun _ => rfl) pk27 hc,
  fun _ hc => bodyB_ok (tab := pl28) (fun _ => rfl) pk28 hc,
  fun _ hc => bodyB_ok (tab := []) (fun _ => rfl) pk29 hc,
  fun _ hc => bodyB_ok (tab := []) (fun _ => rfl) pk30 hc,
  fun _ hc => bodyB_ok (tab := []) (fun _ => rfl) pk31 hc,
  fun _ hc => bodyB_ok (tab := pl32) (fun _ => rfl) pk32 hc,
  fun _ hc => bodyB_ok (tab := []) (fun _ => rfl) pk33 hc,
  fun _ hc => bodyB_ok (tab := []) (fun _ => rfl) pk34 hc,
  fun _ hc => bodyB_ok (tab := []) (fun _ => rfl) pk35 hc,
  fun _ hc => bodyB_ok (tab := pl36) (fun _ => rfl) pk36 hc,
  fun _ hc => bodyB_ok (tab := pl37) (fun _ => rfl) pk37 hc,
  fun _ hc => bodyB_ok (tab := pl38) (fun _ => rfl) pk38 hc,
  fun _ hc => bodyB_ok (tab := pl39) (fun _ => rfl) pk39 hc,
  fun _ hc => bodyB_ok (tab := []) (fun _ => rfl) pk41 hc,
  fun _ hc => bodyB_ok (tab := []) (fun _ => rfl) pk42 hc,
  fun _ hc => bodyB_ok (tab := pl43) (fun _ => rfl) pk43 hc,
  fun _ hc => bodyB_ok (tab := []) (fun _ => rfl) pk44 hc,
  fun _ hc => bodyB_ok (tab := []) (fun _ => rfl) pk45 hc,
  fun _ hc => bodyB_ok (tab := pl46) (fun _ => rfl) pk46 hc,
  fun _ hc => bodyB_ok (tab := []) (fun _ => rfl) pk47 hc,
  fun _ hc => bodyB_ok (tab := []) (fun _ => rfl) pk48 hc,
  fun _ hc => bodyB_ok (tab := []) (fun _ => rfl) pk49 hc,
  fun _ hc => bodyB_ok (tab := []) (fun _ => rfl) pk50 hc,
  fun _ hc => bodyB_ok (tab := pl51) (fun _ => rfl) pk51 hc,
  fun _ hc => bodyB_ok (tab := pl52) (fun _ => rfl) pk52 hc,
  fun _ hc => bodyB_ok (tab := []) (fun _ => rfl) pk53 hc,
  fun _ hc => bodyB_ok (tab := []) (fun _ => rfl) pk54 hc,
  fun _ hc => bodyB_ok (tab := []) (fun _ => rfl) pk56 hc,
  fun _ hc => bodyB_ok (tab := []) (fun _ => rfl) pk57 hc,
  fun _ hc => bodyB_ok (tab := pl63) (fun _ => rfl) pk63 hc,
  fun _ hc => bodyB_ok (tab := []) (fun _ => rfl) pk68 hc,
  fun _ hc => bodyB_ok (tab := []) (fun _ => rfl) pk69 hc,
  fun _ hc => bodyB_ok (tab := []) (fun _ => rfl) pk70 hc,
  fun _ hc => bodyB_ok (tab := []) (fun _ => rfl) pk71 hc,
  fun _ hc => bodyB_ok (tab := []) (fun _ => rfl) pk72 hc,
  fun _ hc => bodyB_ok (tab := []) (fun _ => rfl) pk73 hc,
  fun _ hc => bodyB_ok (tab := []) (fun _ => rfl) pk74 hc,
  fun _ hc => bodyB_ok (tab := []) (fun _ => rfl) pk75 hc,
  fun _ hc => bodyB_ok (tab := []) (fun _ => rfl) pk76 hc,
  fun _ hc => bodyB_ok (tab := []) (fun _ => rfl) pk77 hc,
  fun _ hc => bodyB_ok (tab := []) (fun _ => rfl) pk78 hc,
  fun _ hc => bodyB_ok (tab := pl79) (fun _ => rfl) pk79 hc,
  fun _ hc => bodyB_ok (tab := []) (fun _ => rfl) pk88 hc,
  fun _ hc => bodyB_ok (tab := []) (fun _ => rfl) pk91 hc,
  fun _ hc => bodyB_ok (tab := []) (fun _ => rfl) pk92 hc,
  fun _ hc => bodyB_ok (tab := []) (fun _ => rfl) pk93 hc,
  fun _ hc => bodyB_ok (tab := []) (fun _ => rfl) pk94 hc,
  fun _ hc => bodyB_ok (tab := []) (fun _ => rfl) pk95 hc,
  fun _ hc => bodyB_ok (tab := pl97) (fun _ => rfl) pk97 hc,
  fun _ hc => bodyB_ok (tab := []) (fun _ => rfl) pk98 hc,
  fun _ hc => bodyB_ok (tab := pl99) (fun _ => rfl) pk99 hc,
  fun _ hc => bodyB_ok (tab := pl100) (fun _ => rfl) pk100 hc,
  fun _ hc => bodyB_ok (tab := []) (fun _ => rfl) pk101 hc,
  fun _ hc => bodyB_ok (tab := []) (fun _ => rfl) pk102 hc,
  fun _ hc => bodyB_ok (tab := pl103) (fun _ => rfl) pk103 hc,
  fun _ hc => bodyB_ok (tab := []) (fun _ => rfl) pk104 hc,
  fun _ hc => bodyB_ok (tab := []) (fun _ => rfl) pk105 hc,
  fun _ hc => bodyB_ok (tab := []) (fun _ => rfl) pk106 hc,
  fun _ hc => bodyB_ok (tab := []) (fun _ => rfl) pk112 hc,
  fun _ hc => bodyB_ok (tab := []) (fun _ => rfl) pk113 hc,
  fun _ hc => bodyB_ok (tab := []) (fun _ => rfl) pk114 hc,
  fun _ hc => bodyB_ok (tab := pl115) (fun _ => rfl) pk115 hc,
  fun _ hc => bodyB_ok (tab := []) (fun _ => rfl) pk116 hc,
  fun _ hc => bodyB_ok (tab := []) (fun _ => rfl) pk118 hc,
  fun _ hc => bodyB_ok (tab := []) (fun _ => rfl) pk119 hc,
  fun _ hc => bodyB_ok (tab := []) (fun _ => rfl) pk120 hc,
  fun _ hc => bodyB_ok (tab := pl121) (fun _ => rfl) pk121 hc,
  fun _ hc => bodyB_ok (tab := []) (fun _ => rfl) pk123 hc,
  fun _ hc => bodyB_ok (tab := []) (fun _ => rfl) pk125 hc,
  fun _ hc => bodyB_ok (tab := pl128) (fun _ => rfl) pk128 hc,
  fun _ hc => bodyB_ok (tab := []) (fun _ => rfl) pk130 hc,
  fun _ hc => bodyB_ok (tab := []) (fun _ => rfl) pk131 hc,
  fun _ hc => bodyB_ok (tab := pl136) (fun _ => rfl) pk136 hc,
  fun _ hc => bodyB_ok (tab := []) (fun _ => rfl) pk137 hc,
  fun _ hc => bodyB_ok (tab := []) (fun _ => rfl) pk138 hc,
  fun _ hc => bodyB_ok (tab := []) (fun _ => rfl) pk140 hc,
  fun _ hc => bodyB_ok (tab := []) (fun _ => rfl) pk144 hc,
  fun _ hc => bodyB_ok (tab := pl145) (fun _ => rfl) pk145 hc,
  fun _ hc => bodyB_ok (tab := []) (fun _ => rfl) pk148 hc,
  fun _ hc => bodyB_ok (tab := []) (fun _ => rfl) pk149 hc,
  fun _ hc => bodyB_ok (tab := pl150) (fun _ => rfl) pk150 hc,
  fun _ hc => bodyB_ok (tab := pl151) (fun _ => rfl) pk151 hc,
  fun _ hc => bodyB_ok (tab := []) (fun _ => rfl) pk152 hc,
  fun _ hc => bodyB_ok (tab := []) (fun _ => rfl) pk154 hc,
  fun _ hc => bodyB_ok (tab := []) (fun _ => rfl) pk155 hc,
  fun _ hc => bodyB_ok (tab := []) (fun _ => rfl) pk157 hc,
  fun _ hc => bodyB_ok (tab := pl158) (fun _ => rfl) pk158 hc,
  fun _ hc => bodyB_ok (tab := pl159) (fun _ => rfl) pk159 hc,
  fun _ hc => bodyB_ok (tab := pl188) (fun _ => rfl) pk188 hc,
  fun _ hc => bodyB_ok (tab := []) (fun _ => rfl) pk190 hc,
  fun _ hc => bodyB_ok (tab := pl191) (fun _ => rfl) pk191 hc,
  fun _ hc => bodyB_ok (tab := pl192) (fun _ => rfl) pk192 hc,
  trivial⟩
theorem ext89 : ExtOk Tryz.prog 89 (ExtK.row .cmp) := ⟨Tryz.f89, Tryz.func89, by kernel_rfl, by kernel_rfl, by kernel_rfl, by kernel_rfl⟩
theorem ext134 : ExtOk Tryz.prog 134 (ExtK.row .count) := ⟨Tryz.f134, Tryz.func134, by kernel_rfl, by kernel_rfl, by kernel_rfl, by kernel_rfl⟩
theorem ext146 : ExtOk Tryz.prog 146 (ExtK.row .index) := ⟨Tryz.f146, Tryz.func146, by kernel_rfl, by kernel_rfl, by kernel_rfl, by kernel_rfl⟩
theorem ext96 : ExtOk Tryz.prog 96 (ExtK.row .clone) := ⟨Tryz.f96, Tryz.func96, by kernel_rfl, by kernel_rfl, by kernel_rfl, by kernel_rfl⟩
theorem EE_ok : EE.Ok where
  fs := fun f fn h => AllP.mem fsT_ok (f, fn) (assoc_mem h)
  X := fun f => by
    by_cases h1 : f = 89
    · subst h1; exact ⟨_, rfl, .inr ext89⟩
    by_cases h2 : f = 134
    · subst h2; exact ⟨_, rfl, .inr ext134⟩
    by_cases h3 : f = 146
    · subst h3; exact ⟨_, rfl, .inr ext146⟩
    by_cases h4 : f = 96
    · subst h4; exact ⟨_, rfl, .inr ext96⟩
    have nb : ∀ {a b : Nat}, a ≠ b → Nat.beq a b = false := fun hab => Bool.eq_false_iff.2 fun e => hab (Nat.eq_of_beq_eq_true e)
    exact ⟨.no, by simp only [EE, xF, nb h1, nb h2, nb h3, nb h4, cond_false], .inl rfl⟩
  mixed := by kernel_rfl
  pl := fun f fn c hf hb => AllP.mem plT_ok (f, fn) (assoc_mem hf) c hb
end Ev
end Go.Proofs.YthckkbhjocjmkaaGreatDoor
