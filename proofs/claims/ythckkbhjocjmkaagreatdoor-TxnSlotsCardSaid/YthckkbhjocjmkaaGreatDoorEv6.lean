/- All pure operations of the abstract run together. -/
import Derived.Test.YthckkbhjocjmkaaGreatDoorEv5
namespace Go.Proofs.YthckkbhjocjmkaaGreatDoor
namespace Ev

/-- Where all operands are closed the model's own text computes the value. -/
def popClosed (P : Program) (ρ : Operand → Value) (o : Oper) : Option Value :=
  cond (opsClosed ρ o) (match pv P ρ o with
    | some v => cond (clo v) (some v) none
    | none => none) none

def popLen (P : Program) (ρ : Operand → Value) (args : Array Operand) (ats : Array TypeId) : Option Value :=
  match args, ats[0]? with
  | ⟨[x]⟩, some t =>
    match P.underlying t, ρ x with
    | some (.slice _), .slice (some _) n _ => some (goInt n)
    | _, _ => none
  | _, _ => none

def popNil (P : Program) (ρ : Operand → Value) (op : BinOp) (t : TypeId) (x y : Operand) : Option Value :=
  match op with
  | .eql => match P.underlying t with
    | some d => (nilEq d (ρ x) (ρ y)).map .bool
    | none => none
  | .neq => match P.underlying t with
    | some d => (nilEq d (ρ x) (ρ y)).map fun r => .bool (!r)
    | none => none
  | _ => none

/-- What a pure operation yields on abstract operands. -/
def pop (P : Program) (ρ : Operand → Value) (o : Oper) : Option Value :=
  match o.op with
  | .move x | .assign x => some (ρ x)
  | .pick c a b => match ρ c with
    | .bool t => some (if t then ρ a else ρ b)
    | _ => none
  | .extract .. => pv P ρ o
  | .nilCheck x => match ρ x with
    | .pointer (some ⟨_, _, none⟩) => some (ρ x)
    | _ => none
  | .fieldAddr _ x _ => match ρ x with
    | .pointer (some ⟨_, _, none⟩) => pv P ρ o
    | _ => none
  | .indexAddr .. => pv P ρ o
  | .makeInterface .. => pv P ρ o
  | .makeFunc (.func fn) a b => some (.func (.func fn) (a.map ρ) (b.map ρ))
  | .slice t x lo hi mx => match sliceV P t (ρ x) (lo.map ρ) (hi.map ρ) (mx.map ρ) with
    | some v => some v
    | none => popClosed P ρ o
  | .build t _ => cond (((P.info? t).bind (·.zero)).any clo) (pv P ρ o) none
  | .call ⟨.builtin .len, args, ats⟩ => match popLen P ρ args ats with
    | some v => some v
    | none => popClosed P ρ o
  | .binOp op t x y _ => match popClosed P ρ o with
    | some v => some v
    | none => popNil P ρ op t x y
  | .typeAssert x _ t ok => match P.underlying t, ρ x with
    | some d, .iface u v => cond (plainDesc d && Nat.beq u t) (some (if ok then .tuple #[v, .bool true] else v)) none
    | _, _ => none
  | .unOp .. | .convert .. | .index .. | .field .. => popClosed P ρ o
  | .call ⟨.builtin .max, _, _⟩ | .call ⟨.builtin .min, _, _⟩ | .call ⟨.builtin .cap, _, _⟩ => popClosed P ρ o
  | _ => none

theorem popClosed_sound {P : Program} {o : Oper} {ρ : Operand → Value} {v : Value} (hsel : ∀ cs b, o.op ≠ .select cs b) (h : popClosed P ρ o = some v) : Pure1 P o ρ v := by
  unfold popClosed at h
  cases hc : opsClosed ρ o with
  | false => rw [hc] at h; cases h
  | true =>
    rw [hc] at h
    simp only [cond_true] at h
    cases hp : pv P ρ o with
    | none => rw [hp] at h; cases h
    | some u =>
      rw [hp] at h
      simp only at h
      cases hu : clo u with
      | false => rw [hu] at h; cases h
      | true =>
        rw [hu] at h
        simp only [cond_true, Option.some.injEq] at h
        subst h
        exact pure_closed hsel hc hp hu

theorem pop_sound {P : Program} {o : Oper} {ρ : Operand → Value} {v : Value} (h : pop P ρ o = some v) : Pure1 P o ρ v := by
  obtain ⟨dst, op, ty, pos, after, guard⟩ := o
  unfold pop at h
  split at h
  rotate_right
  · cases h
  all_goals (rename_i heq; simp only at heq; subst heq)
  · exact pure_move (by rw [← h]; exact pv_of rfl)
  · exact pure_assign (by rw [← h]; exact pv_of rfl)
  · rename_i c a b
    split at h
    · rename_i t ht
      refine pure_pick ?_
      rw [← h]
      exact pv_of (by simp only [execOp, qv_bind, ht, asBool, qv_pure, Option.bind_some])
    · cases h
  · exact pure_extract h
  · rename_i x
    split at h
    · rename_i b off hx
      rw [← Option.some.inj h]
      exact pure_nilCheck hx
    · cases h
  · rename_i s x f
    split at h
    · rename_i b off hx
      exact pure_fieldAddr hx h
    · cases h
  · exact pure_indexAddr h
  · exact pure_makeInterface h
  · rw [← Option.some.inj h]; exact pure_makeFunc
  · rename_i t x lo hi mx
    split at h
    · rename_i u hu
      rw [← Option.some.inj h]
      exact pure_slice hu
    · exact popClosed_sound (fun _ _ => by simp) h
  · rename_i t parts
    cases hz : ((P.info? t).bind (·.zero)).any clo with
    | false => rw [hz] at h; cases h
    | true => rw [hz] at h; exact pure_build hz h
  · rename_i args ats
    split at h
    · rename_i u hu
      rw [← Option.some.inj h]
      unfold popLen at hu
      split at hu
      · rename_i x t hats
        split at hu
        · rename_i e a n c hund hx
          rw [← Option.some.inj hu]
          exact pure_len hats hund hx
        · cases hu
      · cases hu
    · exact popClosed_sound (fun _ _ => by simp) h
  · rename_i op t x y yt
    split at h
    · rename_i u hu
      rw [← Option.some.inj h]
      exact popClosed_sound (fun _ _ => by simp) hu
    · unfold popNil at h
      split at h
      · split at h
        · rename_i d hd
          cases hn : nilEq d (ρ x) (ρ y) with
          | none => rw [hn] at h; cases h
          | some r =>
            rw [hn] at h
            rw [← Option.some.inj h]
            exact pure_nilEq (op := .eql) (.inl rfl) hd hn
        · cases h
      · split at h
        · rename_i d hd
          cases hn : nilEq d (ρ x) (ρ y) with
          | none => rw [hn] at h; cases h
          | some r =>
            rw [hn] at h
            rw [← Option.some.inj h]
            exact pure_nilEq (op := .neq) (.inr rfl) hd hn
        · cases h
      · cases h
  · rename_i x xt t ok
    split at h
    · rename_i d u w hd hx
      cases hc : (plainDesc d && Nat.beq u t) with
      | false => rw [hc] at h; cases h
      | true =>
        rw [hc] at h
        simp only [Bool.and_eq_true, Nat.beq_eq] at hc
        obtain ⟨h1, rfl⟩ := hc
        rw [← Option.some.inj h]
        exact pure_assert hd h1 hx
    · cases h
  · exact popClosed_sound (fun _ _ => by simp) h
  · exact popClosed_sound (fun _ _ => by simp) h
  · exact popClosed_sound (fun _ _ => by simp) h
  · exact popClosed_sound (fun _ _ => by simp) h
  · exact popClosed_sound (fun _ _ => by simp) h
  · exact popClosed_sound (fun _ _ => by simp) h
  · exact popClosed_sound (fun _ _ => by simp) h

/-- What a pure operation does in a run. -/
theorem Pure1.run {P : Program} {o : Oper} {ρ : Operand → Value} {v : Value} (h : Pure1 P o ρ v) {R : Emb} {ρ' : Operand → Value} (hf : Fits R ρ ρ' o.op.operands.toList) :
    ∃ v', (∀ w, (execOp ρ' o).run P w = .ok (.value v') w) ∧ sub R v = some v' := by
  obtain ⟨v', h1, h2⟩ := h R ρ' hf
  exact ⟨v', qv_run (pv_some h1), h2⟩
end Ev
end Go.Proofs.YthckkbhjocjmkaaGreatDoor
