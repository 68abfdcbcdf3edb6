/- The operations of the abstract run that read or write memory, second part: append. -/
import Derived.Test.YthckkbhjocjmkaaGreatDoorEv7
import Derived.Deep.AppendSrc
namespace Go.Proofs.YthckkbhjocjmkaaGreatDoor
namespace Ev

theorem oneB_eq (v : Value) : v.oneCell' = oneB v := by cases v <;> rfl

/-- What is appended: how many elements, and their cells. -/
def aSrc (h : AHeap) (size : Nat) (x : Value) : Option (Nat × List Value) :=
  match x with
  | .slice (some ⟨i, off, none⟩) n _ => (aload h i off (n * size)).map fun l => (n, l)
  | .slice none 0 _ => some (0, [])
  | _ => none

section
variable {P : Program} {ρ : Operand → Value} {dst : Option Tmp} {ty : TypeId} {pos : String} {after : Array Edge} {guard : Option (Nat × Bool)} {h : AHeap}

theorem aSrc_run {R : Emb} {w : World} {size n : Nat} {x x' : Value} {l : List Value} {tx e' : TypeId} (hr : Rel R h w) (hk : P.underlying tx = some (.slice e')) (hx : sub R x = some x') (hs : aSrc h size x = some (n, l))
    (hone : l.all oneB = true) : ∃ l', subL R l = some l' ∧ Src P size tx x' n l' w := by
  unfold aSrc at hs
  split at hs
  · rename_i i off m c
    simp only [sub, Option.map_eq_some_iff] at hx
    obtain ⟨e, he, rfl⟩ := hx
    cases ha : aload h i off (m * size) with
    | none => rw [ha] at hs; cases hs
    | some l0 =>
      rw [ha] at hs
      simp only [Option.map_some, Option.some.injEq, Prod.mk.injEq] at hs
      obtain ⟨rfl, rfl⟩ := hs
      obtain ⟨l', hs', hlen, hc⟩ := aload_run hr he ha
      exact ⟨l', hs', Src.ofSlice w hk _ _ _ l' hlen (fun j u hj => by rw [addr_add]; exact hc j u hj) (fun u hu => by rw [oneB_eq]; exact subL_oneB hs' hone u hu)⟩
  · rename_i c
    simp only [sub, Option.some.injEq] at hx
    simp only [Option.some.injEq, Prod.mk.injEq] at hs
    obtain ⟨rfl, rfl⟩ := hs
    subst hx
    exact ⟨[], rfl, Src.ofNil w hk c⟩
  · cases hs

/-- A new row with room behind it. -/
def grownRow (h : AHeap) (elem : TypeId) (size need : Nat) (cs : List Value) : EOut :=
  (some (.slice (some ⟨h.next, 0, none⟩) need (mark + need)), h.add (.row cs elem size))

theorem capOf_open (x n : Nat) : capOf x (mark + n) = n + x := by
  unfold capOf
  rw [if_neg (by omega)]; omega

/-- The arm that stores behind the length. -/
theorem run_room {w w' : World} {t tx e : TypeId} {i : TypeInfo} {b off sLen sCap n : Nat} {x : Value} {news : List Value} (ht : P.underlying t = some (.slice e)) (hi : P.info? e = some i)
    (hs : Src P i.size tx x n news w) (hroom : sLen + n ≤ sCap) (hst : (storeCells ⟨b, off + sLen * i.size, none⟩ news).run P w = .ok () w') :
    (Builtin.append_ #[t, tx] ty #[.slice (some ⟨b, off, none⟩) sLen sCap, x]).run P w = .ok (.slice (some ⟨b, off, none⟩) (sLen + n) sCap) w' := by
  rcases hs.kind with ⟨e', hk⟩ | hk <;> simp [Builtin.append_, run_underlying ht, run_underlying hk, sizeOf, typeInfo, hi, hs.len, hroom, hs.cells, addr_add, hst]

theorem run_room_nil {w : World} {t tx e : TypeId} {i : TypeInfo} {sCap : Nat} {x : Value} (ht : P.underlying t = some (.slice e)) (hi : P.info? e = some i)
    (hs : Src P i.size tx x 0 [] w) : (Builtin.append_ #[t, tx] ty #[.slice none 0 sCap, x]).run P w = .ok (.slice none 0 sCap) w := by
  rcases hs.kind with ⟨e', hk⟩ | hk <;> simp [Builtin.append_, run_underlying ht, run_underlying hk, sizeOf, typeInfo, hi, hs.len, hs.cells]

/-- The zero value's cells, as often as asked. -/
theorem zeroCells_length (z : Array Value) (n : Nat) : (Builtin.zeroCells z n).toList.length = n * z.size := by simp [Builtin.zeroCells]

/-- The arm that grows. -/
theorem run_grows {R : Emb} {w : World} {t tx e : TypeId} {i : TypeInfo} {z : Value} {base : Option Addr} {sLen sCap n : Nat} {x : Value} {olds olds' news news' : List Value} (hr : Rel R h w)
    (ht : P.underlying t = some (.slice e)) (hi : P.info? e = some i) (hz : i.zero = some z) (hzs : z.cells.size = i.size)
    (hold : (Builtin.firstCells i.size sLen (.slice base sLen sCap)).run P w.drew = .ok olds'.toArray w.drew) (hs : Src P i.size tx x n news' w)
    (ho : subL R olds = some olds') (hn : subL R news = some news') (hg : sCap < sLen + n) (h62 : sLen + n < mark) (hfit : (sLen + n) * i.bytes ≤ 140737488355328) :
    ∃ R' w' v', (Builtin.append_ #[t, tx] ty #[.slice base sLen sCap, x]).run P w = .ok v' w' ∧ Ext R h w R' (grownRow h e i.size (sLen + n) (olds ++ news)).2 w' ∧
      Rel R' (grownRow h e i.size (sLen + n) (olds ++ news)).2 w' ∧ sub R' (.slice (some ⟨h.next, 0, none⟩) (sLen + n) (mark + (sLen + n))) = some v' := by
  have h63 : ((sLen + n : Nat) : Int) ≤ 9223372036854775807 := by unfold mark at h62; omega
  have hrun := run_append_grow_src (P := P) w t tx ty e i z ht hi hz base sLen sCap olds' hold x n news' hs hg h63 (growslice_fits hg hfit)
  have hge : sLen + n ≤ grownCap w (sLen + n) sCap e := Nat.le_add_right _ _
  obtain ⟨x', hx'⟩ : ∃ x', grownCap w (sLen + n) sCap e = sLen + n + x' := ⟨grownCap w (sLen + n) sCap e - (sLen + n), by omega⟩
  have hrd := hr.drawn (w.drawn + 1)
  have hob : ObjRel R x' (.row (olds ++ news) e i.size) (.cells ((olds' ++ news').toArray ++ Builtin.zeroCells z.cells (grownCap w (sLen + n) sCap e - (sLen + n))) e) := by
    refine ⟨olds' ++ news', (Builtin.zeroCells z.cells x').toList, subL_append ho hn, by rw [zeroCells_length, hzs], ?_⟩
    rw [hx', Nat.add_sub_cancel_left]
    congr 1
    apply Array.ext'; simp
  have ha := hrd.1.alloc hob
  refine ⟨_, _, _, hrun, hrd.2.trans ha.2, ha.1, ?_⟩
  simp only [sub, Emb.ins_self, Option.map_some, capOf_open, hx']

def appendOld (h : AHeap) (elem : TypeId) (i : TypeInfo) (zok : Bool) (s : Value) (n : Nat) (news : List Value) : Option EOut :=
  match s with
  | .slice none 0 0 =>
    cond (Nat.beq n 0) (some (some (.slice none 0 0), h))
      (cond (zok && (Nat.blt n mark && Nat.ble (n * i.bytes) 140737488355328)) (some (grownRow h elem i.size n news)) none)
  | .slice (some ⟨b, off, none⟩) sLen sCap =>
    let need := sLen + n
    cond (Nat.ble need (if sCap < mark then sCap else sCap - mark))
      ((astore h b (off + sLen * i.size) news).map fun h' => (some (.slice (some ⟨b, off, none⟩) need sCap), h'))
      (cond (zok && (Nat.blt need mark && Nat.ble (need * i.bytes) 140737488355328))
        (if sCap < mark then (aload h b off (sLen * i.size)).map fun olds => grownRow h elem i.size need (olds ++ news)
         else match h.get b with
          | some (.row c el st) => cond (Nat.beq off 0 && (Nat.beq sLen (sCap - mark) && (Nat.beq c.length (sLen * i.size) && (Nat.beq st i.size && (Nat.beq el elem && news.all oneB)))))
              (some (grownRow (h.put b none) elem i.size need (c ++ news))) none
          | _ => none) none)
  | _ => none

/-- append(s, xs...) -/
def eAppend (P : Program) (h : AHeap) (ats : Array TypeId) (s x : Value) : Option EOut :=
  match ats with
  | ⟨[t, tx]⟩ =>
    match P.underlying t, P.underlying tx with
    | some (.slice elem), some (.slice _) =>
      match P.info? elem with
      | some i =>
        match aSrc h i.size x with
        | some (n, news) => cond (news.all oneB && Nat.beq news.length (n * i.size))
            (appendOld h elem i (match i.zero with | some z => Nat.beq z.cells.size i.size | none => false) s n news) none
        | none => none
      | none => none
    | _, _ => none
  | _ => none

theorem eff_appendCall {ats : Array TypeId} {s x : Operand} {outs : List EOut}
    (H : ∀ (R : Emb) (s' x' : Value) (w : World), sub R (ρ s) = some s' → sub R (ρ x) = some x' → Rel R h w → ∃ out ∈ outs, ∃ R' w', Ext R h w R' out.2 w' ∧ Rel R' out.2 w' ∧
      ∃ v v', out.1 = some v ∧ (Builtin.append_ ats ty #[s', x']).run P w = .ok v' w' ∧ sub R' v = some v') :
    Eff P ⟨dst, .call ⟨.builtin .append, #[s, x], ats⟩, ty, pos, after, guard⟩ ρ h outs := by
  intro R ρ' w hf hr
  have hs := hf s (by simp [Op.operands, Call.operands])
  have hx := hf x (by simp [Op.operands, Call.operands])
  obtain ⟨out, hmem, R', w', hext, hrel, v, v', hv, hrun, hsub⟩ := H R (ρ' s) (ρ' x) w hs hx hr
  refine ⟨out, hmem, R', w', hext, hrel, ?_⟩
  rw [hv]
  refine ⟨v', ?_, hsub⟩
  simp only [execOp, resolve, Sem.run_bind, Sem.run_pure, Result.andThen_ok, invoke, builtin, List.map_toArray, List.map_cons, List.map_nil, hrun]

theorem eff_append {ats : Array TypeId} {s x : Operand} {out : EOut} (ha : eAppend P h ats (ρ s) (ρ x) = some out) :
    Eff P ⟨dst, .call ⟨.builtin .append, #[s, x], ats⟩, ty, pos, after, guard⟩ ρ h [out] := by
  refine eff_appendCall fun R s' x' w hs hx hr => ⟨out, List.mem_singleton.2 rfl, ?_⟩
  unfold eAppend at ha
  split at ha
  · rename_i t tx
    split at ha
    · rename_i elem e' ht htx
      split at ha
      · rename_i i hi
        split at ha
        · rename_i n news hsrc
          cases hc : (news.all oneB && Nat.beq news.length (n * i.size)) with
          | false => rw [hc] at ha; cases ha
          | true =>
            rw [hc] at ha
            simp only [cond_true] at ha
            simp only [Bool.and_eq_true] at hc
            obtain ⟨hone, hlen⟩ := hc
            have hlen := Nat.eq_of_beq_eq_true hlen
            obtain ⟨news', hn', hS⟩ := aSrc_run (P := P) hr htx hx hsrc hone
            have hzok : ∀ {b : Bool}, ((match i.zero with | some z => Nat.beq z.cells.size i.size | none => false) && b) = true → (∃ z, i.zero = some z ∧ z.cells.size = i.size) ∧ b = true := fun {b} hb => by
              simp only [Bool.and_eq_true] at hb
              obtain ⟨h1, h2⟩ := hb
              split at h1
              · rename_i z hz; exact ⟨⟨z, hz, Nat.eq_of_beq_eq_true h1⟩, h2⟩
              · cases h1
            unfold appendOld at ha
            split at ha
            · -- nothing was there
              rename_i hsv
              rw [hsv] at hs
              simp only [sub, Option.some.injEq] at hs
              subst hs
              cases h0 : Nat.beq n 0 with
              | true =>
                rw [h0] at ha
                simp only [cond_true, Option.some.injEq] at ha
                subst ha
                have h0 := Nat.eq_of_beq_eq_true h0
                subst h0
                have : news' = [] := List.length_eq_zero_iff.1 (by have := hS.newsLen; simpa using this)
                subst this
                exact ⟨R, w, Ext.refl _ _ _, hr, _, _, rfl, run_room_nil ht hi hS, rfl⟩
              | false =>
                rw [h0] at ha
                simp only [cond_false] at ha
                cases hz : ((match i.zero with | some z => Nat.beq z.cells.size i.size | none => false) && (Nat.blt n mark && Nat.ble (n * i.bytes) 140737488355328)) with
                | false => rw [hz] at ha; cases ha
                | true =>
                  rw [hz] at ha
                  simp only [cond_true, Option.some.injEq] at ha
                  obtain ⟨⟨z, hz1, hz2⟩, h1⟩ := hzok hz
                  simp only [Bool.and_eq_true, Nat.blt_eq, Nat.ble_eq] at h1
                  have hn0 : n ≠ 0 := fun e => by subst e; cases h0
                  obtain ⟨R', w', v', hrun, hext, hrel, hsub⟩ := run_grows (P := P) (ty := ty) (base := none) (sLen := 0) (sCap := 0) (olds := []) (olds' := []) hr ht hi hz1 hz2
                    (run_firstCells_none w.drew i.size 0 0 0) hS rfl hn' (by omega) (by omega) (by simpa using h1.2)
                  simp only [Nat.zero_add, List.nil_append] at hext hrel hsub
                  subst ha
                  exact ⟨R', w', hext, hrel, _, v', rfl, hrun, hsub⟩
            · -- a row was there
              rename_i b off sLen sCap hsv
              rw [hsv] at hs
              simp only [sub, Option.map_eq_some_iff] at hs
              obtain ⟨e, he, rfl⟩ := hs
              dsimp only at ha
              cases hroom : Nat.ble (sLen + n) (if sCap < mark then sCap else sCap - mark) with
              | true =>
                rw [hroom] at ha
                simp only [cond_true] at ha
                have hroom := Nat.le_of_ble_eq_true hroom
                cases hst : astore h b (off + sLen * i.size) news with
                | none => rw [hst] at ha; cases ha
                | some h' =>
                  rw [hst] at ha
                  simp only [Option.map_some, Option.some.injEq] at ha
                  subst ha
                  obtain ⟨w', hrun, hext, hrel⟩ := astore_run (P := P) hr he hst hn'
                  have hcap : sLen + n ≤ capOf e.2 sCap := by
                    unfold capOf
                    by_cases hk : sCap < mark
                    · rw [if_pos hk] at hroom ⊢; exact hroom
                    · rw [if_neg hk] at hroom ⊢; omega
                  exact ⟨R, w', hext, hrel, _, _, rfl, run_room ht hi hS hcap hrun, by simp [sub, he]⟩
              | false =>
                rw [hroom] at ha
                simp only [cond_false] at ha
                have hroom : ¬ (sLen + n ≤ (if sCap < mark then sCap else sCap - mark)) := fun hle => by rw [Nat.ble_eq_true_of_le hle] at hroom; cases hroom
                cases hz : ((match i.zero with | some z => Nat.beq z.cells.size i.size | none => false) && (Nat.blt (sLen + n) mark && Nat.ble ((sLen + n) * i.bytes) 140737488355328)) with
                | false => rw [hz] at ha; cases ha
                | true =>
                  rw [hz] at ha
                  simp only [cond_true] at ha
                  obtain ⟨⟨z, hz1, hz2⟩, h1⟩ := hzok hz
                  simp only [Bool.and_eq_true, Nat.blt_eq, Nat.ble_eq] at h1
                  by_cases hk : sCap < mark
                  · rw [if_pos hk] at ha hroom
                    cases hal : aload h b off (sLen * i.size) with
                    | none => rw [hal] at ha; cases ha
                    | some olds =>
                      rw [hal] at ha
                      simp only [Option.map_some, Option.some.injEq] at ha
                      obtain ⟨olds', ho, hol, hoc⟩ := aload_run hr he hal
                      have hce : capOf e.2 sCap = sCap := by simp [capOf, hk]
                      rw [hce]
                      obtain ⟨R', w', v', hrun, hext, hrel, hsub⟩ := run_grows (P := P) (ty := ty) (base := some ⟨e.1, off, none⟩) (sLen := sLen) (sCap := sCap) hr ht hi hz1 hz2
                        (run_firstCells_some w.drew i.size sLen ⟨e.1, off, none⟩ sLen sCap olds' hol (fun j u hj => by rw [addr_add]; exact hoc j u hj)) hS ho hn' (by omega) h1.1 h1.2
                      subst ha
                      exact ⟨R', w', hext, hrel, _, v', rfl, hrun, hsub⟩
                  · rw [if_neg hk] at ha hroom
                    split at ha
                    · rename_i c el st hg
                      cases hcc : (Nat.beq off 0 && (Nat.beq sLen (sCap - mark) && (Nat.beq c.length (sLen * i.size) && (Nat.beq st i.size && (Nat.beq el elem && news.all oneB))))) with
                      | false => rw [hcc] at ha; cases ha
                      | true =>
                        rw [hcc] at ha
                        simp only [cond_true, Option.some.injEq] at ha
                        simp only [Bool.and_eq_true, Nat.beq_eq] at hcc
                        obtain ⟨rfl, hsl, hcl, rfl, rfl, _⟩ := hcc
                        subst ha
                        have hce : capOf e.2 sCap = sLen + e.2 := by unfold capOf; rw [if_neg hk]; omega
                        rw [hce]
                        obtain ⟨e', o, he', hw, hob⟩ := hr.dom _ _ hg
                        rw [he] at he'; cases he'
                        obtain ⟨c', rest, hcs, hrest, rfl⟩ := hob
                        have e1 := subL_length hcs
                        have e2 := subL_length hn'
                        by_cases hfit : sLen + n ≤ sLen + e.2
                        · -- it fits into the block's spare room
                          have hmul : n * i.size ≤ e.2 * i.size := Nat.mul_le_mul_right _ (by omega)
                          obtain ⟨w', hst, hturn⟩ := run_storeCells (P := P) news' (c' ++ rest) (0 + sLen * i.size) 0 w hw (by simp; omega) (subL_oneB hn' hone)
                          have hob' : ObjRel (R.ins h.next (e.1, e.2 - n)) (e.2 - n) (.row (c ++ news) el i.size) (.cells ⟨(c' ++ rest).take (0 + sLen * i.size + 0) ++ news' ++ (c' ++ rest).drop (0 + sLen * i.size + 0 + news'.length)⟩ el (0, 0)) := by
                            refine ⟨c' ++ news', rest.drop (n * i.size), subL_mono (Emb.le_ins hr.none_next) _ _ (subL_append hcs hn'), by rw [List.length_drop, hrest, Nat.sub_mul], ?_⟩
                            congr 2
                            have hc'l : c'.length = 0 + sLen * i.size + 0 := by omega
                            rw [← hc'l, List.take_left, List.drop_append, List.drop_of_length_le (Nat.le_add_right _ _), Nat.add_sub_cancel_left, List.nil_append, e2, hlen]
                          have hmv := hr.move (ob' := .row (c ++ news) el i.size) (o' := _) (x := e.2 - n) hg he hturn (by
                            refine ⟨c' ++ news', rest.drop (n * i.size), subL_append hcs hn', by rw [List.length_drop, hrest, Nat.sub_mul], ?_⟩
                            congr 2
                            have hc'l : c'.length = 0 + sLen * i.size + 0 := by omega
                            rw [← hc'l, List.take_left, List.drop_append, List.drop_of_length_le (Nat.le_add_right _ _), Nat.add_sub_cancel_left, List.nil_append, e2, hlen])
                          refine ⟨_, w', hmv.2, hmv.1, _, _, rfl, run_room ht hi hS hfit hst, ?_⟩
                          have hn2 : (h.put b none).next = h.next := rfl
                          simp only [sub, hn2, Emb.ins_self, Option.map_some, capOf_open]
                          congr 2
                          omega
                        · -- it grows
                          have hd := hr.drop b
                          have hfc := run_firstCells_some (P := P) w.drew i.size sLen ⟨e.1, 0, none⟩ sLen (sLen + e.2) c' (by omega) (fun j u hj => by
                            rw [addr_add]
                            have hlt := (List.getElem?_eq_some_iff.1 hj).1
                            have hw' : w.drew.heap[e.1]? = some (.cells ⟨c' ++ rest⟩ el (0, 0)) := hw
                            simp only [World.cell?, hw']
                            simp [List.getElem?_append_left hlt, hj])
                          obtain ⟨R', w', v', hrun, hext, hrel, hsub⟩ := run_grows (P := P) (ty := ty) (base := some ⟨e.1, 0, none⟩) (sLen := sLen) (sCap := sLen + e.2) hd.1 ht hi hz1 hz2
                            hfc hS hcs hn' (by omega) h1.1 h1.2
                          exact ⟨R', w', hd.2.trans hext, hrel, _, v', rfl, hrun, hsub⟩
                    · cases ha
            · cases ha
        · cases ha
      · cases ha
    · cases ha
  · cases ha
end
end Ev
end Go.Proofs.YthckkbhjocjmkaaGreatDoor
