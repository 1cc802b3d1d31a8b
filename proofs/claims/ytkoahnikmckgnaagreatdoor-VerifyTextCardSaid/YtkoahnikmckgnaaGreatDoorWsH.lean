/- Effects: stores, maps, iterators, append, copy. -/
import Derived.Test.YtkoahnikmckgnaaGreatDoorWsG
import Derived.Laws.AppendOwn
set_option linter.unusedSimpArgs false
set_option linter.unusedVariables false
namespace Go.Proofs.YtkoahnikmckgnaaGreatDoor.Ws
open Go Go.RowKit

section
variable {P : Program} {W0 : World} {E : Env} {L : LM} {H : AH} {w : World}

/-- what an effect comes to -/
def EffOk (W0 : World) (L : LM) (H' : AH) (v : AV) (r : Result Next) : Prop :=
  ∃ x w' L', (r = .ok (.value x) w' ∨ (r = .ok .skip w' ∧ x = undef)) ∧ LE L L' ∧ HR W0 L' H' w' ∧ HD L' H' ∧ VR L' v x

theorem setCells_other (b : Nat) : ∀ (xs : List Value) (o : Nat) (w : World) (k : Nat), k ≠ b → (w.setCells b o xs).heap[k]? = w.heap[k]?
  | [], _, _, _, _ => rfl
  | x :: xs, o, w, k, hk => by
    simp only [World.setCells]
    rw [setCells_other b xs (o + 1) _ k hk, Below.heap_setCell _ _ _ _ (by simpa using hk)]

theorem store_run (hE : E.Ok P W0) (hr : HR W0 L H w) (hd : HD L H) {t : TypeId} {a v : AV} {x y : Value} {H' : AH} (h : astore E H t a v = some H') (ha : VR L a x) (hv : VR L v y) :
    ∃ w', (Instr.storeAt t x y).run P w = .ok () w' ∧ HR W0 L H' w' ∧ HD L H' := by
  unfold astore at h
  split at h
  · rename_i id off
    obtain ⟨l, hl, rfl⟩ := ha.ptr_inv
    split at h
    · rename_i n cs g hg
      split at h
      · rename_i d i ht
        obtain ⟨_, hi⟩ := hE.ti _ _ _ ht
        simp only at h
        split at h
        · rename_i hb
          have hb := beq_true hb
          split at h
          · rename_i cs' hs
            cases h
            have hc := hv.cells
            obtain ⟨h1, h2, h3⟩ := storeN_spec hl v.cells y.cells.toList H w cs cs' off hr hg hc hs
            have hlen : y.cells.toList.length = i.size := by have := hc.length; omega
            have hbr := hr.blk _ _ _ hg hl
            have hin : ∀ j, j < y.cells.toList.length → off + j < n := by
              intro j hj
              rw [if_neg (by omega)] at h3
              omega
            have hst := run_storeCells_cells (P := P) l.b (l.o + off) y.cells.toList 0 w
              (fun j hj => by
                obtain ⟨u, z, _, _, _, hz, _⟩ := hbr.cell (hin j hj)
                rw [show l.o + off + 0 + j = l.o + (off + j) by omega, hz]; rfl)
              (fun j hj => by
                obtain ⟨u, z, _, _, _, _, hz⟩ := hbr.cell (hin j hj)
                rw [show l.o + off + 0 + j = l.o + (off + j) by omega, hz]) h2
            simp only [Nat.add_zero] at hst
            refine ⟨_, ?_, h1, hd⟩
            have hsz : ¬ y.cells.size ≠ i.size := by simp at hlen; omega
            simp [Instr.storeAt, Instr.sureAddr, storeVar, run_size' hi, hst]
            simpa using hlen
          · cases h
        · cases h
      · cases h
    · cases h
  · cases h

/-- One block's content is another one. -/
theorem HR.change (h : HR W0 L H w) {id : Nat} {b b' : ABlk} {l : Loc} (hg : H.get id = some b) (hl : L id = some l) {w' : World} (hos : w'.os = w.os) (htape : w'.tape = w.tape) (hout : w'.output = w.output)
    (hsize : w'.heap.size = w.heap.size) (hother : ∀ k, k ≠ l.b → w'.heap[k]? = w.heap[k]?) (hb : BR L w' l b') : HR W0 L (H.set id b') w' := by
  have key : ∀ j c, (H.set id b').get j = some c → ∃ c', H.get j = some c' := by
    intro j c hj
    rw [AH.get_set] at hj
    by_cases e : j = id
    · subst e; exact ⟨_, hg⟩
    · rw [if_neg e] at hj; exact ⟨_, hj⟩
  refine ⟨fun j c k hj hk => ?_, fun i j c c' k k' hc hc' hk hk' e => ?_, fun j k hk => by rw [hsize]; exact h.lt j k hk, h.base, ?_⟩
  · rw [AH.get_set] at hj
    by_cases e : j = id
    · subst e
      rw [if_pos rfl] at hj
      cases hj
      rw [hl] at hk; cases hk
      exact hb
    · rw [if_neg e] at hj
      exact (h.blk j c k hj hk).mono (LE.refl _) (hother _ fun e' => e (h.inj j id c _ k l hj hg hk hl e'))
  · obtain ⟨d, hd⟩ := key i c hc
    obtain ⟨d', hd'⟩ := key j c' hc'
    exact h.inj i j d d' k k' hd hd' hk hk' e
  · refine h.below.trans ⟨hos, htape, hout, by omega, fun k hk => hother k fun e => ?_⟩
    have := h.base _ _ hl
    omega

theorem MR.modify {ly : List Nat} {k : Value} {v : AV} {x : Value} (hv : VR L v x) : ∀ {es : List (Value × AV)} {ents : List MapEntry} {u : AV}, MR L es ents → findA ly k es = some (some u) →
    ∃ p e, ents[p]? = some e ∧ keyEq ly k e.key = some true ∧ (∀ q e', q < p → ents[q]? = some e' → keyEq ly k e'.key = some false) ∧ MR L (putA ly k v es) (ents.modify p fun e => { e with key := k, val := x })
  | [], [], u, _, h => by simp [findA] at h
  | (k', v') :: es, e :: ents, u, hm, h => by
    cases hm with
    | cons hk hv' hs =>
      subst hk
      simp only [findA] at h
      split at h
      · rename_i hb
        refine ⟨0, e, by simp, hb, fun q e' hq => by omega, ?_⟩
        simp only [putA, hb, List.modify_zero_cons]
        exact .cons rfl hv hs
      · rename_i hb
        obtain ⟨p, e', h1, h2, h3, h4⟩ := MR.modify hv hs h
        refine ⟨p + 1, e', by simpa using h1, h2, ?_, ?_⟩
        · intro q e'' hq he
          cases q with
          | zero => simp at he; subst he; exact hb
          | succ q => exact h3 q e'' (by omega) (by simpa using he)
        · simp only [putA, hb, List.modify_succ_cons]
          exact .cons rfl hv' h4
      · cases h

theorem MR.push {ly : List Nat} {k : Value} {v : AV} {x : Value} {born : Nat} (hv : VR L v x) : ∀ {es : List (Value × AV)} {ents : List MapEntry}, MR L es ents → findA ly k es = some none → MR L (putA ly k v es) (ents ++ [{ key := k, val := x, born := born }])
  | [], [], _, _ => .cons rfl hv .nil
  | (k', v') :: es, e :: ents, hm, h => by
    cases hm with
    | cons hk hv' hs =>
      subst hk
      simp only [findA] at h
      split at h
      · cases h
      · rename_i hb
        simp only [putA, hb, List.cons_append]
        exact .cons rfl hv' (MR.push hv hs h)
      · cases h

theorem sameBits_refl_of {x : Value} (h : rawEq x x = some true) (n : Nat) : Instr.sameBits n x x = true := by
  cases x <;> simp [rawEq] at h <;> simp [Instr.sameBits]
  · rename_i s; exact (bytes_beq s s).2 rfl

theorem rawValsEq_each : ∀ {l m : List Value}, rawValsEq l m = some true → ∀ x ∈ l, rawEq x x = some true
  | [], [], _, x, hx => by cases hx
  | a :: l, b :: m, h, x, hx => by
    simp only [rawValsEq] at h
    split at h
    · rename_i hq
      have := (rawEq_spec hq).1 rfl
      subst this
      rcases List.mem_cons.1 hx with rfl | hm
      · exact hq
      · exact rawValsEq_each h x hm
    · split at h <;> cases h
    · cases h
  | [], _ :: _, h, _, _ => by simp [rawValsEq] at h
  | _ :: _, [], h, _, _ => by simp [rawValsEq] at h

theorem sameBits_key {k k' : Value} {ly : List Nat} (h : keyEq ly k k' = some true) : Instr.sameBits 10000 k' k = true := by
  have := keyEq_true h
  subst this
  cases k with
  | agg a =>
    simp only [keyEq] at h
    have hz : ∀ l : List Value, (∀ x ∈ l, rawEq x x = some true) → ((l.zip l).all fun (x, y) => Instr.sameBits 9999 x y) = true := by
      intro l
      induction l with
      | nil => intro _; rfl
      | cons x l ih =>
        intro hx
        simp only [List.zip_cons_cons, List.all_cons, Bool.and_eq_true]
        exact ⟨sameBits_refl_of (hx x (by simp)) _, ih fun y hy => hx y (by simp [hy])⟩
    show (a.size == a.size && (a.toList.zip a.toList).all fun (x, y) => Instr.sameBits 9999 x y) = true
    rw [hz _ (rawValsEq_each (shEq_raw h))]
    simp
  | _ => exact sameBits_refl_of (by simpa [keyEq] using h) _

theorem Found.first (hE : E.Ok P W0) {ly : List Nat} {k : Value} {ents : List MapEntry} {i p : Nat} {e e' : MapEntry} (h1 : ents[p]? = some e) (h2 : ∀ q e', q < p → ents[q]? = some e' → keyEq ly k e'.key = some false)
    (h3 : ents[i]? = some e') (h4 : ∀ q e', q < i → ents[q]? = some e' → keyEq ly k e'.key = some false) (h5 : keyEq ly k e.key = some true) (h6 : keyEq ly k e'.key = some true) : i = p := by
  rcases Nat.lt_trichotomy i p with h | h | h
  · have := h2 i e' h h3; rw [h6] at this; cases this
  · exact h
  · have := h4 p e h h1; rw [h5] at this; cases this

theorem mapUpdate_run (hE : E.Ok P W0) (hr : HR W0 L H w) (hd : HD L H) {t : TypeId} {m k v : AV} {x y z : Value} {H' : AH} (h : amapUpdate E H t m k v = some H') (hm : VR L m x) (hk : VR L k y) (hv : VR L v z) :
    ∃ w', (Instr.mapUpdate t x y z).run P w = .ok () w' ∧ HR W0 L H' w' ∧ HD L H' := by
  unfold amapUpdate at h
  split at h
  · rename_i key elem ti id k' ht hko
    have := keyOf_spec hko hk
    subst this
    obtain ⟨hud, _⟩ := hE.ti _ _ _ ht
    obtain ⟨l, hl, rfl⟩ := hm.map_inv
    split at h
    · rename_i kd ki hkt
      split at h
      · rename_i es hkk hg
        split at h
        · rename_i r hf
          cases h
          obtain ⟨ents, clock, h1, h2⟩ := hr.blk _ _ _ hg hl
          have hgo : (getObj l.b).run P w = .ok (.map ents clock) w := by simp [getObj, Sem.run, h1]
          have hset : ∀ o, (setObj l.b o).run P w = .ok () { w with heap := w.heap.setIfInBounds l.b o } := by intro o; simp [setObj, Sem.run, h1]
          have hlt : l.b < w.heap.size := hr.lt _ _ hl
          have fin : ∀ o, BR L { w with heap := w.heap.setIfInBounds l.b o } l (.map (putA (E.lay key) y v es)) → HR W0 L (H.set id (.map (putA (E.lay key) y v es))) { w with heap := w.heap.setIfInBounds l.b o } := by
            intro o ho
            refine hr.change hg hl rfl rfl rfl (by simp) (fun j hj => ?_) ho
            simp only [Array.getElem?_setIfInBounds]
            rw [if_neg (fun e => hj e.symm)]
          have hc := checkKey_run (w := w) hE hkt hkk false
          obtain ⟨r', h3, h4⟩ := findKey_run (w := w) hE hkt hkk h2 hf
          cases r with
          | none =>
            cases r' with
            | some p => exact h4.elim
            | none =>
              refine ⟨_, ?_, fin (.map (ents.push { key := y, val := z, born := clock }) (clock + 1)) ⟨ents.push { key := y, val := z, born := clock }, clock + 1, by simp [hlt], ?_⟩, hd⟩
              · simp [Instr.mapUpdate, run_under' hud, hgo, hc, h3, hset]
              · simpa using h2.push (born := clock) hv hf
          | some u =>
            cases r' with
            | none => exact h4.elim
            | some p =>
              obtain ⟨i, xv⟩ := p
              obtain ⟨_, e, he, _, hke, hfirst⟩ := h4
              obtain ⟨p, e2, g1, g2, g3, g4⟩ := MR.modify (k := y) hv h2 hf
              have hip : i = p := Found.first hE g1 g3 he hfirst g2 hke
              subst hip
              have he' : ents[i]? = some e := by simpa using he
              refine ⟨_, ?_, fin (.map (ents.modify i fun e => { e with key := y, val := z }) clock) ⟨ents.modify i fun e => { e with key := y, val := z }, clock, by simp [hlt], ?_⟩, hd⟩
              · have hst : (Instr.keyThatStays e.key y).run P w = .ok y w := by
                  simp [Instr.keyThatStays, sameBits_key hke]
                simp [Instr.mapUpdate, run_under' hud, hgo, hc, h3, he', hst, hset]
              · simpa using g4
        · cases h
      · cases h
    · cases h
  · cases h

theorem next_run (hr : HR W0 L H w) (hd : HD L H) {a v : AV} {x : Value} {H' : AH} {ty : TypeId} (h : anext H a = some (v, H')) (ha : VR L a x) :
    ∃ y w', (Instr.next x true ty).run P w = .ok y w' ∧ HR W0 L H' w' ∧ HD L H' ∧ VR L v y := by
  unfold anext at h
  split at h
  · rename_i id
    obtain ⟨l, hl, rfl⟩ := ha.ptr_inv
    split at h
    · rename_i s pos hg
      obtain ⟨h0, h1⟩ := hr.blk _ _ _ hg hl
      have hgo : (getObj l.b).run P w = .ok (.stringIter s pos) w := by simp [getObj, Sem.run, h1]
      split at h
      · rename_i hb
        have hb := blt_true hb
        cases h
        have hset : ∀ o, (setObj l.b o).run P w = .ok () { w with heap := w.heap.setIfInBounds l.b o } := by intro o; simp [setObj, Sem.run, h1]
        refine ⟨.tuple #[.bool true, goInt pos, .int .i32 (Utf8.decode s pos).1], { w with heap := w.heap.setIfInBounds l.b (.stringIter s (pos + (Utf8.decode s pos).2)) }, ?_, ?_, hd, .tup (.cons (.raw _) (.cons (.raw _) (.cons (.raw _) .nil)))⟩
        · simp [Instr.next, h0, hgo, hb, hset]
        · refine hr.change hg hl rfl rfl rfl (by simp) (fun j hj => ?_) ⟨h0, by simp [hr.lt _ _ hl]⟩
          simp only [Array.getElem?_setIfInBounds]
          rw [if_neg (fun e => hj e.symm)]
      · rename_i hb
        cases h
        have hb : ¬ pos < s.size := fun e => by rw [← Nat.blt_eq] at e; rw [e] at hb; cases hb
        exact ⟨.tuple #[.bool false], w, by simp [Instr.next, h0, hgo, hb], hr, hd, .tup (.cons (.raw _) .nil)⟩
    · cases h
  · cases h

end
end Go.Proofs.YtkoahnikmckgnaaGreatDoor.Ws

/- append and copy. -/
namespace Go.Proofs.YtkoahnikmckgnaaGreatDoor.Ws
open Go Go.RowKit

section
variable {P : Program} {W0 : World} {E : Env} {L : LM} {H : AH} {w : World}

theorem cell_heap {w W : World} (h : W.heap = w.heap) (a : Addr) : W.cell? a = w.cell? a := by simp [World.cell?, h]
theorem frozen_heap {w W : World} (h : W.heap = w.heap) (a : Addr) : W.frozen? a = w.frozen? a := by simp [World.frozen?, h]

theorem extract_all (b : ByteArray) : b.extract 0 b.size = b := by
  apply ByteArray.ext
  simp [ByteArray.data_extract]

/-- the source of an append or a copy -/
theorem srcCells_run (hr : HR W0 L H w) {s n : Nat} {new : List AV} {a : AV} {y : Value} (h : srcCells H s a = some (n, new)) (ha : VR L a y) (hn : new.length = n * s) :
    ∃ xs, VRs L new xs ∧ ∀ W : World, W.heap = w.heap → (Builtin.lenOf y).run P W = .ok n W ∧ (Builtin.firstCells s n y).run P W = .ok xs.toArray W := by
  unfold srcCells at h
  split at h
  · cases ha.raw_inv; cases h
    exact ⟨[], .nil, fun W _ => ⟨rfl, rfl⟩⟩
  · obtain ⟨ad, cap, rfl⟩ := ha.emp_inv
    cases h
    refine ⟨[], .nil, fun W _ => ⟨rfl, ?_⟩⟩
    simp [Builtin.firstCells, loadCells, loadCellsFrom]
  · rename_i b
    cases ha.raw_inv; cases h
    refine ⟨_, bytesOfList b, fun W _ => ⟨rfl, ?_⟩⟩
    simp only [Builtin.firstCells, extract_all, Sem.run_pure, Array.toArray_toList]
  · obtain ⟨l, hl, rfl⟩ := ha.slc_inv
    split at h
    · rename_i vs hv
      cases h
      obtain ⟨xs, h1, h2, h3, h4⟩ := loadB_spec hr hl hv
      refine ⟨xs, h1, fun W hW => ⟨rfl, ?_⟩⟩
      have := run_loadCells_list (P := P) W ⟨l.b, l.o + _, none⟩ xs (fun j x hj => by rw [addr_add, cell_heap hW]; exact h4 j x hj)
      rw [h2] at this
      simpa [Builtin.firstCells] using this
    · cases h
  · obtain ⟨l, cap, hl, _, _, _, rfl⟩ := ha.slu_inv
    split at h
    · rename_i vs hv
      cases h
      obtain ⟨xs, h1, h2, h3, h4⟩ := loadB_spec hr hl hv
      refine ⟨xs, h1, fun W hW => ⟨rfl, ?_⟩⟩
      have := run_loadCells_list (P := P) W ⟨l.b, l.o + _, none⟩ xs (fun j x hj => by rw [addr_add, cell_heap hW]; exact h4 j x hj)
      rw [h2] at this
      simpa [Builtin.firstCells] using this
    · cases h
  · cases h

/-- What append asks of its second argument. -/
inductive Src (P : Program) (w : World) (e xt : TypeId) (i : TypeInfo) (x : Value) (n : Nat) (xs : List Value) : Prop
  | plain {d : TypeDesc} (hd : P.underlying xt = some d) (hk : ∀ k, d ≠ .int k)
      (h : ∀ W : World, W.heap = w.heap → (Builtin.lenOf x).run P W = .ok n W ∧ (Builtin.firstCells i.size n x).run P W = .ok xs.toArray W)
  | zeros {k : IntKind} {z : Value} (hd : P.underlying xt = some (.int k)) (hx : x = .int .i64 n) (h1 : n ≤ 1048576) (h2 : n * i.bytes ≤ 35184372088832) (hz : i.zero = some z)
      (hxs : xs = if n * i.size = 0 then [] else (Builtin.zeroCells z.cells n).toList)

theorem append_in {st e xt ty : TypeId} {i : TypeInfo} (hst : P.underlying st = some (.slice e)) (hi : P.info? e = some i) {x : Value} {n : Nat} {xs : List Value} (hs : Src P w e xt i x n xs)
    {base : Option Addr} {sLen sCap : Nat} {w' : World} (hle : sLen + n ≤ sCap)
    (hok : (match base with | some a => storeCells (a.add (sLen * i.size)) xs | none => pure () : Sem Unit).run P w = .ok () w') :
    (Builtin.append_ #[st, xt] ty #[.slice base sLen sCap, x]).run P w = .ok (.slice base (sLen + n) sCap) w' := by
  cases hs with
  | plain hd hk h =>
    rename_i d
    obtain ⟨h1, h2⟩ := h w rfl
    have hz : (match d with | .int _ => true | _ => false) = false := by cases d <;> first | rfl | exact absurd rfl (hk _)
    simp only [Builtin.append_]
    simp only [List.getElem?_toArray, List.getElem?_cons_zero, List.getElem?_cons_succ, Sem.run_bind, run_under' hst, Result.andThen_ok, run_size' hi, run_under' hd, Sem.run_pure, hz]
    cases base with
    | some a => simp only at hok; simp [h1, hle, h2, hok]
    | none => cases hok; simp [h1, hle, h2]
  | zeros hd hx h1 h2 hz hxs =>
    subst hx
    have w1 : IntKind.i64.wrap (n : Int) = (n : Int) := i64_wrap_nat n (by omega)
    have t1 : ¬ (n : Int) * (i.bytes : Int) > 2 ^ 48 := by
      rw [(Int.natCast_mul _ _).symm]
      omega
    have t0 : ¬ (n : Int) < 0 := by omega
    simp only [Builtin.append_]
    simp only [List.getElem?_toArray, List.getElem?_cons_zero, List.getElem?_cons_succ, Sem.run_bind, run_under' hst, Result.andThen_ok, run_size' hi, run_under' hd, Sem.run_pure, if_true, asInt, asIntOf, w1]
    rw [Sem.run_ite, if_neg t0]
    simp only [Sem.run_bind, run_info' hi, Result.andThen_ok]
    rw [Sem.run_ite, if_neg t1]
    simp only [Sem.run_pure, Result.andThen_ok, Int.toNat_natCast, Sem.run_ite, hle, if_true]
    by_cases h0 : n * i.size = 0
    · rw [if_pos h0] at hxs
      subst hxs
      cases base with
      | some a => simp only at hok; simp [h0, hok, hle]
      | none => cases hok; simp [h0, hle]
    · rw [if_neg h0] at hxs
      subst hxs
      cases base with
      | some a => simp only at hok; simp [h0, run_zero' hi hz, hok, hle]
      | none => cases hok; simp [h0, run_zero' hi hz, hle]

theorem append_new {st e xt ty : TypeId} {i : TypeInfo} {z : Value} (hst : P.underlying st = some (.slice e)) (hi : P.info? e = some i) (hz : i.zero = some z) {x : Value} {n : Nat} {xs : List Value} (hs : Src P w e xt i x n xs)
    {base : Option Addr} {sLen sCap : Nat} {old : List Value} (hlt : sCap < sLen + n) (hb : (sLen + n) * (i.bytes + 1) ≤ 35184372088832)
    (hold : ∀ W : World, W.heap = w.heap → (Builtin.firstCells i.size sLen (.slice base sLen sCap)).run P W = .ok old.toArray W) :
    ∃ cap, sLen + n ≤ cap ∧ (Builtin.append_ #[st, xt] ty #[.slice base sLen sCap, x]).run P w =
      .ok (.slice (some ⟨w.heap.size, 0, none⟩) (sLen + n) cap) { w with drawn := w.drawn + 1, heap := w.heap.push (.cells ((old ++ xs).toArray ++ Builtin.zeroCells z.cells (cap - (sLen + n))) e) } := by
  have hneed : sLen + n ≤ 35184372088832 := Nat.le_trans (Nat.le_mul_of_pos_right _ (Nat.succ_pos _)) hb
  have hby : (sLen + n) * i.bytes ≤ 35184372088832 := Nat.le_trans (Nat.mul_le_mul_left _ (Nat.le_succ _)) hb
  have hfit : ¬ (Builtin.nextslicecap (sLen + n) sCap * i.bytes > 2 ^ 48) := by
    have := growslice_fits hlt (Nat.le_trans hby (by decide))
    omega
  have hmax : ¬ ((sLen + n : Nat) : Int) > IntKind.i64.max := by rw [i64_max]; omega
  have hle : ¬ sLen + n ≤ sCap := by omega
  generalize hq : (Question.appendCap (sLen + n) sCap e).cut (w.tape w.drawn (Question.appendCap (sLen + n) sCap e)) = cap
  have hcap : sLen + n ≤ cap := by rw [← hq]; simp [Question.cut]
  refine ⟨cap, hcap, ?_⟩
  have hold' := hold { w with drawn := w.drawn + 1 } rfl
  cases hs with
  | plain hd hk h =>
    rename_i d
    obtain ⟨h1, _⟩ := h w rfl
    obtain ⟨_, h2⟩ := h { w with drawn := w.drawn + 1 } rfl
    have hzz : (match d with | .int _ => true | _ => false) = false := by cases d <;> first | rfl | exact absurd rfl (hk _)
    simp only [Builtin.append_]
    simp only [List.getElem?_toArray, List.getElem?_cons_zero, List.getElem?_cons_succ, Sem.run_bind, run_under' hst, Result.andThen_ok, run_size' hi, run_under' hd, Sem.run_pure, hzz, Bool.false_eq_true, if_false, h1, Sem.run_ite, hle]
    simp only [run_info' hi, Result.andThen_ok, Sem.run_ite, hmax, false_and, if_false, Sem.run_bind, hfit, run_choose, Question.forced, Bool.false_eq_true, hq, run_askRoom, hold', h2, run_zero' hi hz, run_newRow, Sem.run_pure]
    have e1 : (old ++ xs).toArray ++ Builtin.zeroCells z.cells (cap - (sLen + n)) = old.toArray ++ (xs.toArray ++ Builtin.zeroCells z.cells (cap - (sLen + n))) := by apply Array.toList_inj.1; simp only [Array.toList_append, List.append_assoc]
    rw [e1]
    simp
    rfl
  | zeros hd hx h1 h2 hz' hxs =>
    subst hx
    rw [hz] at hz'
    cases hz'
    have w1 : IntKind.i64.wrap (n : Int) = (n : Int) := i64_wrap_nat n (by omega)
    have t1 : ¬ (n : Int) * (i.bytes : Int) > 2 ^ 48 := by
      rw [(Int.natCast_mul _ _).symm]
      omega
    have t0 : ¬ (n : Int) < 0 := by omega
    simp only [Builtin.append_]
    simp only [List.getElem?_toArray, List.getElem?_cons_zero, List.getElem?_cons_succ, Sem.run_bind, run_under' hst, Result.andThen_ok, run_size' hi, run_under' hd, Sem.run_pure, if_true, asInt, asIntOf, w1]
    rw [Sem.run_ite, if_neg t0]
    simp only [Sem.run_bind, run_info' hi, Result.andThen_ok]
    rw [Sem.run_ite, if_neg t1]
    simp only [Sem.run_pure, Result.andThen_ok, Int.toNat_natCast, Sem.run_ite, hle, if_false, hmax, false_and, hfit, Sem.run_bind, run_info' hi, run_choose, Question.forced, Bool.false_eq_true, hq, run_askRoom, hold']
    by_cases h0 : n * i.size = 0
    · rw [if_pos h0] at hxs
      subst hxs
      simp [h0, run_zero' hi hz, run_newRow]
      rfl
    · rw [if_neg h0] at hxs
      subst hxs
      have e1 : (old ++ (Builtin.zeroCells z.cells n).toList).toArray ++ Builtin.zeroCells z.cells (cap - (sLen + n)) = old.toArray ++ (Builtin.zeroCells z.cells n ++ Builtin.zeroCells z.cells (cap - (sLen + n))) := by apply Array.toList_inj.1; simp only [Array.toList_append, List.append_assoc]
      rw [e1]
      simp [h0, run_zero' hi hz, run_newRow]
      rfl

theorem setCells_row (b : Nat) : ∀ (xs : List Value) (o : Nat) (w : World) (c : Array Value) (t : TypeId) (fr : Nat × Nat), w.heap[b]? = some (.cells c t fr) → o + xs.length ≤ c.size →
    ∃ c' : Array Value, (w.setCells b o xs).heap[b]? = some (.cells c' t fr) ∧ c'.size = c.size ∧ ∀ k, c'[k]? = if o ≤ k ∧ k < o + xs.length then xs[k - o]? else c[k]?
  | [], o, w, c, t, fr, h, _ => ⟨c, h, rfl, fun k => by rw [if_neg (by simp)]⟩
  | x :: xs, o, w, c, t, fr, h, hle => by
    simp only [List.length_cons] at hle
    have h1 : (w.setCell ⟨b, o, none⟩ x).heap[b]? = some (.cells (c.setIfInBounds o x) t fr) := by
      simp [World.setCell, Array.getElem?_modify, h]
    obtain ⟨c', h2, h3, h4⟩ := setCells_row b xs (o + 1) _ _ t fr h1 (by simp; omega)
    refine ⟨c', h2, by simpa using h3, fun k => ?_⟩
    rw [h4 k]
    by_cases e : k = o
    · subst e
      rw [if_neg (by omega), if_pos (by simp), Array.getElem?_setIfInBounds_self_of_lt (by omega)]
      simp
    · by_cases e2 : o + 1 ≤ k ∧ k < o + 1 + xs.length
      · rw [if_pos e2, if_pos (by simp; omega), show k - o = (k - (o + 1)) + 1 by omega]
        rfl
      · rw [if_neg e2, if_neg (by simp; omega), Array.getElem?_setIfInBounds_ne (by omega)]

theorem setCells_size (b : Nat) : ∀ (xs : List Value) (o : Nat) (w : World), (w.setCells b o xs).heap.size = w.heap.size
  | [], _, _ => rfl
  | x :: xs, o, w => by simp only [World.setCells]; rw [setCells_size b xs]; simp

theorem setCells_below {B : Nat} {a : World} {b : Nat} (hb : B ≤ b) : ∀ (xs : List Value) (o : Nat) (w : World), Below B a w → Below B a (w.setCells b o xs)
  | [], _, _, h => h
  | x :: xs, o, w, h => setCells_below hb xs (o + 1) _ (h.setCell (p := ⟨b, o, none⟩) hb x)

theorem AH.next_new {H : AH} {b : ABlk} : (H.new b).next = H.next + 1 := rfl

theorem HR.del (h : HR W0 L H w) (id : Nat) : HR W0 L (H.del id) w := h.sub fun j b hj => by
  rw [AH.get_del] at hj
  by_cases e : j = id
  · rw [if_pos e] at hj; cases hj
  · rwa [if_neg e] at hj

theorem HD.del (h : HD L H) (id : Nat) : HD L (H.del id) := h

/-- A new block, made at once in both. -/
theorem HR.fresh (h : HR W0 L H w) (hd : HD L H) {w' : World} (m : Made w w') {b : ABlk} {l : Loc} (hl : l.b = w.heap.size) (hb : BR L w' l b) :
    LE L (L.set H.next l) ∧ HR W0 (L.set H.next l) (H.new b) w' ∧ HD (L.set H.next l) (H.new b) :=
  ⟨LM.le_set (hd.1 _ (Nat.le_refl _)), (h.widen hd b).made m (hd.1 _ (Nat.le_refl _)) (by rw [AH.get_new, if_pos rfl]) hl hb, hd.set_new b l⟩

/-- A block goes on under another name, in the same place. -/
theorem HR.moved (h : HR W0 L H w) (hd : HD L H) {id n : Nat} {cs : T AV} {g g' : Bool} {l : Loc} (hg : H.get id = some (.cells n cs g)) (hl : L id = some l) {off k : Nat} {old new : List AV} {ys xs : List Value}
    (hold : VRs L old ys) (ho1 : allOne old = true) (hys : ∀ (j : Nat) y, ys[j]? = some y → w.cell? ⟨l.b, l.o + off + j, none⟩ = some y) (hk : old.length = k)
    (hnew : VRs L new xs) (hn1 : allOne new = true) (hroom : off + k + new.length ≤ l.e) :
    HR W0 (L.set H.next ⟨l.b, l.o + off, l.e - off⟩) ((H.del id).new (.cells (old ++ new).length (fillT 0 (old ++ new) .e) g')) (w.setCells l.b (l.o + off + k) xs) ∧
    LE L (L.set H.next ⟨l.b, l.o + off, l.e - off⟩) ∧ HD (L.set H.next ⟨l.b, l.o + off, l.e - off⟩) ((H.del id).new (.cells (old ++ new).length (fillT 0 (old ++ new) .e) g')) := by
  have hle : LE L (L.set H.next ⟨l.b, l.o + off, l.e - off⟩) := LM.le_set (hd.1 _ (Nat.le_refl _))
  have hnx : H.next ≠ id := fun e => by have := hd.1 H.next (Nat.le_refl _); rw [e, hl] at this; cases this
  have hnn : (H.del id).next = H.next := rfl
  have getj : ∀ j b, ((H.del id).new (.cells (old ++ new).length (fillT 0 (old ++ new) .e) g')).get j = some b → j ≠ H.next → j ≠ id ∧ H.get j = some b := by
    intro j b hj hjn
    rw [AH.get_new, hnn, if_neg hjn, AH.get_del] at hj
    by_cases e : j = id
    · rw [if_pos e] at hj; cases hj
    · rw [if_neg e] at hj; exact ⟨e, hj⟩
  have lj : ∀ j m, j ≠ H.next → (L.set H.next ⟨l.b, l.o + off, l.e - off⟩) j = some m → L j = some m := by
    intro j m hj hm
    rw [LM.set_at] at hm
    rwa [if_neg hj] at hm
  have nob : ∀ j b m, j ≠ id → H.get j = some b → L j = some m → m.b ≠ l.b := fun j b m hj hb hm e => hj (h.inj j id b _ m l hb hg hm hl e)
  have hlen := hnew.length
  obtain ⟨c, t, fr, h1, h2, h3, h4, h5⟩ := h.blk _ _ _ hg hl
  obtain ⟨c', e1, e2, e3⟩ := setCells_row l.b xs (l.o + off + k) w c t fr h1 (by omega)
  refine ⟨⟨fun j b m hj hm => ?_, fun i j b b' m m' hi hj hm hm' e => ?_, fun j m hm => ?_, fun j m hm => ?_, setCells_below (h.base _ _ hl) _ _ _ h.below⟩, hle, (HD.del hd id).set_new _ _⟩
  · by_cases e : j = H.next
    · subst e
      rw [AH.get_new, hnn, if_pos rfl] at hj
      cases hj
      rw [LM.set_at] at hm
      rw [if_pos rfl] at hm
      cases hm
      refine ⟨c', t, fr, e1, by rw [e2]; exact h2, by simp only [List.length_append]; omega, by simp only [e2]; omega, fun i hi => ?_⟩
      have hv : (old ++ new)[i]? = some (old ++ new)[i] := List.getElem?_eq_getElem hi
      obtain ⟨x, hx, hr⟩ := (hold.append hnew).get i _ hv
      have hone : allOne (old ++ new) = true := by
        have : ∀ (a b : List AV), allOne a = true → allOne b = true → allOne (a ++ b) = true := by
          intro a
          induction a with
          | nil => intro b _ hb; exact hb
          | cons v a ih =>
            intro b ha hb
            simp only [allOne, List.cons_append] at ha ⊢
            cases hv : v.isOne with
            | false => rw [hv] at ha; cases ha
            | true => rw [hv] at ha; exact ih b ha hb
        exact this _ _ ho1 hn1
      refine ⟨_, x, ?_, allOne_spec hone _ (List.getElem_mem hi), hr.mono hle, ?_⟩
      · rw [fillT_get, if_pos ⟨by omega, by omega⟩]
        exact hv
      · rw [e3]
        have hyl := hold.length
        by_cases e : i < k
        · rw [if_neg (by simp only; omega)]
          rw [List.getElem?_append_left (by omega)] at hx
          have := hys i x hx
          simp only [World.cell?, h1] at this
          simpa using this
        · rw [if_pos (by simp only [List.length_append] at hi ⊢; omega)]
          rw [List.getElem?_append_right (by omega)] at hx
          rw [← hx]
          congr 1
          simp only
          omega
    · obtain ⟨hji, hb⟩ := getj j b hj e
      have hm := lj j m e hm
      exact (h.blk j b m hb hm).mono hle (setCells_other _ _ _ _ _ (nob j b m hji hb hm))
  · by_cases ei : i = H.next <;> by_cases ej : j = H.next
    · omega
    · obtain ⟨hji, hb⟩ := getj j b' hj ej
      subst ei
      rw [LM.set_at] at hm
      rw [if_pos rfl] at hm
      cases hm
      exact absurd e.symm (nob j b' m' hji hb (lj j m' ej hm'))
    · obtain ⟨hii, hb⟩ := getj i b hi ei
      subst ej
      rw [LM.set_at] at hm'
      rw [if_pos rfl] at hm'
      cases hm'
      exact absurd e (nob i b m hii hb (lj i m ei hm))
    · exact h.inj i j b b' m m' (getj i b hi ei).2 (getj j b' hj ej).2 (lj i m ei hm) (lj j m' ej hm') e
  · rw [setCells_size]
    by_cases e : j = H.next
    · subst e; rw [LM.set_at] at hm; rw [if_pos rfl] at hm; cases hm; exact h.lt id l hl
    · exact h.lt _ _ (lj j m e hm)
  · by_cases e : j = H.next
    · subst e; rw [LM.set_at] at hm; rw [if_pos rfl] at hm; cases hm; exact h.base id l hl
    · exact h.base _ _ (lj j m e hm)

end
end Go.Proofs.YtkoahnikmckgnaaGreatDoor.Ws
