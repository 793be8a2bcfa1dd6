/- A part of the proof of a row by an interpreter that is proved sound; no conditions of its own. -/
import Derived.Test.YtpoheolnnbgebaaAbMake
import Derived.MapKept
namespace Ab
open Go Go.MapKept

variable {P : Program}

theorem eqD_same {kt : TypeId} {d : TypeDesc} (hd : P.underlying kt = some d) {k q : D} (hk : keyOk P kt k = true) {z : Bool} (h : eqD k q = some z) {M : Mem} {kv qv : Value} (rk : RelD M k kv) (rq : RelD M q qv) :
    Instr.sameNow d kv qv = some z ∧ (z = true → qv = kv) := by
  unfold keyOk at hk
  rw [hd] at hk
  cases rk <;> cases rq <;> simp [eqD] at h <;> cases d <;> simp at hk
  · obtain ⟨h1, h2⟩ := h
    subst h1
    refine ⟨by simp [Instr.sameNow, h2], fun hz => ?_⟩
    subst hz
    simp at h2
    rw [h2]
  · refine ⟨by simp [Instr.sameNow, h], fun hz => ?_⟩
    subst hz
    rw [bytes_beq] at h
    rw [h]

theorem keyOk_isKey {kt : TypeId} {d : TypeDesc} (hd : P.underlying kt = some d) {k : D} (hk : keyOk P kt k = true) {M : Mem} {kv : Value} (rk : RelD M k kv) : IsKey d kv := by
  unfold keyOk at hk
  rw [hd] at hk
  cases rk <;> cases d <;> simp at hk <;> simp [IsKey, hk]

/-- Keys and values, pair by pair. -/
def RelM (C : Cx) (objs : Store) (es : List (D × A)) (L : List MapEntry) : Prop :=
  es.length = L.length ∧ ∀ (i : Nat) (k : D) (v : A), es[i]? = some (k, v) → ∃ e : MapEntry, L[i]? = some e ∧ RelD C.M k e.key ∧ RelA C objs v e.val

theorem RelM.tail {C : Cx} {objs : Store} {p : D × A} {es : List (D × A)} {e : MapEntry} {L : List MapEntry} (h : RelM C objs (p :: es) (e :: L)) : RelM C objs es L :=
  ⟨by have := h.1; simpa using this, fun i k v hi => h.2 (i + 1) k v hi⟩

theorem find_ok {C : Cx} {objs : Store} {kt : TypeId} {d : TypeDesc} (hd : P.underlying kt = some d) {k : D} (hk : keyOk P kt k = true) {kv : Value} (rk : RelD C.M k kv) : ∀ (es : List (D × A)) (L : List MapEntry) (i0 : Nat), RelM C objs es L →
    (findMp k es = some none → Instr.findNow d kv L i0 = some none) ∧
    ∀ v, findMp k es = some (some v) → ∃ j e, Instr.findNow d kv L i0 = some (some (i0 + j, e.val)) ∧ L[j]? = some e ∧ RelA C objs v e.val ∧ e.key = kv ∧ ∀ x, putMp k x es = (es[j]?).map fun _ => es.set j (k, x) := by
  intro es
  induction es with
  | nil =>
    intro L i0 h
    have : L = [] := by have := h.1; simp at this; exact List.eq_nil_of_length_eq_zero this.symm
    subst this
    exact ⟨fun _ => rfl, fun v h => by simp [findMp] at h⟩
  | cons p es ih =>
    intro L i0 h
    obtain ⟨q, u⟩ := p
    cases L with
    | nil => exact absurd h.1 (by simp)
    | cons e L =>
      obtain ⟨e', he', r1, r2⟩ := h.2 0 q u rfl
      simp at he'; subst he'
      obtain ⟨ih1, ih2⟩ := ih L (i0 + 1) h.tail
      unfold findMp
      cases hq : eqD k q with
      | none => simp
      | some z =>
        obtain ⟨hs, hkq⟩ := eqD_same hd hk hq rk r1
        cases z with
        | true =>
          refine ⟨by simp, fun v hv => ?_⟩
          simp at hv; subst hv
          refine ⟨0, e, by simp [Instr.findNow, hs], rfl, r2, hkq rfl, fun x => by simp [putMp, hq]⟩
        | false =>
          refine ⟨fun hn => by simp [Instr.findNow, hs, ih1 (by simpa using hn)], fun v hv => ?_⟩
          obtain ⟨j, e', h1, h2, h3, h4, h5⟩ := ih2 v (by simpa using hv)
          refine ⟨j + 1, e', by simp [Instr.findNow, hs, h1]; omega, by simpa using h2, h3, h4, fun x => ?_⟩
          simp [putMp, hq, h5 x]
          cases es[j]? <;> simp

theorem mapT_split {t kt e : TypeId} (h : mapT P t = some (kt, e)) : P.underlying t = some (.map kt e) ∧ ((∃ k, P.underlying kt = some (.int k)) ∨ P.underlying kt = some .string) := by
  unfold mapT at h
  split at h
  · rename_i k e' hu
    split at h
    · rename_i k' hk; cases h; exact ⟨hu, .inl ⟨k', hk⟩⟩
    · rename_i hk; cases h; exact ⟨hu, .inr hk⟩
    · cases h
  · cases h

theorem mapOf_ok {C : Cx} {objs : Store} {w : World} (g : Good C objs w) {m : A} {v : Value} (r : RelA C objs m v) {es : List (D × A)} (h : mapOf objs m = some es) :
    ∃ ents : Array MapEntry, RelM C objs es ents.toList ∧ ((v = .map none ∧ ents = #[]) ∨ ∃ b clock, v = .map (some b) ∧ w.heap[b]? = some (.map ents clock)) := by
  unfold mapOf at h
  split at h
  · rename_i id
    split at h
    · rename_i es' hg
      cases h
      have ho := getO_mp hg
      cases r with
      | mp _ b n es2 ho2 hb =>
        rw [ho] at ho2; cases ho2
        obtain ⟨b', n', ents, clock, h1, h2, h3, h4⟩ := g.obj id _ ho
        rw [hb] at h1; cases h1
        refine ⟨ents, ⟨by simpa using h3.symm, fun i k v hi => ?_⟩, .inr ⟨b, clock, rfl, h2⟩⟩
        have hlt : i < ents.size := by have := (List.getElem?_eq_some_iff.1 hi).1; omega
        have := h4 i k v hi
        rw [Array.getD_eq_getD_getElem?, Array.getElem?_eq_getElem hlt] at this
        exact ⟨ents[i], by simp [hlt], this⟩
    · cases h
  · cases h
    cases r
    exact ⟨#[], ⟨rfl, fun i k v hi => by simp at hi⟩, .inl ⟨rfl, rfl⟩⟩
  · cases h

theorem zeroV_ok {C : Cx} {objs : Store} {t : TypeId} {x : A} (h : zeroV P t = some x) : ∃ i z, P.info? t = some i ∧ i.zero = some z ∧ RelA C objs x z := by
  unfold zeroV at h
  cases hi : P.info? t with
  | none => simp [hi] at h
  | some i =>
    simp only [hi, Option.bind_some] at h
    split at h
    · rename_i vs hz
      simp only [Option.some.injEq] at h
      subst h
      refine ⟨i, _, rfl, hz, ?_⟩
      have := RelA.agg' (retag_rel (tagsT P 20 t) _ _ (RelL.map (C := C) (objs := objs) ofLeaf id (fun v => ofLeaf_rel C objs v) vs.toList))
      simpa using this
    · rename_i z _ hz
      have h1 : RelL C objs (retag (tagsT P 20 t) [ofLeaf z]) [z] := retag_rel _ _ _ (.cons (ofLeaf_rel C objs z) (.nil _ _))
      split at h
      · rename_i c hc
        simp only [Option.some.injEq] at h
        subst h
        rw [hc] at h1
        exact ⟨i, z, rfl, hz, h1.head.1⟩
      · cases h
    · cases h

theorem lookupA_ok {C : Cx} {objs : Store} {w : World} (g : Good C objs w) {t kt e : TypeId} (hm : mapT P t = some (kt, e)) {z : A} (hz : zeroV P e = some z) {m : A} {mv kv : Value} (rm : RelA C objs m mv) {k : D} (rk : RelA C objs (.d k) kv) {ok : Bool}
    {y : A} {objs' : Store} (h : lookupA P objs kt z m k ok = some (y, objs')) : objs' = objs ∧ Gives P C objs w (Instr.lookup t mv kv ok) y := by
  obtain ⟨hu, hkt⟩ := mapT_split hm
  obtain ⟨d, hd⟩ : ∃ d, P.underlying kt = some d := by rcases hkt with ⟨k, h⟩ | h <;> exact ⟨_, h⟩
  unfold lookupA at h
  split at h
  case isFalse => cases h
  rename_i hk
  cases rk with
  | d rk =>
  have hik := keyOk_isKey hd hk rk
  split at h
  case h_2 => cases h
  rename_i es hes
  obtain ⟨ents, hrel, hv⟩ := mapOf_ok g rm hes
  obtain ⟨f1, f2⟩ := find_ok hd hk rk es ents.toList 0 hrel
  have hrun : ∀ r : Option (Nat × Value), Instr.findNow d kv ents.toList 0 = some r → (Instr.lookup t mv kv ok).run P w =
      (match r with
       | some (_, v) => .ok (if ok then .tuple #[v, .bool true] else v) w
       | none => ((zeroValue e).run P w).andThen fun v w' => .ok (if ok then .tuple #[v, .bool false] else v) w') := by
    intro r hr
    have hfk := run_findKey (P := P) (w := w) (kt := kt) hd hr
    have hck := fun b => run_checkKey (P := P) (w := w) (kt := kt) hd hik b 9999
    rcases hv with ⟨rfl, rfl⟩ | ⟨b, clock, rfl, hb⟩
    · cases r with
      | none => simp [Instr.lookup, run_underlying hu, Result.andThen, hck, hfk]
      | some r => simp [Instr.findNow] at hr
    · cases r with
      | none => simp [Instr.lookup, run_underlying hu, Result.andThen, run_getObj_map hb, hck, hfk]
      | some r => simp [Instr.lookup, run_underlying hu, Result.andThen, run_getObj_map hb, hck, hfk]
  have htup : ∀ {x : A} {v : Value} (b : Bool), RelA C objs x v → RelA C objs (if ok then .tup [x, .d (.bool b)] else x) (if ok then .tuple #[v, .bool b] else v) := by
    intro x v b hx
    cases ok with
    | true => exact RelA.tup' (.cons hx (.cons (.d (.bool b)) (.nil _ _)))
    | false => exact hx
  split at h
  · rename_i v hf
    simp only [Option.some.injEq, Prod.mk.injEq] at h
    obtain ⟨rfl, rfl⟩ := h
    obtain ⟨j, en, h1, _, h3, _⟩ := f2 v hf
    exact ⟨rfl, _, hrun _ h1, htup true h3⟩
  · rename_i hf
    simp only [Option.some.injEq, Prod.mk.injEq] at h
    obtain ⟨rfl, rfl⟩ := h
    obtain ⟨i, zv, hi, hzv, hzr⟩ := zeroV_ok (C := C) (objs := objs) hz
    refine ⟨rfl, _, ?_, htup false hzr⟩
    rw [hrun _ (f1 hf)]
    simp [zeroValue, typeInfo, hi, hzv]
  · cases h

theorem makeMap_ok {C : Cx} {objs : Store} {w : World} (g : Good C objs w) {dr : Option Nat} (hp : Place objs dr) (t : TypeId) :
    Yields P C objs w (Instr.makeMap t none) (.mp (newO objs dr (.mp [])).1) (newO objs dr (.mp [])).2 := by
  have adv := newO_adv (C := C) (w := w) hp (.mp []) 0 (.map #[] 0)
  have g' := newO_good g hp (.mp []) 0 (.map #[] 0) ⟨w.heap.size, 0, #[], 0, by simp [Cx.put], heap_alloc w _, rfl, fun i k v hi => by simp at hi⟩
  refine ⟨.map (some w.heap.size), _, w.alloc (.map #[] 0), by simp [Instr.makeMap], adv, g', ?_⟩
  exact .mp _ w.heap.size 0 [] (newO_at hp _).1 (by simp [Cx.put])

mutual
theorem shutA_mp {id : Nat} {es : List (D × A)} : ∀ (x : A) {objs : Store}, objs[id]? = some (.mp es) → (shutA objs x)[id]? = some (.mp es)
  | .arr i off len n, objs, h => by
    unfold shutA
    split
    · rename_i sz es fr hg
      have := getO_arr hg
      by_cases hp : i = id
      · subst hp; rw [h] at this; cases this
      · rw [List.getElem?_set_ne hp]; exact h
    · exact h
  | .agg cs, objs, h => by unfold shutA; exact shutAs_mp cs h
  | .d _, objs, h | .nilsl _, objs, h | .nilm, objs, h | .tup _, objs, h | .bp _ _, objs, h | .ep _ _ _ _, objs, h | .cp _, objs, h | .fn _ _ _, objs, h | .mp _, objs, h | .un, objs, h | .top, objs, h => by unfold shutA; exact h
theorem shutAs_mp {id : Nat} {es : List (D × A)} : ∀ (xs : List A) {objs : Store}, objs[id]? = some (.mp es) → (shutAs objs xs)[id]? = some (.mp es)
  | [], objs, h => by unfold shutAs; exact h
  | c :: cs, objs, h => by unfold shutAs; exact shutAs_mp cs (shutA_mp c h)
end

theorem setMp_ok {C : Cx} {objs : Store} {w : World} (g : Good C objs w) {id b n : Nat} {es es1 : List (D × A)} (ho : objs[id]? = some (.mp es)) (hb : C.φ id = some (b, n)) {ents ents' : Array MapEntry} {clock clock' : Nat} (hh : w.heap[b]? = some (.map ents clock))
    (hr : RelM C objs es1 ents'.toList) :
    Adv C objs w C (objs.set id (.mp es1)) { w with heap := w.heap.setIfInBounds b (.map ents' clock') } ∧ Good C (objs.set id (.mp es1)) { w with heap := w.heap.setIfInBounds b (.map ents' clock') } := by
  have hid : id < objs.length := (List.getElem?_eq_some_iff.1 ho).1
  have hbl : b < w.heap.size := (Array.getElem?_eq_some_iff.1 hh).1
  have hoth : ∀ k, k ≠ b → (w.heap.setIfInBounds b (.map ents' clock'))[k]? = w.heap[k]? := fun k hk => by rw [Array.getElem?_setIfInBounds_ne (Ne.symm hk)]
  have adv : Adv C objs w C (objs.set id (.mp es1)) { w with heap := w.heap.setIfInBounds b (.map ents' clock') } := by
    refine ⟨fun _ _ h => h, by simp, fun j x hx => ?_, rfl, rfl, rfl, by simp, fun k hk hn => ?_, fun _ _ h => .inl h, fun j b n hj hb => .inr ⟨j, n, by simpa using hj, hb⟩⟩
    · by_cases hj : j = id
      · subst hj; rw [ho] at hx; cases hx; exact ⟨rfl, es1, by simp [hid]⟩
      · rw [List.getElem?_set_ne (Ne.symm hj), hx]; exact Becomes.refl C j x
    · exact hoth k fun e => hn id _ hid (e ▸ hb)
  refine ⟨adv, set_good g hid rfl adv (fun a v h => ?_) (fun j b2 m hj hjl hb2 => ⟨?_, fun _ => rfl⟩) ⟨b, n, ents', clock', hb, by simp [hbl], by simpa using hr.1.symm, fun i k v hi => ?_⟩⟩
  · have hv := g.seal_ a v h
    have hne : a.block ≠ b := by
      intro e
      rw [← e] at hh
      simp [World.cell?, hh] at hv
    rw [cell_heap (w' := { w with heap := w.heap.setIfInBounds b (.map ents' clock') }) (hoth a.block hne)]
    exact hv
  · refine hoth b2 fun e => ?_
    subst e
    exact hj (g.inj j id _ m _ hjl hid hb2 hb)
  · obtain ⟨e, he, r1, r2⟩ := hr.2 i k v hi
    have he' : ents'[i]? = some e := by simpa using he
    rw [Array.getD_eq_getD_getElem?, he']
    exact ⟨r1, r2.adv adv⟩

theorem put_none {k : D} {v : A} : ∀ es : List (D × A), findMp k es = none → putMp k v es = none
  | [], h => by simp [findMp] at h
  | (q, u) :: es, h => by
    unfold findMp at h
    unfold putMp
    cases hq : eqD k q with
    | none => rfl
    | some z =>
      cases z with
      | true => simp [hq] at h
      | false => simp only [hq] at h ⊢; rw [put_none es h]; rfl

theorem put_new {k : D} {v : A} : ∀ es : List (D × A), findMp k es = some none → putMp k v es = some (es ++ [(k, v)])
  | [], _ => rfl
  | (q, u) :: es, h => by
    unfold findMp at h
    unfold putMp
    cases hq : eqD k q with
    | none => simp [hq] at h
    | some z =>
      cases z with
      | true => simp [hq] at h
      | false => simp only [hq] at h ⊢; rw [put_new es h]; rfl

theorem mapPutA_ok {C : Cx} {objs : Store} {w : World} (g : Good C objs w) {t kt e : TypeId} (hm : mapT P t = some (kt, e)) {id : Nat} {mv kv xv : Value} (rm : RelA C objs (.mp id) mv) {k : D} (rk : RelA C objs (.d k) kv) {x : A} (rx : RelA C objs x xv)
    {y : A} {objs' : Store} (h : mapPutA P objs kt id k x = some (y, objs')) :
    ∃ C' w', (Instr.mapUpdate t mv kv xv).run P w = .ok () w' ∧ Adv C objs w C' objs' w' ∧ Good C' objs' w' ∧ y = .top := by
  obtain ⟨hu, hkt⟩ := mapT_split hm
  obtain ⟨d, hd⟩ : ∃ d, P.underlying kt = some d := by rcases hkt with ⟨k, h⟩ | h <;> exact ⟨_, h⟩
  unfold mapPutA at h
  split at h
  case isFalse => cases h
  rename_i hk
  obtain ⟨hk, hflat⟩ := hk
  split at h
  case h_2 => cases h
  rename_i es hg
  have ho := getO_mp hg
  split at h
  case h_2 => cases h
  rename_i v hv
  split at h
  case h_2 => cases h
  rename_i es1 hput
  simp only [Option.some.injEq, Prod.mk.injEq] at h
  obtain ⟨rfl, rfl⟩ := h
  obtain ⟨C1, s1, rv⟩ := exA_ok x hflat g rx hv
  cases rk with
  | d rk =>
  have hik := keyOk_isKey hd hk rk
  cases rm with
  | mp _ b n es2 ho2 hb =>
  rw [ho] at ho2; cases ho2
  have rk1 : RelD C1.M k kv := rk.mono s1.adv.M
  obtain ⟨hφ1, es', ho1⟩ := s1.adv.bec id _ ho
  have hes : es' = es := by
    have := shutA_mp (id := id) (es := es) x ho
    rw [ho1] at this; cases this; rfl
  subst hes
  obtain ⟨b', n', ents, clock, h1, h2, h3, h4⟩ := s1.good.obj id _ ho1
  rw [s1.phi, hb] at h1; cases h1
  have hrel : RelM C1 (shutA objs x) es' ents.toList := ⟨by simpa using h3.symm, fun i k v hi => by
    have hlt : i < ents.size := by have := (List.getElem?_eq_some_iff.1 hi).1; omega
    have := h4 i k v hi
    rw [Array.getD_eq_getD_getElem?, Array.getElem?_eq_getElem hlt] at this
    exact ⟨ents[i], by simp [hlt], this⟩⟩
  obtain ⟨f1, f2⟩ := find_ok hd hk rk1 es' ents.toList 0 hrel
  have hck := fun b => run_checkKey (P := P) (w := w) (kt := kt) hd hik b 9999
  have hid : id < (shutA objs x).length := (List.getElem?_eq_some_iff.1 ho1).1
  have hb1 : C1.φ id = some (b, n) := by rw [s1.phi]; exact hb
  -- what is written
  have main : ∀ (ents' : Array MapEntry) (clock' : Nat), RelM C1 (shutA objs x) es1 ents'.toList → (Instr.mapUpdate t (.map (some b)) kv xv).run P w = .ok () { w with heap := w.heap.setIfInBounds b (.map ents' clock') } →
      ∃ C' w', (Instr.mapUpdate t (.map (some b)) kv xv).run P w = .ok () w' ∧ Adv C objs w C' ((shutA objs x).set id (.mp es1)) w' ∧ Good C' ((shutA objs x).set id (.mp es1)) w' ∧ (A.top = A.top) := by
    intro ents' clock' hr' hrun
    obtain ⟨adv, g'⟩ := setMp_ok s1.good ho1 hb1 h2 (clock' := clock') hr'
    exact ⟨C1, _, hrun, s1.adv.trans adv, g', rfl⟩
  cases hf : findMp k es' with
  | none => rw [put_none es' hf] at hput; cases hput
  | some r =>
    cases r with
    | none =>
      rw [put_new es' hf] at hput
      cases hput
      have hfk := run_findKey (P := P) (w := w) (kt := kt) hd (f1 hf)
      refine main (ents.push { key := kv, val := xv, born := clock }) (clock + 1) ?_ ?_
      · refine ⟨by simp [h3], fun i q u hi => ?_⟩
        rcases Nat.lt_or_ge i es'.length with hlt | hge
        · rw [List.getElem?_append_left hlt] at hi
          obtain ⟨e', q1, q2⟩ := hrel.2 i q u hi
          refine ⟨e', ?_, q2⟩
          rw [Array.toList_push, List.getElem?_append_left (by simp; omega)]
          exact q1
        · rw [List.getElem?_append_right hge] at hi
          have hz : i - es'.length = 0 := by
            have := (List.getElem?_eq_some_iff.1 hi).1
            simp at this; omega
          rw [hz] at hi
          simp at hi
          obtain ⟨rfl, rfl⟩ := hi
          refine ⟨{ key := kv, val := xv, born := clock }, ?_, rk1, rv⟩
          rw [Array.toList_push, List.getElem?_append_right (by simp; omega)]
          simp [show i - ents.size = 0 from by omega]
      · simp [Instr.mapUpdate, run_underlying hu, Result.andThen, run_getObj_map h2, hck, hfk, run_setObj_map _ h2]
    | some u =>
      obtain ⟨j, en, q1, q2, q3, q4, q5⟩ := f2 u hf
      have hfk := run_findKey (P := P) (w := w) (kt := kt) hd q1
      rw [q5 v] at hput
      have hjl : j < es'.length := by
        have := (List.getElem?_eq_some_iff.1 q2).1
        simp at this; omega
      rw [List.getElem?_eq_getElem hjl] at hput
      simp only [Option.map_some, Option.some.injEq] at hput
      subst hput
      rw [Nat.zero_add] at hfk
      refine main (ents.modify j fun e => { e with key := kv, val := xv }) clock ?_ ?_
      · refine ⟨by simp [h3], fun i q u hi => ?_⟩
        by_cases hij : j = i
        · subst hij
          rw [List.getElem?_set_self hjl] at hi
          cases hi
          refine ⟨{ en with key := kv, val := xv }, ?_, rk1, rv⟩
          rw [Array.getElem?_toList] at q2
          rw [Array.getElem?_toList, Array.getElem?_modify, if_pos rfl, q2]
          rfl
        · rw [List.getElem?_set_ne hij] at hi
          obtain ⟨e', p1, p2⟩ := hrel.2 i q u hi
          refine ⟨e', ?_, p2⟩
          rw [Array.getElem?_toList] at p1
          rw [Array.getElem?_toList, Array.getElem?_modify, if_neg hij, p1]
      · have hkey : ((ents[j]?).map (·.key)).getD kv = kv := by
          rw [← Array.getElem?_toList, q2]; simp [q4]
        have hkeep := run_keyThatStays (P := P) (w := w) hik
        simp only [Instr.mapUpdate, Sem.run_bind, run_underlying hu, Result.andThen, run_getObj_map h2, hck, hfk, hkey, hkeep, run_setObj_map _ h2]

end Ab
