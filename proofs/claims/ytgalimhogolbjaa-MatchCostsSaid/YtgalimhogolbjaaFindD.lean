/- The finder's map: each three bytes lead to the places where they stood; a look-up, and 'm[k] = append(m[k], i)'. -/
import Derived.Test.YtgalimhogolbjaaFindC
import Derived.ChangeMaps5
namespace Go.Proofs.Ytgalimhogolbjaa.Fnd
open Go Go.RowKit Go.Proofs.YtgalimhogolbjaaW.PrintWords Go.Proofs.YtgalimhogolbjaaW.PrintLast Go.Proofs.YtgalimhogolbjaaW.PrintMore
open Go.ChangeMaps (setBlock heap_setBlock_same heap_setBlock_other modify_eq_set)
open Go.WideElems (findIdx_born findIdx_arr modify_last set_self)
set_option linter.unusedVariables false
set_option linter.unusedSimpArgs false

abbrev Key := Nat × Nat × Nat
def Tri (k : Key) : Prop := k.1 < 256 ∧ k.2.1 < 256 ∧ k.2.2 < 256
def kV (k : Key) : Value := keyV (k.1 : Int) (k.2.1 : Int) (k.2.2 : Int)
theorem kV_inj {k k' : Key} (h : kV k = kV k') : k = k' := by
  obtain ⟨a, b, c⟩ := k
  obtain ⟨a', b', c'⟩ := k'
  have h2 := keyV_inj h
  dsimp only at h2
  simp only [Prod.mk.injEq]
  omega
theorem keyOf_kV {k : Key} (h : Tri k) : ∃ l, keyOf Try.prog 54 (kV k) = some l :=
  keyOf_keyV _ _ _ (by have := h.1; omega) (by have := h.2.1; omega) (by have := h.2.2; omega)
def ints (l : List Nat) : List Value := nums .i64 (l.map fun (p : Nat) => (p : Int))
theorem ints_length (l : List Nat) : (ints l).length = l.length := by simp [ints, nums]
theorem ints_snoc (l : List Nat) (x : Nat) : ints (l ++ [x]) = ints l ++ [.int .i64 (x : Int)] := by simp [ints, nums]
abbrev Own (w : World) (base : Nat) (v : Value) (l : List Nat) : Prop := w.ownsRow base 3 1 v l.length (ints l)

/-- What the entries say. -/
structure Entries (w : World) (base : Nat) (C : Key → List Nat) (l : List MapEntry) : Prop where
  each : ∀ e ∈ l, ∃ k, Tri k ∧ e.key = kV k ∧ Own w base e.val (C k)
  rest : ∀ k, Tri k → (∀ e ∈ l, e.key ≠ kV k) → C k = []
  apart : ∀ x ∈ l, ∀ y ∈ l, x.key ≠ y.key → x.val.ownBlock = none ∨ x.val.ownBlock ≠ y.val.ownBlock
/-- Block m is a map that leads from each three bytes to their places. -/
structure Seen (w : World) (base m : Nat) (C : Key → List Nat) : Prop where
  out : ∃ es clock, w.heap[m]? = some (.map es clock) ∧ MapKept.Stamped es clock ∧ m < base ∧ Entries w base C es.toList

theorem Entries.kept {w w' : World} {base : Nat} {C : Key → List Nat} {l : List MapEntry} (h : Entries w base C l) {row : Option Nat} (hg : w.grownBy w' row) (hr : ∀ e ∈ l, e.val.ownBlock = none ∨ e.val.ownBlock ≠ row) : Entries w' base C l :=
  ⟨fun e he => by obtain ⟨k, h1, h2, h3⟩ := h.each e he; exact ⟨k, h1, h2, h3.kept hg (hr e he)⟩, h.rest, h.apart⟩
theorem Seen.kept {w w' : World} {base m : Nat} {C : Key → List Nat} (h : Seen w base m C) {row : Option Nat} (hg : w.grownBy w' row) (hm : some m ≠ row) (hr : ∀ b, row = some b → ∀ v l, Own w base v l → v.ownBlock ≠ some b) : Seen w' base m C := by
  obtain ⟨es, clock, h1, h2, h3, h4⟩ := h.out
  refine ⟨es, clock, (hg.block m (blk_lt h1) hm).trans h1, h2, h3, h4.kept hg fun e he => ?_⟩
  obtain ⟨k, _, _, ho⟩ := h4.each e he
  cases row with
  | none => cases e.val.ownBlock <;> simp
  | some b => exact .inr (hr b rfl _ _ ho)
theorem Seen.below {w w' : World} {base m : Nat} {C : Key → List Nat} (h : Seen w base m C) (hb : Below w.heap.size w w') : Seen w' base m C :=
  h.kept (grown_of_below hb none) (by simp) (by simp)

theorem grown_setBlock {w : World} {b : Nat} {es : Array MapEntry} {clock : Nat} (hb : w.heap[b]? = some (.map es clock)) (o : Obj) : w.grownBy (setBlock w b o) (some b) :=
  ⟨rfl, rfl, rfl, by simp [setBlock], fun k _ hk => heap_setBlock_other hb o (fun e => hk (by rw [e]))⟩

theorem zeroSlice (u : World) : (zeroValue 41).run Try.prog u = .ok (.slice none 0 0) u := by kernel_rfl

theorem key_unique {l : List MapEntry} (hn : (l.map (·.key)).Nodup) {x y : MapEntry} (hx : x ∈ l) (hy : y ∈ l) (h : x.key = y.key) : x = y := by
  induction l with
  | nil => cases hx
  | cons a l ih =>
    simp only [List.map_cons, List.nodup_cons] at hn
    obtain ⟨hn1, hn2⟩ := hn
    rcases List.mem_cons.1 hx with ex | hx1
    · rcases List.mem_cons.1 hy with ey | hy1
      · rw [ex, ey]
      · have hm : a.key ∈ l.map (·.key) := List.mem_map.2 ⟨y, hy1, by rw [← ex]; exact h.symm⟩
        exact absurd hm hn1
    · rcases List.mem_cons.1 hy with ey | hy1
      · have hm : a.key ∈ l.map (·.key) := List.mem_map.2 ⟨x, hx1, by rw [← ey]; exact h⟩
        exact absurd hm hn1
      · exact ih hn2 hx1 hy1

theorem mem_set_key {l : List MapEntry} (hn : (l.map (·.key)).Nodup) {j : Nat} {e0 : MapEntry} (hj : l[j]? = some e0) {x e : MapEntry} (he : e ∈ l.set j x) : e = x ∨ (e ∈ l ∧ e.key ≠ e0.key) := by
  obtain ⟨i, hi, rfl⟩ := List.getElem_of_mem he
  simp only [List.length_set] at hi
  rw [List.getElem_set]
  split
  · exact .inl rfl
  · rename_i hne
    refine .inr ⟨List.getElem_mem hi, fun hk => hne ?_⟩
    have hjl : j < l.length := by
      rcases Nat.lt_or_ge j l.length with h | h
      · exact h
      · rw [List.getElem?_eq_none h] at hj; cases hj
    have he0 : l[j] = e0 := by rw [List.getElem?_eq_getElem hjl] at hj; exact Option.some.inj hj
    have hp := List.pairwise_iff_getElem.1 hn
    rcases Nat.lt_trichotomy i j with h | h | h
    · exact (hp i j (by simpa using hi) (by simpa using hjl) h (by simp only [List.getElem_map]; rw [hk, he0])).elim
    · exact h.symm
    · exact (hp j i (by simpa using hjl) (by simpa using hi) h (by simp only [List.getElem_map]; rw [hk, he0])).elim

/-- A look-up: the same in every world in which the map's block is the same. -/
theorem Seen.look {w : World} {base m : Nat} {C : Key → List Nat} (h : Seen w base m C) {k : Key} (hk : Tri k) :
    ∃ A c, (∀ W : World, W.heap[m]? = w.heap[m]? → (Instr.lookup 47 (.map (some m)) (kV k) false).run Try.prog W = .ok (.slice A (C k).length c) W) ∧ ReadsInt w .i64 A (C k).length ((C k).map fun (p : Nat) => (p : Int)) := by
  obtain ⟨es, clock, h1, h2, h3, h4⟩ := h.out
  obtain ⟨kl, hkey⟩ := keyOf_kV hk
  have hkeys : ∀ e ∈ es.toList, ∃ l, keyOf Try.prog 54 e.key = some l := fun e he => by
    obtain ⟨k', t', e', _⟩ := h4.each e he
    rw [e']; exact keyOf_kV t'
  by_cases hex : ∃ e ∈ es.toList, e.key = kV k
  · obtain ⟨e0, he0, hke⟩ := hex
    obtain ⟨k', t', e', ho⟩ := h4.each e0 he0
    obtain rfl : k' = k := kV_inj (e'.symm.trans hke)
    obtain ⟨A, c, hv, hr⟩ := own_reads (xs := (C k').map fun (p : Nat) => (p : Int)) ho
    refine ⟨A, c, fun W hW => ?_, hr⟩
    have hb : W.heap[m]? = some (.map es clock) := hW.trans h1
    rcases lawK.find W hkey es.toList hkeys with ⟨_, hno⟩ | ⟨j, e1, hf, hj, hk1⟩
    · exact absurd hke (hno e0 he0)
    · have hsame : e1 = e0 := by
        have hnd := h2.2.2
        have m1 : e1 ∈ es.toList := List.mem_of_getElem? hj
        exact key_unique hnd m1 he0 (hk1.trans hke.symm)
      subst hsame
      simp [Instr.lookup, run_underlying Try.underlying47, MapKept.run_getObj_map hb, lawK.check W _ hkey, hf, hv, Result.andThen]
  · have hno : ∀ e ∈ es.toList, e.key ≠ kV k := fun e he hh => hex ⟨e, he, hh⟩
    rw [h4.rest k hk hno]
    refine ⟨none, 0, fun W hW => ?_, rfl, by simp, fun hp => absurd hp (by simp)⟩
    have hb : W.heap[m]? = some (.map es clock) := hW.trans h1
    rcases lawK.find W hkey es.toList hkeys with ⟨hf, _⟩ | ⟨j, e1, _, hj, hk1⟩
    · simp [Instr.lookup, run_underlying Try.underlying47, MapKept.run_getObj_map hb, lawK.check W _ hkey, hf, zeroSlice, Result.andThen]
    · exact absurd hk1 (hno e1 (List.mem_of_getElem? hj))

/-- 'm[k] = append(m[k], ..)': the entry is opened; what is stored behind an append is found there. -/
theorem Seen.entry {w : World} {base m : Nat} {C : Key → List Nat} (h : Seen w base m C) {k : Key} (hk : Tri k) :
    ∃ (v0 : Value) (st : Nat) (w1 : World), (Instr.mapEntry 47 (.map (some m)) (kV k)).run Try.prog w = .ok (.tuple #[v0, goInt st]) w1 ∧ w.grownBy w1 (some m) ∧ w1.heap.size = w.heap.size ∧ Own w1 base v0 (C k) ∧
      ∀ (w2 : World) (v' : Value) (l' : List Nat), w1.grownBy w2 v0.ownBlock → Own w2 base v' l' → l' ≠ [] → (v'.ownBlock = v0.ownBlock ∨ v'.ownBlock = some w1.heap.size ∨ ∃ g, v'.ownBlock = some g ∧ w1.heap.size ≤ g) →
        ∃ w3, (Instr.entryStore 47 (.map (some m)) (goInt st) v').run Try.prog w2 = .ok () w3 ∧ Seen w3 base m (fun q => if q = k then l' else C q) ∧ w2.grownBy w3 (some m) := by
  obtain ⟨es, clock, h1, h2, h3, h4⟩ := h.out
  obtain ⟨kl, hkey⟩ := keyOf_kV hk
  obtain ⟨s1, s2, s3⟩ := h2
  have hkeys : ∀ e ∈ es.toList, ∃ l, keyOf Try.prog 54 e.key = some l := fun e he => by
    obtain ⟨k', t', e', _⟩ := h4.each e he
    rw [e']; exact keyOf_kV t'
  have hne : ∀ {W : World} {v : Value} {l : List Nat}, Own W base v l → v.ownBlock ≠ some m := fun ho he => by
    have := own_base ho m he
    omega
  have hmlt : m < w.heap.size := blk_lt h1
  rcases lawK.find w hkey es.toList hkeys with ⟨hf, hno⟩ | ⟨j, e0, hf, hj, hk1⟩
  · -- a new key
    have hC : C k = [] := h4.rest k hk hno
    have hg1 := grown_setBlock h1 (.map (es.push ⟨kV k, .slice none 0 0, clock⟩) (clock + 1))
    refine ⟨.slice none 0 0, clock, setBlock w m (.map (es.push ⟨kV k, .slice none 0 0, clock⟩) (clock + 1)), ?_, hg1, by simp [setBlock], by rw [hC]; exact own_nil _ _ _ _, ?_⟩
    · simp [Instr.mapEntry, run_underlying Try.underlying47, MapKept.run_getObj_map h1, lawK.check w false hkey, hf, zeroSlice, MapKept.run_setObj_map _ h1, Result.andThen, setBlock]
    · intro w2 v' l' hg2 ho' hl' hloc
      have hb1 := heap_setBlock_same h1 (.map (es.push ⟨kV k, .slice none 0 0, clock⟩) (clock + 1))
      have hw2 : w2.heap[m]? = some (.map (es.push ⟨kV k, .slice none 0 0, clock⟩) (clock + 1)) := (hg2.block m (by simp [setBlock]; exact hmlt) (by simp [Value.ownBlock])).trans hb1
      have hidx : (es.push ⟨kV k, .slice none 0 0, clock⟩).findIdx? (fun e => ((e.born : Nat) : Int) == ((clock : Nat) : Int)) = some es.size := by
        rw [findIdx_arr]
        have := findIdx_born (l := (es.push ⟨kV k, .slice none 0 0, clock⟩).toList) (j := es.size) (e0 := ⟨kV k, .slice none 0 0, clock⟩) (by
          simp only [Array.toList_push, List.map_append, List.map_cons, List.map_nil]
          refine List.nodup_append.2 ⟨s2, by simp, fun a ha c hc e1 => ?_⟩
          simp only [List.mem_singleton] at hc
          obtain ⟨x, hx, rfl⟩ := List.mem_map.1 ha
          have := s1 x hx
          omega) (by simp)
        exact this
      have hmod : (es.push ⟨kV k, .slice none 0 0, clock⟩).modify es.size (fun e => { e with val := v' }) = es.push ⟨kV k, v', clock⟩ := by
        apply Array.ext'
        rw [Array.toList_modify, Array.toList_push, Array.toList_push, ← Array.length_toList, modify_last]
      have hg3 := grown_setBlock hw2 (.map (es.push ⟨kV k, v', clock⟩) (clock + 1))
      refine ⟨setBlock w2 m (.map (es.push ⟨kV k, v', clock⟩) (clock + 1)), ?_, ⟨es.push ⟨kV k, v', clock⟩, clock + 1, heap_setBlock_same hw2 _, ⟨?_, ?_, ?_⟩, h3, ?_, ?_, ?_⟩, hg3⟩
      · simp [Instr.entryStore, MapKept.run_getObj_map hw2, asInt, asIntOf, goInt, hidx, hmod, MapKept.run_setObj_map _ hw2, Result.andThen, setBlock]
      · intro x hx
        simp only [Array.toList_push, List.mem_append, List.mem_singleton] at hx
        rcases hx with hx | rfl
        · have := s1 x hx; omega
        · simp
      · simp only [Array.toList_push, List.map_append, List.map_cons, List.map_nil]
        refine List.nodup_append.2 ⟨s2, by simp, fun a ha c hc e1 => ?_⟩
        simp only [List.mem_singleton] at hc
        obtain ⟨x, hx, rfl⟩ := List.mem_map.1 ha
        have := s1 x hx
        omega
      · simp only [Array.toList_push, List.map_append, List.map_cons, List.map_nil]
        refine List.nodup_append.2 ⟨s3, by simp, fun a ha c hc e1 => ?_⟩
        simp only [List.mem_singleton] at hc
        obtain ⟨x, hx, rfl⟩ := List.mem_map.1 ha
        exact hno x hx (e1.trans hc)
      · intro e he
        simp only [Array.toList_push, List.mem_append, List.mem_singleton] at he
        rcases he with he | rfl
        · obtain ⟨k', t', e', ho⟩ := h4.each e he
          have hkk : k' ≠ k := fun hh => hno e he (by rw [e', hh])
          refine ⟨k', t', e', ?_⟩
          rw [if_neg hkk]
          exact ((ho.kept hg1 (.inr (hne ho))).kept hg2 (by cases e.val.ownBlock <;> simp [Value.ownBlock])).kept hg3 (.inr (hne (ho.kept hg1 (.inr (hne ho)))))
        · refine ⟨k, hk, rfl, ?_⟩
          rw [if_pos rfl]
          exact ho'.kept hg3 (.inr (hne ho'))
      · intro k' t' hall
        have hkk : k' ≠ k := fun hh => hall ⟨kV k, v', clock⟩ (by simp) (by rw [hh])
        rw [if_neg hkk]
        exact h4.rest k' t' fun e he => hall e (by simp [he])
      · have hnew : ∀ e ∈ es.toList, e.val.ownBlock = none ∨ e.val.ownBlock ≠ v'.ownBlock := fun e he => by
          obtain ⟨k', t', e', ho⟩ := h4.each e he
          cases hb : e.val.ownBlock with
          | none => exact .inl rfl
          | some b =>
            right
            have hlt := own_lt ho b hb
            have hs : (setBlock w m (.map (es.push ⟨kV k, .slice none 0 0, clock⟩) (clock + 1))).heap.size = w.heap.size := by simp [setBlock]
            intro hbv
            rcases hloc with h5 | h5 | ⟨g, h5, h6⟩
            · rw [h5] at hbv; simp [Value.ownBlock] at hbv
            · rw [h5, hs] at hbv; injection hbv with hbv; omega
            · rw [h5] at hbv; injection hbv with hbv; omega
        intro x hx y hy hxy
        simp only [Array.toList_push, List.mem_append, List.mem_singleton] at hx hy
        rcases hx with hx | rfl
        · rcases hy with hy | rfl
          · exact h4.apart x hx y hy hxy
          · exact hnew x hx
        · rcases hy with hy | rfl
          · rcases hnew y hy with h5 | h5
            · rw [h5]
              cases hvb : v'.ownBlock with
              | none => exact .inl rfl
              | some b => exact .inr (by simp)
            · exact .inr fun hh => h5 hh.symm
          · exact absurd rfl hxy
  · -- a key that is there
    have hmem : e0 ∈ es.toList := List.mem_of_getElem? hj
    obtain ⟨k0, t0, e0k, ho0⟩ := h4.each e0 hmem
    obtain rfl : k0 = k := kV_inj (e0k.symm.trans hk1)
    have hj' : es[j]? = some e0 := by simpa using hj
    have hsame : es.modify j (fun e => { e with key := kV k0 }) = es := by
      apply Array.ext'
      rw [Array.toList_modify, modify_eq_set _ _ _ _ hj]
      have : ({ e0 with key := kV k0 } : MapEntry) = e0 := by rw [← hk1]
      rw [this]
      exact set_self _ _ _ hj
    have hg1 := grown_setBlock h1 (.map es clock)
    refine ⟨e0.val, e0.born, setBlock w m (.map es clock), ?_, hg1, by simp [setBlock], ho0.kept hg1 (.inr (hne ho0)), ?_⟩
    · simp [Instr.mapEntry, run_underlying Try.underlying47, MapKept.run_getObj_map h1, lawK.check w false hkey, hf, hj', hk1, lawK.stays w hkey, hsame, MapKept.run_setObj_map _ h1, Result.andThen, setBlock]
    · intro w2 v' l' hg2 ho' hl' hloc
      have hw2 : w2.heap[m]? = some (.map es clock) := (hg2.block m (by simp [setBlock]; exact hmlt) (fun he => hne ho0 he.symm)).trans (heap_setBlock_same h1 _)
      have hidx : es.findIdx? (fun e => ((e.born : Nat) : Int) == ((e0.born : Nat) : Int)) = some j := by
        rw [findIdx_arr]
        exact findIdx_born s2 hj
      have hset : (es.modify j (fun e => { e with val := v' })).toList = es.toList.set j { e0 with val := v' } := by
        rw [Array.toList_modify, modify_eq_set _ _ _ _ hj]
      have hg3 := grown_setBlock hw2 (.map (es.modify j (fun e => { e with val := v' })) clock)
      have hmk : (es.modify j (fun e => { e with val := v' })).toList.map (·.key) = es.toList.map (·.key) := by
        rw [hset, List.map_set]
        exact set_self _ _ _ (by rw [List.getElem?_map, hj]; rfl)
      have hmb : (es.modify j (fun e => { e with val := v' })).toList.map (·.born) = es.toList.map (·.born) := by
        rw [hset, List.map_set]
        exact set_self _ _ _ (by rw [List.getElem?_map, hj]; rfl)
      have hold : ∀ e ∈ es.toList, e.key ≠ e0.key → ∀ {l : List Nat}, Own w base e.val l → Own (setBlock w2 m (.map (es.modify j (fun e => { e with val := v' })) clock)) base e.val l := fun e he hek l ho => by
        have o1 := ho.kept hg1 (.inr (hne ho))
        have o2 := o1.kept hg2 (h4.apart e he e0 hmem hek)
        exact o2.kept hg3 (.inr (hne o2))
      refine ⟨setBlock w2 m (.map (es.modify j (fun e => { e with val := v' })) clock), ?_, ⟨es.modify j (fun e => { e with val := v' }), clock, heap_setBlock_same hw2 _, ⟨?_, by rw [hmb]; exact s2, by rw [hmk]; exact s3⟩, h3, ?_, ?_, ?_⟩, hg3⟩
      · simp [Instr.entryStore, MapKept.run_getObj_map hw2, asInt, asIntOf, goInt, hidx, MapKept.run_setObj_map _ hw2, Result.andThen, setBlock]
      · intro x hx
        rw [hset] at hx
        rcases mem_set_key s3 hj hx with rfl | ⟨hx, _⟩
        · exact s1 e0 hmem
        · exact s1 x hx
      · intro e he
        rw [hset] at he
        rcases mem_set_key s3 hj he with rfl | ⟨he, hek⟩
        · refine ⟨k0, hk, hk1, ?_⟩
          rw [if_pos rfl]
          exact ho'.kept hg3 (.inr (hne ho'))
        · obtain ⟨k', t', e', ho⟩ := h4.each e he
          have hkk : k' ≠ k0 := fun hh => hek (by rw [e', hh, hk1])
          refine ⟨k', t', e', ?_⟩
          rw [if_neg hkk]
          exact hold e he hek ho
      · intro k' t' hall
        by_cases hkk : k' = k0
        · subst hkk
          have hin : ({ e0 with val := v' } : MapEntry) ∈ (es.modify j (fun e => { e with val := v' })).toList := by
            rw [hset]
            exact List.mem_of_getElem? (i := j) (by
              rw [List.getElem?_set_self]
              rcases Nat.lt_or_ge j es.toList.length with h | h
              · exact h
              · rw [List.getElem?_eq_none h] at hj; cases hj)
          exact absurd (show ({ e0 with val := v' } : MapEntry).key = kV k' from hk1) (hall _ hin)
        · rw [if_neg hkk]
          refine h4.rest k' t' fun e he hek => ?_
          have hne0 : e.key ≠ e0.key := fun hh => hkk (kV_inj (hek.symm.trans (hh.trans hk1)))
          have hin : e ∈ (es.modify j (fun e => { e with val := v' })).toList := by
            rw [hset]
            obtain ⟨i, hi, rfl⟩ := List.getElem_of_mem he
            have hij : j ≠ i := fun hh => by
              subst hh
              rw [List.getElem?_eq_getElem hi] at hj
              exact hne0 (by rw [Option.some.inj hj])
            exact List.mem_of_getElem? (i := i) (by rw [List.getElem?_set_ne hij, List.getElem?_eq_getElem hi])
          exact hall e hin hek
      · have hnew : ∀ e ∈ es.toList, e.key ≠ e0.key → e.val.ownBlock = none ∨ e.val.ownBlock ≠ v'.ownBlock := fun e he hek => by
          obtain ⟨k', t', e', ho⟩ := h4.each e he
          cases hb : e.val.ownBlock with
          | none => exact .inl rfl
          | some b =>
            right
            have hlt := own_lt ho b hb
            have hs : (setBlock w m (.map es clock)).heap.size = w.heap.size := by simp [setBlock]
            intro hbv
            rcases hloc with h5 | h5 | ⟨g, h5, h6⟩
            · rcases h4.apart e he e0 hmem hek with h7 | h7
              · rw [h7] at hb; cases hb
              · exact h7 (by rw [hb, ← h5]; exact hbv)
            · rw [h5, hs] at hbv; injection hbv with hbv; omega
            · rw [h5] at hbv; injection hbv with hbv; omega
        intro x hx y hy hxy
        rw [hset] at hx hy
        rcases mem_set_key s3 hj hx with rfl | ⟨hx, hxk⟩
        · rcases mem_set_key s3 hj hy with rfl | ⟨hy, hyk⟩
          · exact absurd rfl hxy
          · rcases hnew y hy hyk with h5 | h5
            · rw [h5]
              cases hvb : v'.ownBlock with
              | none => exact .inl rfl
              | some b => exact .inr (by simp)
            · exact .inr fun hh => h5 hh.symm
        · rcases mem_set_key s3 hj hy with rfl | ⟨hy, hyk⟩
          · exact hnew x hx hxk
          · exact h4.apart x hx y hy hxy
end Go.Proofs.Ytgalimhogolbjaa.Fnd
