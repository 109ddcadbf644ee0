/- Walk of match.Find: for a text of at most 20000 bytes it answers the tokens that the plain function 'find' tells. -/
import Derived.Test.YtgalimhogolbjaaFindE
import Derived.Carry
namespace Go.Proofs.Ytgalimhogolbjaa.Fnd
open Go Go.RowKit Go.Proofs.Ytgalimhogolbjaa.PMatchAll Go.Proofs.YtgalimhogolbjaaW.PrintWords Go.Proofs.YtgalimhogolbjaaW.PrintLast Go.Proofs.YtgalimhogolbjaaW.PrintMore
set_option linter.unusedVariables false
set_option linter.unusedSimpArgs false

/-- The places ahead of i at which three bytes stand. -/
def seen (s : ByteArray) (i : Nat) (k : Key) : List Nat := (List.range i).filter fun j => decide (j + 2 < s.size ∧ tri s j = k)
theorem seen_le (s : ByteArray) (i : Nat) (k : Key) : (seen s i k).length ≤ i := by
  have := List.length_filter_le (fun j => decide (j + 2 < s.size ∧ tri s j = k)) (List.range i)
  simpa [seen] using this
theorem seen_lt (s : ByteArray) (i : Nat) (k : Key) : ∀ p ∈ seen s i k, p < i := by
  intro p hp
  have := (List.mem_filter.1 hp).1
  simpa using this
theorem seen_next (s : ByteArray) (i : Nat) (h : i + 2 < s.size) : seen s (i + 1) = fun q => if q = tri s i then seen s i (tri s i) ++ [i] else seen s i q := by
  funext q
  simp only [seen, List.range_succ, List.filter_append]
  by_cases hq : q = tri s i
  · subst hq
    simp [h]
  · have : tri s i ≠ q := fun e => hq e.symm
    simp [hq, this]
theorem seen_stay (s : ByteArray) (i : Nat) (h : ¬ i + 2 < s.size) : seen s (i + 1) = seen s i := by
  funext q
  simp [seen, List.range_succ, List.filter_append, h]
/-- The longest match for a place. -/
def bst (s : ByteArray) (i : Nat) : Nat × Nat := if i + 2 < s.size then bestF s i 32 (seen s i (tri s i)).reverse (0, 0) else (0, 0)
def tok (s : ByteArray) (i : Nat) : S37 := if (bst s i).1 < 3 then ⟨bt s (i : Int), 0, 0⟩ else ⟨0, ((bst s i).1 : Nat), ((bst s i).2 : Nat)⟩
def adv (s : ByteArray) (i : Nat) : Nat := if (bst s i).1 < 3 then 1 else (bst s i).1
def findF (s : ByteArray) : Nat → Nat → List S37
  | 0, _ => []
  | f + 1, i => if i < s.size then tok s i :: findF s f (i + adv s i) else []
def find (s : ByteArray) : List S37 := findF s (s.size + 1) 0

theorem bestF_le (s : ByteArray) (i : Nat) : ∀ (f : Nat) (l : List Nat) (t : Nat × Nat), t.1 ≤ 258 → t.2 ≤ i → (bestF s i f l t).1 ≤ 258 ∧ (bestF s i f l t).2 ≤ i := by
  intro f
  induction f with
  | zero => intro l t h1 h2; exact ⟨h1, h2⟩
  | succ f ih =>
    intro l t h1 h2
    cases l with
    | nil => exact ⟨h1, h2⟩
    | cons p r =>
      rw [bestF]
      split
      · exact ⟨h1, h2⟩
      · apply ih
        · split
          · exact lng_le s p i
          · exact h1
        · split
          · exact Nat.sub_le _ _
          · exact h2
theorem bst_le (s : ByteArray) (i : Nat) : (bst s i).1 ≤ 258 ∧ (bst s i).2 ≤ i := by
  unfold bst
  split
  · exact bestF_le s i _ _ _ (by simp) (by simp)
  · simp

theorem findF_step (s : ByteArray) (f i : Nat) (h : i < s.size) (hf : 1 ≤ f) : findF s f i = tok s i :: findF s (f - 1) (i + adv s i) := by
  obtain ⟨m, rfl⟩ : ∃ m, f = m + 1 := ⟨f - 1, by omega⟩
  rw [findF, if_pos h]
  rfl
theorem lngF_fit (s : ByteArray) (a b : Nat) : ∀ f n, b + n ≤ s.size → b + lngF s a b f n ≤ s.size := by
  intro f
  induction f with
  | zero => intro n h; exact h
  | succ f ih =>
    intro n h
    rw [lngF]
    split
    · rename_i hc
      exact ih (n + 1) (by omega)
    · exact h
theorem bestF_fit (s : ByteArray) (i : Nat) (hi : i ≤ s.size) : ∀ (f : Nat) (l : List Nat) (t : Nat × Nat), i + t.1 ≤ s.size → i + (bestF s i f l t).1 ≤ s.size := by
  intro f
  induction f with
  | zero => intro l t h; exact h
  | succ f ih =>
    intro l t h
    cases l with
    | nil => exact h
    | cons p r =>
      rw [bestF]
      split
      · exact h
      · apply ih
        split
        · exact lngF_fit s p i 258 0 (by omega)
        · exact h
theorem bst_fit (s : ByteArray) (i : Nat) (hi : i ≤ s.size) : i + (bst s i).1 ≤ s.size := by
  unfold bst
  split
  · exact bestF_fit s i hi _ _ _ (by simpa using hi)
  · simpa using hi

/-- What holds between rounds: the map, the finder, the tokens. -/
structure FInv (w wr : World) (s : ByteArray) (i : Nat) (v : Value) (l : List S37) : Prop where
  seen : Seen wr (w.heap.size + 1) w.heap.size (seen s i)
  fnd : wr.heap[w.heap.size + 1]? = some (.cells #[.string s, .map (some w.heap.size)] 49 (0, 0))
  toks : Kd.R k37 37 wr w.heap.size (fun _ => True) v l
  below : Below w.heap.size w wr
theorem FInv.c0 {w wr : World} {s : ByteArray} {i : Nat} {v : Value} {l : List S37} (h : FInv w wr s i v l) : wr.cell? ⟨w.heap.size + 1, 0, none⟩ = some (.string s) := by
  simp only [World.cell?]; rw [h.fnd]; rfl
theorem FInv.c1 {w wr : World} {s : ByteArray} {i : Nat} {v : Value} {l : List S37} (h : FInv w wr s i v l) : wr.cell? ⟨w.heap.size + 1, 1, none⟩ = some (.map (some w.heap.size)) := by
  simp only [World.cell?]; rw [h.fnd]; rfl
theorem FInv.size {w wr : World} {s : ByteArray} {i : Nat} {v : Value} {l : List S37} (h : FInv w wr s i v l) : w.heap.size + 1 < wr.heap.size := blk_lt h.fnd
theorem FInv.on {w wr w1 : World} {s : ByteArray} {i : Nat} {v : Value} {l : List S37} (h : FInv w wr s i v l) (hb : Below wr.heap.size wr w1) : FInv w w1 s i v l :=
  ⟨h.seen.below hb, blk_below h.fnd hb, Kd.R_below h.toks hb, below_then h.below (by have := h.size; omega) hb⟩
theorem toks_note {wr w1 : World} {b base m : Nat} {v : Value} {l : List S37} (h : Kd.R k37 37 wr b (fun _ => True) v l) {es : Array MapEntry} {clock : Nat} (hm : wr.heap[m]? = some (.map es clock)) (hn : NoteK wr w1 base m) : Kd.R k37 37 w1 b (fun _ => True) v l :=
  Kd.R_mono (Kd.R_step (Kd.R_bound h) (fun k hk hlt => by
    obtain ⟨_, _, _, q, hq, cells, hc⟩ := hk
    have hE : k37.E = [] := rfl
    have hq2 : q = 37 := by simpa [hE] using hq
    subst hq2
    refine hn.block k hlt (fun e => ?_) (.inr fun cs fr hh => ?_)
    · subst e; rw [hm] at hc; cases hc
    · rw [hc] at hh; injection hh with hh; injection hh with _ h2 _; exact absurd h2 (by decide))) (fun _ _ => trivial)
theorem FInv.noted {w wr w1 : World} {s : ByteArray} {i : Nat} {v : Value} {l : List S37} (h : FInv w wr s i v l) (hs : Seen w1 (w.heap.size + 1) w.heap.size (Fnd.seen s (i + 1))) (hn : NoteK wr w1 (w.heap.size + 1) w.heap.size) : FInv w w1 s (i + 1) v l := by
  obtain ⟨es, clock, hm, _⟩ := h.seen.out
  have hb := h.below
  refine ⟨hs, (hn.block _ h.size (by omega) (.inr fun cs fr hh => ?_)).trans h.fnd, toks_note h.toks hm hn, ⟨hn.os.trans hb.os, hn.tape.trans hb.tape, hn.output.trans hb.output, Nat.le_trans hb.size hn.size, fun k hk => ?_⟩⟩
  · rw [h.fnd] at hh; injection hh with hh; injection hh with _ h2 _; exact absurd h2 (by decide)
  · exact (hn.block k (by have := hb.size; omega) (by omega) (.inl (by omega))).trans (hb.block k hk)

theorem FInv.appended {w W w6 : World} {s : ByteArray} {i : Nat} {v v6 : Value} {l l6 : List S37} (h : FInv w W s i v l) (ho : Kd.R k37 37 w6 w.heap.size (fun _ => True) v6 l6) (hb : Below w.heap.size w w6) (hg : W.grownBy w6 v.ownBlock) : FInv w w6 s i v6 l6 := by
  obtain ⟨es, clock, hm, _⟩ := h.seen.out
  refine ⟨h.seen.kept hg (fun he => ?_) (fun b hbv u q hu he => ?_), (hg.block _ h.size (fun he => ?_)).trans h.fnd, ho, hb⟩
  · obtain ⟨cells, hc⟩ := Kd.R_typed h.toks _ he.symm
    rw [hm] at hc; cases hc
  · obtain ⟨cells, hc⟩ := Kd.R_typed h.toks _ hbv
    rcases hu.2 with ⟨rfl, _⟩ | ⟨gg, cap, cur, rfl, _, hh, _⟩
    · simp [Value.ownBlock] at he
    · have : gg = b := by simpa [Value.ownBlock] using he
      subst this
      rw [hc] at hh; injection hh with hh; injection hh with _ h2 _; exact absurd h2 (by decide)
  · obtain ⟨cells, hc⟩ := Kd.R_typed h.toks _ he.symm
    rw [h.fnd] at hc; injection hc with hc; injection hc with _ h2 _; exact absurd h2 (by decide)
theorem box_cell {w : World} {T : Nat} {a b c : Value} {t : TypeId} {fr : Nat × Nat} (h : w.heap[T]? = some (.cells #[a, b, c] t fr)) : w.cell? ⟨T, 1, none⟩ = some b := by
  simp only [World.cell?]; rw [h]; rfl
theorem FInv.box {w wr W w6 : World} {s : ByteArray} {i : Nat} {v : Value} {l : List S37} (h : FInv w wr s i v l) {T : Nat} (hT : wr.heap.size ≤ T) {o : Obj} (hc : W.heap[T]? = some o) (hg : W.grownBy w6 v.ownBlock) : w6.heap[T]? = some o :=
  (hg.block T (blk_lt hc) (fun he => by have := Kd.R_lt h.toks T he.symm; omega)).trans hc

theorem note_call {w wr : World} {s : ByteArray} {i : Nat} {v : Value} {l : List S37} (h : FInv w wr s i v l) (hi : i < s.size) (hs : s.size ≤ 20000) :
    Calls Try.prog 25 #[.pointer (some ⟨w.heap.size + 1, 0, none⟩), .int .i64 (i : Int)] wr fun e w' => e = .returned (.tuple #[]) ∧ FInv w w' s (i + 1) v l := by
  by_cases hi2 : i + 2 < s.size
  · refine (note_any (w.heap.size + 1) w.heap.size (w.heap.size + 1) s i (Fnd.seen s i) wr h.c0 h.c1 hi2 hs h.seen (by have := h.size; omega) (by have := seen_le s i (tri s i); omega)).mono fun e w' ⟨he, hsn, hk⟩ => ⟨he, ?_⟩
    rw [← seen_next s i hi2] at hsn
    exact h.noted hsn hk
  · refine (note_short (w.heap.size + 1) s i wr h.c0 hi2 (by omega) hs).mono fun e w' ⟨he, hw⟩ => ⟨he, ?_⟩
    subst hw
    refine h.noted ?_ (NoteK.refl _ _ _)
    rw [seen_stay s i hi2]
    exact h.seen
theorem best_call {w wr : World} {s : ByteArray} {i : Nat} {v : Value} {l : List S37} (h : FInv w wr s i v l) (hi : i < s.size) (hs : s.size ≤ 20000) :
    Calls Try.prog 24 #[.pointer (some ⟨w.heap.size + 1, 0, none⟩), .int .i64 (i : Int)] wr fun e w' => e = .returned (.agg #[.int .u8 0, .int .i64 ((bst s i).1 : Nat), .int .i64 ((bst s i).2 : Nat)]) ∧ Below wr.heap.size wr w' := by
  unfold bst
  by_cases hi2 : i + 2 < s.size
  · rw [if_pos hi2]
    obtain ⟨A, c, hl, hr⟩ := h.seen.look (tri_ok s i)
    obtain ⟨es, clock, hm, _⟩ := h.seen.out
    have hb := blk_lt hm
    exact best_any (w.heap.size + 1) w.heap.size s i (Fnd.seen s i (tri s i)) A c wr h.c0 h.c1 hi2 (by omega) (seen_lt s i _) (fun W hW => by rw [kAt_tri]; exact hl W (hW.block _ hb)) hr
  · rw [if_neg hi2]
    exact best_none (w.heap.size + 1) 0 s i wr h.c0 hi2 (by omega) (by omega)

set_option maxHeartbeats 8000000 in
set_option maxRecDepth 100000 in
theorem find_any (s : ByteArray) (w : World) (hs : s.size ≤ 20000) :
    Calls Try.prog 14 #[.string s] w fun e w' => ∃ v0_ : Value, e = .returned (v0_) ∧ Kd.R k37 37 w' w.heap.size (fun _ => True) v0_ (find s) ∧ Below w.heap.size w w' := by
  have hmm := @run_makeMap Try.prog
  have hsI : (s.size : Int) ≤ 20000 := by omega
  go_enter Try.func14, Try.ntmps14
  go_wp2_with fail
  have I0 : FInv w ((w.alloc (.map #[] 0)).alloc (.cells #[.string s, .map (some w.heap.size)] 49)) s 0 (.slice none 0 0) [] := by
    have z1 := blk_new w (.map #[] 0)
    have zs : (w.alloc (.map #[] 0)).heap.size = w.heap.size + 1 := by simp
    have z2 := blk_new (w.alloc (.map #[] 0)) (.cells #[.string s, .map (some w.heap.size)] 49)
    rw [zs] at z2
    exact ⟨⟨#[], 0, blk_alloc z1 _, ⟨by simp, by simp, by simp⟩, Nat.lt_succ_self _, ⟨by simp, fun k _ _ => by simp [Fnd.seen], by simp⟩⟩, z2, Kd.R_nil _ _ _ _ _, below_alloc (below_alloc (Below.refl _ _) _) _⟩
  generalize (w.alloc (.map #[] 0)).alloc (.cells #[.string s, .map (some w.heap.size)] 49) = w0 at *
  go_loopw [4, 5] (fun v4 v5 wr => ∃ (i : Nat) (l : List S37) (f : Nat), i ≤ s.size ∧ v5 = .int .i64 i ∧ Fnd.find s = l ++ findF s f i ∧ s.size < i + f ∧ l.length ≤ i ∧ FInv w wr s i v4 l) (fun _ v5 _ => s.size - (intOf v5).toNat)
  case atStart => exact ⟨0, [], s.size + 1, by omega, rfl, rfl, by omega, by simp, I0⟩
  case round =>
    clear I0
    obtain ⟨i, l, f, hi, rfl, hf, hfi, hl, I⟩ := hrel
    have Hf := Lib.hid hf
    clear hf
    have HI := Aside0.mk I
    by_cases hlt : i < s.size
    · have hbl := bst_le s i
      have hbf := bst_fit s i hi
      have hb0 : ∀ h : i < s.size, ((s[i]'h).toNat : Int) = bt s (i : Int) := fun h => by simp [bt, h]
      have Htok := Lib.hid (show tok s i = if (bst s i).1 < 3 then ⟨bt s (i : Int), 0, 0⟩ else ⟨0, ((bst s i).1 : Nat), ((bst s i).2 : Nat)⟩ from rfl)
      have Hadv := Lib.hid (show adv s i = if (bst s i).1 < 3 then 1 else (bst s i).1 from rfl)
      have hbc := best_call I hlt hs
      generalize bst s i = p at *
      obtain ⟨n, d⟩ := p
      dsimp only at hbl hbf Htok Hadv hbc
      by_cases h3 : n < 3
      · go_wp2_with (first | (go_at_call 24; refine hbc.mono ?_; rintro e w1 ⟨rfl, hb1⟩) | ((with_reducible refine gate_builtin (b := .append) (xs := #[.tmp 25, .tmp 27]) rfl ?_); at_builtin; refine Kd.R_append k37 (w0 := w) w.heap.size rfl (.tmp 25) (.tmp 27) 22 37 (.agg #[(.int .u8 0), (.int .i64 0), (.int .i64 0)]) 24 rfl Try.underlying22 info37 rfl (by decide) (by omega) _ l (⟨bt s (i : Int), 0, 0⟩ : S37) [.int .u8 (bt s (i : Int)), .int .i64 0, .int .i64 0] (fun _ => True) (fun _ => False) rfl ?aX ?aP (fun _ hk => hk.elim) ?aF ?aO ?aB ?aS ?aL ?_; (case aX => exact (show Value.slice (some ⟨w1.heap.size + 1, 0, none⟩) 1 1 = _ by simp)); (case aP => exact k37_mkM _ _ _ (⟨bt s (i : Int), 0, 0⟩ : S37)); (case aB => exact below_alloc (below_then HI.out.below HI.out.below.size hb1) _); (case aF => exact (fun _ _ => trivial)); (case aO => exact Kd.R_alloc (HI.out.on hb1).toks _); (case aS => exact Nat.le_trans (below_then HI.out.below HI.out.below.size hb1).size (below_alloc (Below.refl _ _) _).size); (case aL => omega); intro v6 w6 ho hb hg hat; have I6 := Aside0.mk (((HI.out.on hb1).on (below_alloc (Below.refl _ _) _)).appended ho hb hg); have B6 := Aside0.mk (HI.out.box hb1.size (blk_new w1 _) hg); have x1 := box_cell B6.out; clear ho hb hg hat))
        go_loopw [5, 32] (fun v5 v32 wq => ∃ j : Nat, j ≤ 1 ∧ v32 = .int .i64 j ∧ v5 = .int .i64 ((i + j : Nat) : Int) ∧ FInv w wq s (i + j) v6 (l ++ [(⟨bt s (i : Int), 0, 0⟩ : S37)])) (fun _ v32 _ => 1 - (intOf v32).toNat)
        case atStart => exact ⟨0, by omega, rfl, rfl, I6.out⟩
        case round =>
          clear I6 B6 x1
          obtain ⟨j, hj, rfl, rfl, I7⟩ := hrel
          have HI7 := Aside0.mk I7
          clear I7
          by_cases hjm : j < 1
          · have hnc := note_call HI7.out (by omega) hs
            go_wp2_with (first | (go_at_call 25; refine hnc.mono ?_; rintro e w7 ⟨rfl, I8⟩))
            go_roundw
            case rel => exact ⟨j + 1, by omega, by go_num, by go_num, I8⟩
            case measure => simp [intOf]; omega
          · obtain rfl : 1 = j := by omega
            go_wp2_with fail
            go_roundw
            case rel =>
              refine ⟨i + 1, l ++ [(⟨bt s (i : Int), 0, 0⟩ : S37)], f - 1, by omega, by go_num, ?_, by omega, by simp; omega, HI7.out⟩
              rw [Hf.out, findF_step s f i hlt (by omega), Htok.out, Hadv.out, if_pos h3, if_pos h3]
              simp
            case measure => simp [intOf]; omega
      · go_wp2_with (first | (go_at_call 24; refine hbc.mono ?_; rintro e w1 ⟨rfl, hb1⟩) | ((with_reducible refine gate_builtin (b := .append) (xs := #[.tmp 25, .tmp 27]) rfl ?_); at_builtin; refine Kd.R_append k37 (w0 := w) w.heap.size rfl (.tmp 25) (.tmp 27) 22 37 (.agg #[(.int .u8 0), (.int .i64 0), (.int .i64 0)]) 24 rfl Try.underlying22 info37 rfl (by decide) (by omega) _ l (⟨0, (n : Int), (d : Int)⟩ : S37) [.int .u8 0, .int .i64 (n : Int), .int .i64 (d : Int)] (fun _ => True) (fun _ => False) rfl ?aX ?aP (fun _ hk => hk.elim) ?aF ?aO ?aB ?aS ?aL ?_; (case aX => exact (show Value.slice (some ⟨w1.heap.size + 1, 0, none⟩) 1 1 = _ by simp)); (case aP => exact k37_mkM _ _ _ (⟨0, (n : Int), (d : Int)⟩ : S37)); (case aB => exact below_alloc (below_then HI.out.below HI.out.below.size hb1) _); (case aF => exact (fun _ _ => trivial)); (case aO => exact Kd.R_alloc (HI.out.on hb1).toks _); (case aS => exact Nat.le_trans (below_then HI.out.below HI.out.below.size hb1).size (below_alloc (Below.refl _ _) _).size); (case aL => omega); intro v6 w6 ho hb hg hat; have I6 := Aside0.mk (((HI.out.on hb1).on (below_alloc (Below.refl _ _) _)).appended ho hb hg); have B6 := Aside0.mk (HI.out.box hb1.size (blk_new w1 _) hg); have x1 := box_cell B6.out; clear ho hb hg hat))
        go_loopw [5, 32] (fun v5 v32 wq => ∃ j : Nat, j ≤ n ∧ v32 = .int .i64 j ∧ v5 = .int .i64 ((i + j : Nat) : Int) ∧ FInv w wq s (i + j) v6 (l ++ [(⟨0, (n : Int), (d : Int)⟩ : S37)])) (fun _ v32 _ => n - (intOf v32).toNat)
        case atStart => exact ⟨0, by omega, rfl, rfl, I6.out⟩
        case round =>
          clear I6 B6 x1
          obtain ⟨j, hj, rfl, rfl, I7⟩ := hrel
          have HI7 := Aside0.mk I7
          clear I7
          by_cases hjm : j < n
          · have hnc := note_call HI7.out (by omega) hs
            go_wp2_with (first | (go_at_call 25; refine hnc.mono ?_; rintro e w7 ⟨rfl, I8⟩))
            go_roundw
            case rel => exact ⟨j + 1, by omega, by go_num, by go_num, I8⟩
            case measure => simp [intOf]; omega
          · obtain rfl : n = j := by omega
            go_wp2_with fail
            go_roundw
            case rel =>
              refine ⟨i + n, l ++ [(⟨0, (n : Int), (d : Int)⟩ : S37)], f - 1, by omega, by go_num, ?_, by omega, by simp; omega, HI7.out⟩
              rw [Hf.out, findF_step s f i hlt (by omega), Htok.out, Hadv.out, if_neg h3, if_neg h3]
              simp
            case measure => simp [intOf]; omega
    · have hn0 : findF s f i = [] := by
        cases f with
        | zero => rfl
        | succ f => rw [findF, if_neg hlt]
      go_wp2_with fail
      go_ret
      exact ⟨_, rfl, by rw [Hf.out, hn0, List.append_nil]; exact HI.out.toks, HI.out.below⟩
end Go.Proofs.Ytgalimhogolbjaa.Fnd
