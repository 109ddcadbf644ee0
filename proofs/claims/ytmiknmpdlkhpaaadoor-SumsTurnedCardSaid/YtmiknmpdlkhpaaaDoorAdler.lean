/- Plain laws of the Adler sum, of the words' sum and of a header's sum, and what the printed functions come to. -/
import Derived.Test.YtmiknmpdlkhpaaaDoorSumsPure
namespace Go.Proofs.YtmiknmpdlkhpaaaDoor.Mor
open Go Go.RowKit Go.Proofs.YtmiknmpdlkhpaaaDoor.PSumsAll Go.Proofs.YtmiknmpdlkhpaaaDoorW.PrintWords Go.Proofs.YtmiknmpdlkhpaaaDoorW.PrintLast Go.Proofs.YtmiknmpdlkhpaaaDoorW.PrintMore

/-! ## Adler -/
def adl (p : Nat × Nat) (l : List Nat) : Nat × Nat := l.foldl (fun p b => ((p.1 + b) % 65521, (p.2 + (p.1 + b) % 65521) % 65521)) p
def raw (p : Nat × Nat) (l : List Nat) : Nat × Nat := l.foldl (fun p b => (p.1 + b, p.2 + (p.1 + b))) p
def adlerMore (a : Nat) (l : List Nat) : Nat := 65536 * (adl (a % 65536 % 65521, a / 65536 % 65521) l).2 + (adl (a % 65536 % 65521, a / 65536 % 65521) l).1
theorem adl_cons (p : Nat × Nat) (b : Nat) (l : List Nat) : adl p (b :: l) = adl ((p.1 + b) % 65521, (p.2 + (p.1 + b) % 65521) % 65521) l := rfl
theorem raw_cons (p : Nat × Nat) (b : Nat) (l : List Nat) : raw p (b :: l) = raw (p.1 + b, p.2 + (p.1 + b)) l := rfl
theorem adl_append (p : Nat × Nat) (l m : List Nat) : adl p (l ++ m) = adl (adl p l) m := by simp [adl]
theorem adl_lt (l : List Nat) : ∀ p : Nat × Nat, p.1 < 65521 → p.2 < 65521 → (adl p l).1 < 65521 ∧ (adl p l).2 < 65521 := by
  induction l with
  | nil => intro p h1 h2; exact ⟨h1, h2⟩
  | cons b l ih => intro p h1 h2; rw [adl_cons]; exact ih _ (Nat.mod_lt _ (by decide)) (Nat.mod_lt _ (by decide))
theorem raw_adl (l : List Nat) : ∀ p : Nat × Nat, adl (p.1 % 65521, p.2 % 65521) l = ((raw p l).1 % 65521, (raw p l).2 % 65521) := by
  induction l with
  | nil => intro p; rfl
  | cons b l ih =>
    intro p
    rw [adl_cons, raw_cons, ← ih]
    have e1 : (p.1 % 65521 + b) % 65521 = (p.1 + b) % 65521 := by omega
    have e2 : (p.2 % 65521 + (p.1 + b) % 65521) % 65521 = (p.2 + (p.1 + b)) % 65521 := by omega
    simp only [e1, e2]
theorem adlerMore_append (a : Nat) (l m : List Nat) : adlerMore a (l ++ m) = adlerMore (adlerMore a l) m := by
  unfold adlerMore
  have h := adl_lt l (a % 65536 % 65521, a / 65536 % 65521) (Nat.mod_lt _ (by decide)) (Nat.mod_lt _ (by decide))
  generalize hq : adl (a % 65536 % 65521, a / 65536 % 65521) l = q at h
  obtain ⟨x, y⟩ := q
  simp only at h
  have e1 : (65536 * y + x) % 65536 % 65521 = x := by omega
  have e2 : (65536 * y + x) / 65536 % 65521 = y := by omega
  simp only [e1, e2]
  rw [adl_append, hq]
theorem tmod_k (a k : Nat) (n : Int) (h : n = (k : Int)) : Int.tmod (a : Int) n = ((a % k : Nat) : Int) := by rw [h]; exact tmod_nat a k
theorem tdiv_k (a k : Nat) (n : Int) (h : n = (k : Int)) : Int.tdiv (a : Int) n = ((a / k : Nat) : Int) := by rw [h]; exact tdiv_nat a k
theorem refAdler_l0 (s : ByteArray) (hs : s.size ≤ big) (l : List Nat) : ∀ (i : Nat) (p : Nat × Nat), At s i l → p.1 < 65521 → p.2 < 65521 →
    Ev (fun k => mortiseref03_AdlerMore.l0 k s (p.1 : Int) (p.2 : Int) (i : Int)) ((65536 * (adl p l).2 + (adl p l).1 : Nat) : Int) := by
  unfold big at hs
  induction l with
  | nil =>
    intro i p h h1 h2
    have hi := h.nil
    refine Ev.step (fun k => ?_) (Ev.now _)
    simp only [mortiseref03_AdlerMore.l0]
    rw [if_neg (by omega)]
    congr 1
    simp only [adl, List.foldl_nil]
    omega
  | cons b l ih =>
    intro i p h h1 h2
    obtain ⟨hi, hb, hn, hb2⟩ := h.cons
    rw [adl_cons]
    refine Ev.step (fun k => ?_) (ih (i + 1) ((p.1 + b) % 65521, (p.2 + (p.1 + b) % 65521) % 65521) hn (Nat.mod_lt _ (by decide)) (Nat.mod_lt _ (by decide)))
    simp only [mortiseref03_AdlerMore.l0]
    rw [if_pos (by omega), if_pos (by omega), hb, w64 (by omega) (by omega)]
    have e1 : (((p.1 : Int) + (b : Int) % 4294967296) % 4294967296) % 65521 = (((p.1 + b) % 65521 : Nat) : Int) := by omega
    rw [e1]
    have e2 : (((p.2 : Int) + (((p.1 + b) % 65521 : Nat) : Int)) % 4294967296) % 65521 = (((p.2 + (p.1 + b) % 65521) % 65521 : Nat) : Int) := by omega
    rw [e2]; rfl
theorem refAdlerMore_ev (a : Nat) (s : ByteArray) (ha : a < 4294967296) (hs : s.size ≤ big) : Ev (fun k => mortiseref03_AdlerMore.f k (a : Int) s) ((adlerMore a (byts s) : Nat) : Int) := by
  unfold mortiseref03_AdlerMore.f adlerMore
  rw [tmod_k a 65536 65536 rfl, tmod_k _ 65521 65521 rfl, tdiv_k a 65536 65536 rfl]
  have e : ((a / 65536 : Nat) : Int) % 4294967296 % 65521 = ((a / 65536 % 65521 : Nat) : Int) := by omega
  rw [e]
  exact refAdler_l0 s hs _ 0 (a % 65536 % 65521, a / 65536 % 65521) (At.start s) (Nat.mod_lt _ (by decide)) (Nat.mod_lt _ (by decide))
theorem refAdler_ev (s : ByteArray) (hs : s.size ≤ big) : Ev (fun k => mortiseref03_Adler.f k s) ((adlerMore 1 (byts s) : Nat) : Int) :=
  Ev.bind (f := fun _ t => some t) (refAdlerMore_ev 1 s (by decide) hs) (Ev.now _)
/-- How great the sums grow within a batch. -/
def Room (i : Nat) (p : Nat × Nat) : Prop := p.1 ≤ 65520 + 255 * i ∧ 2 * p.2 ≤ 131040 * (i + 1) + 255 * (i * (i + 1))
theorem Room.next {i b : Nat} {p : Nat × Nat} (h : Room i p) (hb : b < 256) : Room (i + 1) (p.1 + b, p.2 + (p.1 + b)) := by
  obtain ⟨h1, h2⟩ := h
  have e : (i + 1) * (i + 1 + 1) = i * (i + 1) + 2 * (i + 1) := by
    rw [Nat.add_mul i 1 (i + 1 + 1), Nat.mul_add i (i + 1) 1]; omega
  refine ⟨by simp only; omega, ?_⟩
  simp only
  rw [e]
  omega
theorem Room.fits {i : Nat} {p : Nat × Nat} (h : Room i p) (hi : i ≤ 5000) : p.1 < 4294967296 ∧ p.2 < 4294967296 := by
  obtain ⟨h1, h2⟩ := h
  have : i * (i + 1) ≤ 5000 * 5001 := Nat.mul_le_mul hi (by omega)
  exact ⟨by omega, by omega⟩
theorem adler_l1 (s : ByteArray) (n : Nat) (hn : n ≤ s.size) (h5 : n ≤ 5000) (r : Int) (l : List Nat) : ∀ (i : Nat) (p : Nat × Nat) (q : List Nat), At s i (l ++ q) → i + l.length = n → Room i p →
    Ev (fun k => sums_AdlerMore.l0 k (s.extract n s.size) (((raw p l).1 % 65521 : Nat) : Int) (((raw p l).2 % 65521 : Nat) : Int)) r →
    Ev (fun k => sums_AdlerMore.l1 k s (p.1 : Int) (p.2 : Int) (n : Int) (n : Int) (i : Int)) r := by
  induction l with
  | nil =>
    intro i p q _ hi _ h
    simp only [List.length_nil] at hi
    refine Ev.step (fun k => ?_) h
    simp only [sums_AdlerMore.l1]
    rw [if_neg (by omega), if_pos (by omega), if_pos (by omega), tmod_k p.1 65521 65521 rfl, tmod_k p.2 65521 65521 rfl]
    rfl
  | cons b l ih =>
    intro i p q ha hi hr h
    obtain ⟨hlt, hb, hx, hb2⟩ := At.cons (show At s i (b :: (l ++ q)) from ha)
    simp only [List.length_cons] at hi
    have hnext := hr.next hb2
    have hf := hnext.fits (by omega)
    simp only at hf
    refine Ev.step (fun k => ?_) (ih (i + 1) (p.1 + b, p.2 + (p.1 + b)) q hx (by omega) hnext h)
    simp only [sums_AdlerMore.l1]
    rw [if_pos (by omega), if_pos (by omega), if_pos (by omega), hb, w64 (by omega) (by omega)]
    have e1 : ((p.1 : Int) + (b : Int) % 4294967296) % 4294967296 = ((p.1 + b : Nat) : Int) := by omega
    rw [e1]
    have e2 : ((p.2 : Int) + ((p.1 + b : Nat) : Int)) % 4294967296 = ((p.2 + (p.1 + b) : Nat) : Int) := by omega
    rw [e2]; rfl
theorem byts_extract (s : ByteArray) (n : Nat) : byts (s.extract n s.size) = (byts s).drop n := by
  unfold byts
  rw [ByteArray.data_extract, Array.toList_extract]
  simp only [List.extract_eq_take_drop, List.map_take, List.map_drop]
  rw [List.take_of_length_le]
  simp
theorem or_join (x y : Nat) (hx : x < 65521) (hy : y < 65521) : Go.bits .or .u32 (((y : Int) * 65536) % 4294967296) (x : Int) = ((65536 * y + x : Nat) : Int) := by
  have e : ((y : Int) * 65536) % 4294967296 = ((65536 * y : Nat) : Int) := by omega
  rw [e, u32_or_nat _ _ (by omega) (by omega)]
  congr 1
  have h := Nat.two_pow_add_eq_or_of_lt (i := 16) (b := x) (by omega) y
  simp only [show (2 : Nat) ^ 16 = 65536 from rfl] at h
  exact h.symm
theorem adler_l0 (m : Nat) : ∀ (s : ByteArray) (p : Nat × Nat), s.size ≤ m → p.1 < 65521 → p.2 < 65521 →
    Ev (fun k => sums_AdlerMore.l0 k s (p.1 : Int) (p.2 : Int)) ((65536 * (adl p (byts s)).2 + (adl p (byts s)).1 : Nat) : Int) := by
  induction m with
  | zero =>
    intro s p hm h1 h2
    have e : byts s = [] := List.eq_nil_of_length_eq_zero (by rw [byts_length]; omega)
    rw [e]
    refine Ev.step (fun k => ?_) (Ev.now _)
    simp only [sums_AdlerMore.l0]
    rw [if_neg (by omega), or_join p.1 p.2 h1 h2]; rfl
  | succ m ih =>
    intro s p hm h1 h2
    by_cases h0 : s.size = 0
    · have e : byts s = [] := List.eq_nil_of_length_eq_zero (by rw [byts_length]; omega)
      rw [e]
      refine Ev.step (fun k => ?_) (Ev.now _)
      simp only [sums_AdlerMore.l0]
      rw [if_neg (by omega), or_join p.1 p.2 h1 h2]; rfl
    · obtain ⟨n, hn⟩ : ∃ n : Nat, mn 5000 (s.size : Int) = (n : Int) ∧ n ≤ 5000 ∧ n ≤ s.size ∧ 0 < n := by
        refine ⟨min 5000 s.size, ?_, by omega, by omega, by omega⟩
        unfold mn; split <;> omega
      obtain ⟨e1, e2, e3, e4⟩ := hn
      have hz : (s.extract n s.size).size ≤ m := by
        rw [ByteArray.size_extract]; omega
      have hsp : byts s = (byts s).take n ++ (byts s).drop n := (List.take_append_drop _ _).symm
      have hl : ((byts s).take n).length = n := by rw [List.length_take, byts_length]; omega
      have hadl : adl p (byts s) = adl (((raw p ((byts s).take n)).1 % 65521), ((raw p ((byts s).take n)).2 % 65521)) (byts (s.extract n s.size)) := by
        rw [byts_extract, ← raw_adl, Nat.mod_eq_of_lt h1, Nat.mod_eq_of_lt h2, ← adl_append, List.take_append_drop]
      rw [hadl]
      have hA : At s 0 ((byts s).take n ++ (byts s).drop n) := by rw [← hsp]; exact At.start s
      refine Ev.step (fun k => ?_) (adler_l1 s n e3 e2 _ ((byts s).take n) 0 p ((byts s).drop n) hA (by rw [hl]; omega) ⟨by omega, by omega⟩
        (ih _ ((raw p ((byts s).take n)).1 % 65521, (raw p ((byts s).take n)).2 % 65521) hz (Nat.mod_lt _ (by decide)) (Nat.mod_lt _ (by decide))))
      simp only [sums_AdlerMore.l0]
      rw [if_pos (by omega), e1]; rfl
theorem low16 (a : Nat) (ha : a < 4294967296) : Go.bits .and .u32 (a : Int) 65535 = ((a % 65536 : Nat) : Int) := by
  have h := u32_and_nat a 65535 ha (by decide)
  have e : a &&& 65535 = a % 65536 := Nat.and_two_pow_sub_one_eq_mod a 16
  rw [e] at h
  exact h
theorem adlerMore_ev (a : Nat) (s : ByteArray) (ha : a < 4294967296) : Ev (fun k => sums_AdlerMore.f k (a : Int) s) ((adlerMore a (byts s) : Nat) : Int) := by
  unfold sums_AdlerMore.f adlerMore
  rw [low16 a ha, tmod_k _ 65521 65521 rfl]
  have e : (a : Int) / 65536 = ((a / 65536 : Nat) : Int) := by omega
  rw [e, tmod_k _ 65521 65521 rfl]
  exact adler_l0 s.size s (a % 65536 % 65521, a / 65536 % 65521) (Nat.le_refl _) (Nat.mod_lt _ (by decide)) (Nat.mod_lt _ (by decide))
theorem adler_ev (s : ByteArray) : Ev (fun k => sums_Adler.f k s) ((adlerMore 1 (byts s) : Nat) : Int) :=
  Ev.bind (f := fun _ t => some t) (adlerMore_ev 1 s (by decide)) (Ev.now _)
theorem adlerMore_lt (a : Nat) (l : List Nat) : adlerMore a l < 4294967296 := by
  unfold adlerMore
  have h := adl_lt l (a % 65536 % 65521, a / 65536 % 65521) (Nat.mod_lt _ (by decide)) (Nat.mod_lt _ (by decide))
  omega

/-! ## words -/
def wsum (i : Nat) (acc : Nat) : List Nat → Nat
  | [] => acc
  | b :: l => wsum (i + 1) ((acc + b * 256 ^ (3 - i % 4)) % 4294967296) l
theorem wsum_lt (l : List Nat) : ∀ i acc, acc < 4294967296 → wsum i acc l < 4294967296 := by
  induction l with
  | nil => intro i acc h; exact h
  | cons b l ih => intro i acc h; exact ih _ _ (Nat.mod_lt _ (by decide))
theorem wsum_append (l m : List Nat) : ∀ i acc, wsum i acc (l ++ m) = wsum (i + l.length) (wsum i acc l) m := by
  induction l with
  | nil => intro i acc; rfl
  | cons b l ih => intro i acc; simp only [List.cons_append, wsum, ih, List.length_cons]; congr 1; omega
theorem wsum_shift (l : List Nat) : ∀ i j acc, i % 4 = j % 4 → wsum i acc l = wsum j acc l := by
  induction l with
  | nil => intro i j acc _; rfl
  | cons b l ih => intro i j acc h; simp only [wsum, h]; exact ih _ _ _ (by omega)
theorem wsum_acc (l : List Nat) : ∀ i acc, acc < 4294967296 → wsum i acc l = (acc + wsum i 0 l) % 4294967296 := by
  induction l with
  | nil => intro i acc h; simp only [wsum]; omega
  | cons b l ih =>
    intro i acc h
    simp only [wsum]
    rw [ih _ ((acc + b * 256 ^ (3 - i % 4)) % 4294967296) (Nat.mod_lt _ (by decide)), ih _ ((0 + b * 256 ^ (3 - i % 4)) % 4294967296) (Nat.mod_lt _ (by decide))]
    generalize b * 256 ^ (3 - i % 4) = z
    generalize wsum (i + 1) 0 l = y
    omega
theorem words_join (l m : List Nat) (h : l.length % 4 = 0) : wsum 0 0 (l ++ m) = (wsum 0 0 l + wsum 0 0 m) % 4294967296 := by
  rw [wsum_append, wsum_acc _ _ _ (wsum_lt l 0 0 (by decide)), wsum_shift m (0 + l.length) 0 0 (by omega)]
theorem and3 (i : Nat) (hi : i < 9223372036854775808) : Go.bits .and .i64 (i : Int) 3 = ((i % 4 : Nat) : Int) := by
  have h := bits_mask .i64 63 (by decide) (fun n h0 h1 => by rw [IntKind.wrap_i64]; omega) 2 (by decide) (i : Int) (by omega) (by omega)
  simpa using h
theorem shl_words (b m : Nat) (hb : b < 256) (hm : m < 4) : shl .u32 ((b : Int) % 4294967296) (wrap64 (24 - wrap64 (8 * (m : Int)))) = ((b * 256 ^ (3 - m) : Nat) : Int) := by
  have e : (b : Int) % 4294967296 = (b : Int) := by omega
  rw [e, w64 (n := 8 * (m : Int)) (by omega) (by omega), w64 (by omega) (by omega)]
  unfold shl
  rw [IntKind.wrap_u32]
  match m, hm with
  | 0, _ => simp [IntKind.bits]; omega
  | 1, _ => simp [IntKind.bits]; omega
  | 2, _ => simp [IntKind.bits]; omega
  | 3, _ => simp [IntKind.bits]; omega
theorem words_l0 (s : ByteArray) (hs : s.size ≤ big) (l : List Nat) : ∀ (i acc : Nat), At s i l → acc < 4294967296 →
    Ev (fun k => sums_Words.l0 k s (acc : Int) (s.size : Int) (i : Int)) ((wsum i acc l : Nat) : Int) := by
  unfold big at hs
  induction l with
  | nil =>
    intro i acc h _
    have hi := h.nil
    refine Ev.step (fun k => ?_) (Ev.now _)
    simp only [sums_Words.l0]
    rw [if_neg (by omega)]; rfl
  | cons b l ih =>
    intro i acc h ha
    obtain ⟨hi, hb, hn, hb2⟩ := h.cons
    have hm : i % 4 < 4 := Nat.mod_lt _ (by decide)
    refine Ev.step (fun k => ?_) (ih (i + 1) ((acc + b * 256 ^ (3 - i % 4)) % 4294967296) hn (Nat.mod_lt _ (by decide)))
    simp only [sums_Words.l0]
    rw [and3 i (by omega), hb, shl_words b (i % 4) hb2 hm]
    rw [if_pos (by omega), if_pos (by omega), if_pos (by omega), if_pos (by rw [w64 (n := 8 * _) (by omega) (by omega), w64 (by omega) (by omega)]; omega), w64 (n := (i : Int) + 1) (by omega) (by omega)]
    generalize b * 256 ^ (3 - i % 4) = z
    have e : ((acc : Int) + (z : Int)) % 4294967296 = (((acc + z) % 4294967296 : Nat) : Int) := by omega
    rw [e]; rfl
theorem words_ev (s : ByteArray) (hs : s.size ≤ big) : Ev (fun k => sums_Words.f k s) ((wsum 0 0 (byts s) : Nat) : Int) := by
  unfold sums_Words.f
  exact words_l0 s hs _ 0 0 (At.start s) (by decide)
theorem refWords_l1 (s : ByteArray) (i acc : Nat) (hi : i < s.size) (hs : s.size ≤ big) (r : Int) (d : Nat) : ∀ (j b : Nat), j + d = 3 → b * 256 ^ d < 4294967296 →
    Ev (fun k => mortiseref03_Words.l0 k s (((acc + b * 256 ^ d) % 4294967296 : Nat) : Int) ((i + 1 : Nat) : Int)) r →
    Ev (fun k => mortiseref03_Words.l1 k s (acc : Int) (i : Int) (b : Int) (j : Int)) r := by
  unfold big at hs
  induction d with
  | zero =>
    intro j b hj hb h
    refine Ev.step (fun k => ?_) h
    simp only [mortiseref03_Words.l1]
    rw [if_neg (by omega), w64 (by omega) (by omega)]
    have e : ((acc : Int) + (b : Int)) % 4294967296 = (((acc + b * 256 ^ 0) % 4294967296 : Nat) : Int) := by simp
    rw [e]; rfl
  | succ d ih =>
    intro j b hj hb h
    have e0 : b * 256 ^ (d + 1) = b * 256 * 256 ^ d := by rw [Nat.pow_succ, Nat.mul_assoc, Nat.mul_comm 256]
    rw [e0] at h hb
    have hle : b * 256 ≤ b * 256 * 256 ^ d := Nat.le_mul_of_pos_right _ (Nat.pow_pos (by decide))
    refine Ev.step (fun k => ?_) (ih (j + 1) (b * 256) (by omega) hb h)
    simp only [mortiseref03_Words.l1]
    rw [if_pos (by omega), w64 (by omega) (by omega)]
    have e : ((b : Int) * 256) % 4294967296 = ((b * 256 : Nat) : Int) := by omega
    rw [e]; rfl
theorem refWords_l0 (s : ByteArray) (hs : s.size ≤ big) (l : List Nat) : ∀ (i acc : Nat), At s i l → acc < 4294967296 →
    Ev (fun k => mortiseref03_Words.l0 k s (acc : Int) (i : Int)) ((wsum i acc l : Nat) : Int) := by
  induction l with
  | nil =>
    intro i acc h _
    have hi := h.nil
    refine Ev.step (fun k => ?_) (Ev.now _)
    simp only [mortiseref03_Words.l0]
    rw [if_neg (by omega)]; rfl
  | cons b l ih =>
    intro i acc h ha
    obtain ⟨hi, hb, hn, hb2⟩ := h.cons
    have hm : i % 4 < 4 := Nat.mod_lt _ (by decide)
    have hz : b * 256 ^ (3 - i % 4) < 4294967296 := by
      have : 256 ^ (3 - i % 4) ≤ 256 ^ 3 := Nat.pow_le_pow_right (by decide) (by omega)
      have := Nat.mul_le_mul (show b ≤ 255 by omega) this
      omega
    refine Ev.step (fun k => ?_) (refWords_l1 s i acc hi hs _ (3 - i % 4) (i % 4) b (by omega) hz (ih (i + 1) _ hn (Nat.mod_lt _ (by decide))))
    simp only [mortiseref03_Words.l0]
    rw [if_pos (by omega), if_pos (by omega), hb, tmod_k i 4 4 rfl]
    have e : (b : Int) % 4294967296 = (b : Int) := by omega
    rw [e]
theorem refWords_ev (s : ByteArray) (hs : s.size ≤ big) : Ev (fun k => mortiseref03_Words.f k s) ((wsum 0 0 (byts s) : Nat) : Int) := by
  unfold mortiseref03_Words.f
  exact refWords_l0 s hs _ 0 0 (At.start s) (by decide)

/-! ## a header's sum -/
def outer (s : ByteArray) : Nat → Int
  | 0 => 0
  | i + 1 => outer s i + if i < 148 ∨ 156 ≤ i then bt s (i : Int) else 0
theorem outer_le (s : ByteArray) (i : Nat) : 0 ≤ outer s i ∧ outer s i ≤ 255 * i := by
  induction i with
  | zero => simp [outer]
  | succ i ih =>
    have := bt_range s (i : Int)
    simp only [outer]
    split <;> omega
theorem tar_l0 (s : ByteArray) (hs : s.size = 512) (d : Nat) : ∀ i : Nat, i + d = 512 → Ev (fun k => sums_Tar.l0 k s (256 + outer s i) (i : Int)) (256 + outer s 512, 0) := by
  induction d with
  | zero =>
    intro i hi
    obtain rfl : i = 512 := by omega
    refine Ev.step (fun k => ?_) (Ev.now _)
    simp only [sums_Tar.l0]
    rw [if_neg (by omega)]
  | succ d ih =>
    intro i hi
    have hb := bt_range s (i : Int)
    have ho := outer_le s i
    refine Ev.step (fun k => ?_) (ih (i + 1) (by omega))
    simp only [sums_Tar.l0]
    rw [if_pos (by omega), w64 (n := bt s (i : Int)) (by omega) (by omega), w64 (n := (i : Int) + 1) (by omega) (by omega), w64 (n := 256 + outer s i + bt s (i : Int)) (by omega) (by omega)]
    by_cases h1 : i < 148
    · rw [if_pos (by omega), if_pos (by omega), if_pos (by omega)]
      have e : 256 + outer s i + bt s (i : Int) = 256 + outer s (i + 1) := by simp only [outer]; rw [if_pos (by omega)]; omega
      rw [e]; rfl
    · by_cases h2 : 156 ≤ i
      · rw [if_neg (by omega), if_pos (by omega), if_pos (by omega), if_pos (by omega)]
        have e : 256 + outer s i + bt s (i : Int) = 256 + outer s (i + 1) := by simp only [outer]; rw [if_pos (by omega)]; omega
        rw [e]; rfl
      · rw [if_neg (by omega), if_neg (by omega)]
        have e : 256 + outer s i = 256 + outer s (i + 1) := by simp only [outer]; rw [if_neg (by omega)]; omega
        rw [e]; rfl
def inner (i : Nat) : Int := if i < 148 then 0 else if i < 156 then 32 * ((i : Int) - 148) else 256
theorem inner_in (i : Nat) (h1 : 148 ≤ i) (h2 : i < 156) : inner (i + 1) = inner i + 32 := by
  unfold inner
  repeat' split
  all_goals omega
theorem inner_out (i : Nat) (h : i < 148 ∨ 156 ≤ i) : inner (i + 1) = inner i := by
  unfold inner
  repeat' split
  all_goals omega
theorem refTar_l0 (s : ByteArray) (hs : s.size = 512) (d : Nat) : ∀ i : Nat, i + d = 512 → Ev (fun k => mortiseref03_Tar.l0 k s (inner i + outer s i) (i : Int)) (256 + outer s 512, 0) := by
  induction d with
  | zero =>
    intro i hi
    obtain rfl : i = 512 := by omega
    refine Ev.step (fun k => ?_) (Ev.now _)
    simp only [mortiseref03_Tar.l0]
    rw [if_neg (by omega)]
    simp [inner]
  | succ d ih =>
    intro i hi
    have hb := bt_range s (i : Int)
    have ho := outer_le s i
    have hn : 0 ≤ inner i ∧ inner i ≤ 256 := by unfold inner; split; omega; split <;> omega
    refine Ev.step (fun k => ?_) (ih (i + 1) (by omega))
    simp only [mortiseref03_Tar.l0]
    rw [if_pos (by omega), w64 (n := bt s (i : Int)) (by omega) (by omega), w64 (n := (i : Int) + 1) (by omega) (by omega), w64 (n := inner i + outer s i + bt s (i : Int)) (by omega) (by omega), w64 (n := inner i + outer s i + 32) (by omega) (by omega)]
    by_cases h1 : i < 148
    · rw [if_neg (by omega), if_pos (by omega), if_pos (by omega)]
      have e : inner i + outer s i + bt s (i : Int) = inner (i + 1) + outer s (i + 1) := by
        simp only [outer]; rw [if_pos (by omega)]
        have := inner_out i (by omega)
        omega
      rw [e]; rfl
    · by_cases h2 : 156 ≤ i
      · rw [if_pos (by omega), if_neg (by omega), if_pos (by omega), if_pos (by omega)]
        have e : inner i + outer s i + bt s (i : Int) = inner (i + 1) + outer s (i + 1) := by
          simp only [outer]; rw [if_pos (by omega)]
          have := inner_out i (by omega)
          omega
        rw [e]; rfl
      · rw [if_pos (by omega), if_pos (by omega)]
        have e : inner i + outer s i + 32 = inner (i + 1) + outer s (i + 1) := by
          simp only [outer]; rw [if_neg (by omega)]
          have := inner_in i (by omega) (by omega)
          omega
        rw [e]; rfl
theorem tar_ev (s : ByteArray) : Ev (fun k => sums_Tar.f k s) (if s.size = 512 then (256 + outer s 512, 0) else (0, 1)) := by
  unfold sums_Tar.f
  by_cases h : s.size = 512
  · refine Ev.congr (fun k => by rw [if_pos (by omega)]) ?_
    rw [if_pos h]
    exact tar_l0 s h 512 0 rfl
  · refine Ev.congr (fun k => by rw [if_neg (by omega)]) ?_
    rw [if_neg h]
    exact Ev.now _
theorem refTar_ev (s : ByteArray) : Ev (fun k => mortiseref03_Tar.f k s) (if s.size = 512 then (256 + outer s 512, 0) else (0, 1)) := by
  unfold mortiseref03_Tar.f
  by_cases h : s.size = 512
  · refine Ev.congr (fun k => by rw [if_pos (by omega)]) ?_
    rw [if_pos h]
    exact refTar_l0 s h 512 0 rfl
  · refine Ev.congr (fun k => by rw [if_neg (by omega)]) ?_
    rw [if_neg h]
    exact Ev.now _

/-! ## the document's answers -/
theorem live_ev : Ev (fun k => mortiselaw03_live.f k) true := by
  unfold mortiselaw03_live.f
  refine Ev.bind (a := (0, 1)) (tar_ev _) ?_
  have c1 := crc_ev (⟨#[49, 50, 51, 52, 53, 54, 55, 56, 57]⟩ : ByteArray) (by decide)
  rw [show crcMore 0 (byts (⟨#[49, 50, 51, 52, 53, 54, 55, 56, 57]⟩ : ByteArray)) = 3421780262 from by decide +kernel] at c1
  refine Ev.bind (g := fun _ => sums_Crc.f _) (a := 3421780262) ⟨0, fun _ _ => c1⟩ ?_
  refine Ev.congr (fun _ => if_pos rfl) ?_
  have c2 := adler_ev (⟨#[87, 105, 107, 105, 112, 101, 100, 105, 97]⟩ : ByteArray)
  rw [show adlerMore 1 (byts (⟨#[87, 105, 107, 105, 112, 101, 100, 105, 97]⟩ : ByteArray)) = 300286872 from by decide +kernel] at c2
  refine Ev.bind c2 ?_
  refine Ev.congr (fun _ => if_pos rfl) ?_
  have c3 := words_ev (⟨#[255]⟩ : ByteArray) (by decide)
  rw [show wsum 0 0 (byts (⟨#[255]⟩ : ByteArray)) = 4278190080 from by decide +kernel] at c3
  refine Ev.bind c3 ?_
  refine Ev.congr (fun _ => if_pos rfl) ?_
  exact Ev.now _
end Go.Proofs.YtmiknmpdlkhpaaaDoor.Mor
