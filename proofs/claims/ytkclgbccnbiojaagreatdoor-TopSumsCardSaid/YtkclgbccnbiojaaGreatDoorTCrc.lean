/- Plain laws of the CRC: half a byte at a time and bit by bit are the same register; it is even; bits turned within 32 side by side are told. No program in sight. -/
namespace Go.Proofs.YtkclgbccnbiojaaGreatDoor.Mor
/-- One bit's step of the register. -/
def stp (x : Nat) : Nat := x / 2 ^^^ (if x % 2 = 1 then 3988292384 else 0)
def stp4 (x : Nat) : Nat := stp (stp (stp (stp x)))
def stp8 (x : Nat) : Nat := stp4 (stp4 x)
/-- The register behind bytes. -/
def reg (c : Nat) (l : List Nat) : Nat := l.foldl (fun c b => stp8 (c ^^^ b)) c
def flip (c : Nat) : Nat := c ^^^ 4294967295
def crcMore (c : Nat) (l : List Nat) : Nat := flip (reg (flip c) l)

theorem xor_lt {a b : Nat} (ha : a < 4294967296) (hb : b < 4294967296) : a ^^^ b < 4294967296 := Nat.xor_lt_two_pow (n := 32) ha hb
theorem xlc (a b c : Nat) : a ^^^ (b ^^^ c) = b ^^^ (a ^^^ c) := by rw [← Nat.xor_assoc, Nat.xor_comm a b, Nat.xor_assoc]
theorem half_xor (a b : Nat) : (a ^^^ b) / 2 = a / 2 ^^^ b / 2 := by
  have := Nat.shiftRight_xor_distrib (a := a) (b := b) (i := 1)
  simpa [Nat.shiftRight_eq_div_pow] using this
theorem stp_lt {x : Nat} (h : x < 4294967296) : stp x < 4294967296 := by
  unfold stp
  refine xor_lt (by omega) ?_
  split <;> omega
theorem stp4_lt {x : Nat} (h : x < 4294967296) : stp4 x < 4294967296 := stp_lt (stp_lt (stp_lt (stp_lt h)))
theorem stp8_lt {x : Nat} (h : x < 4294967296) : stp8 x < 4294967296 := stp4_lt (stp4_lt h)
theorem stp_xor (a b : Nat) : stp (a ^^^ b) = stp a ^^^ stp b := by
  unfold stp
  rw [half_xor]
  have h := Nat.xor_mod_two_eq_one (a := a) (b := b)
  by_cases ha : a % 2 = 1 <;> by_cases hb : b % 2 = 1
  · have e : a / 2 ^^^ 3988292384 ^^^ (b / 2 ^^^ 3988292384) = a / 2 ^^^ b / 2 ^^^ (3988292384 ^^^ 3988292384) := by simp only [Nat.xor_assoc, xlc, Nat.xor_comm]
    rw [if_pos ha, if_pos hb, e, if_neg (by simp [h, ha, hb]), Nat.xor_self]
  · rw [if_pos ha, if_neg hb, if_pos (by simp [h, ha, hb])]; simp only [Nat.xor_zero]; simp only [Nat.xor_assoc, xlc, Nat.xor_comm]
  · rw [if_neg ha, if_pos hb, if_pos (by simp [h, ha, hb])]; simp only [Nat.xor_zero]; simp only [Nat.xor_assoc]
  · rw [if_neg ha, if_neg hb, if_neg (by simp [h, ha, hb])]; simp only [Nat.xor_zero]
theorem stp4_xor (a b : Nat) : stp4 (a ^^^ b) = stp4 a ^^^ stp4 b := by simp only [stp4, stp_xor]
theorem stp8_xor (a b : Nat) : stp8 (a ^^^ b) = stp8 a ^^^ stp8 b := by simp only [stp8, stp4_xor]
theorem stp_even {x : Nat} (h : x % 2 = 0) : stp x = x / 2 := by simp [stp, h]
theorem stp4_low {x : Nat} (h : x % 16 = 0) : stp4 x = x / 16 := by
  unfold stp4
  rw [stp_even (x := x) (by omega), stp_even (x := x / 2) (by omega), stp_even (x := x / 2 / 2) (by omega), stp_even (x := x / 2 / 2 / 2) (by omega)]
  omega
theorem stp8_low {x : Nat} (h : x % 256 = 0) : stp8 x = x / 256 := by
  unfold stp8
  rw [stp4_low (x := x) (by omega), stp4_low (x := x / 16) (by omega)]
  omega
theorem split16 (x : Nat) : x = (x / 16 * 16) ^^^ (x % 16) := by
  have h := Nat.two_pow_add_eq_or_of_lt (i := 4) (b := x % 16) (Nat.mod_lt _ (by decide)) (x / 16)
  have h2 : (x / 16 * 16) ^^^ (x % 16) = (x / 16 * 16) ||| (x % 16) := by
    apply Nat.eq_of_testBit_eq
    intro i
    rw [Nat.testBit_xor, Nat.testBit_or]
    by_cases hi : i < 4
    · have : (x / 16 * 16).testBit i = false := by
        rw [show x / 16 * 16 = (x / 16) <<< 4 from by rw [Nat.shiftLeft_eq]]
        rw [Nat.testBit_shiftLeft]; simp; omega
      rw [this]; simp
    · have : (x % 16).testBit i = false := by
        rw [show (16 : Nat) = 2 ^ 4 from rfl, Nat.testBit_mod_two_pow]; simp; omega
      rw [this]; simp
  rw [h2]
  have h3 : 2 ^ 4 * (x / 16) + x % 16 = x := by omega
  rw [h3] at h
  rw [show x / 16 * 16 = 2 ^ 4 * (x / 16) from by omega]
  exact h
/-- The table of half a byte. -/
def half : List Nat := [0, 498536548, 997073096, 651767980, 1994146192, 1802195444, 1303535960, 1342533948, 3988292384, 4027552580, 3604390888, 3412177804, 2607071920, 2262029012, 2685067896, 3183342108]
theorem half_all : ∀ j : Fin 16, half.getD j.val 0 = stp4 j.val := by decide
theorem half_stp4 (x : Nat) : x / 16 ^^^ half.getD (x % 16) 0 = stp4 x := by
  have h := half_all ⟨x % 16, Nat.mod_lt _ (by decide)⟩
  simp only at h
  rw [h]
  have e : stp4 x = stp4 (x / 16 * 16) ^^^ stp4 (x % 16) := by rw [← stp4_xor, ← split16]
  rw [e, stp4_low (x := x / 16 * 16) (by omega)]
  congr 1
  omega
theorem half_lt (j : Nat) : half.getD j 0 < 4294967296 := by
  by_cases h : j < 16
  · have := half_all ⟨j, h⟩
    simp only at this
    rw [this]
    exact stp4_lt (by omega)
  · rw [List.getD_eq_getElem?_getD, List.getElem?_eq_none (by simp [half]; omega)]; simp
/-- One bit's step of the definition: the register and the byte's rest. -/
def refStep (p : Nat × Nat) : Nat × Nat := (if p.1 % 2 ≠ p.2 % 2 then p.1 / 2 ^^^ 3988292384 else p.1 / 2, p.2 / 2)
def refSteps : Nat → Nat × Nat → Nat × Nat
  | 0, p => p
  | k + 1, p => refStep (refSteps k p)
def stps : Nat → Nat → Nat
  | 0, x => x
  | k + 1, x => stp (stps k x)
theorem refStep_stp (p : Nat × Nat) : (refStep p).1 ^^^ (refStep p).2 = stp (p.1 ^^^ p.2) := by
  obtain ⟨r, b⟩ := p
  simp only [refStep, stp, half_xor]
  have h := Nat.xor_mod_two_eq_one (a := r) (b := b)
  by_cases ha : r % 2 = 1 <;> by_cases hb : b % 2 = 1
  · have : r % 2 = b % 2 := by omega
    simp [this, h, hb]
  · have hne : r % 2 ≠ b % 2 := by omega
    rw [if_pos hne, if_pos (by simp [h, ha, hb])]
    simp [Nat.xor_assoc, xlc, Nat.xor_comm]
  · have hne : r % 2 ≠ b % 2 := by omega
    rw [if_pos hne, if_pos (by simp [h, ha, hb])]
    simp [Nat.xor_assoc, xlc, Nat.xor_comm]
  · have : r % 2 = b % 2 := by omega
    simp [this, h, hb]
theorem refSteps_stps (k : Nat) (p : Nat × Nat) : (refSteps k p).1 ^^^ (refSteps k p).2 = stps k (p.1 ^^^ p.2) := by
  induction k with
  | zero => rfl
  | succ k ih => rw [refSteps, refStep_stp, ih]; rfl
theorem refSteps_snd (k : Nat) (p : Nat × Nat) : (refSteps k p).2 = p.2 / 2 ^ k := by
  induction k with
  | zero => simp [refSteps]
  | succ k ih => rw [refSteps]; simp only [refStep]; rw [ih, Nat.div_div_eq_div_mul, Nat.pow_succ]
theorem refSteps_eight (r b : Nat) (hb : b < 256) : (refSteps 8 (r, b)).1 = stp8 (r ^^^ b) := by
  have h := refSteps_stps 8 (r, b)
  rw [refSteps_snd, Nat.div_eq_of_lt (by simpa using hb), Nat.xor_zero] at h
  rw [h]; rfl
theorem refStep_lt {p : Nat × Nat} (h : p.1 < 4294967296) : (refStep p).1 < 4294967296 := by
  simp only [refStep]
  split
  · exact xor_lt (by omega) (by decide)
  · omega
theorem refSteps_lt (k : Nat) {p : Nat × Nat} (h : p.1 < 4294967296) : (refSteps k p).1 < 4294967296 := by
  induction k with
  | zero => exact h
  | succ k ih => exact refStep_lt ih

/-! the register over texts -/
theorem reg_nil (c : Nat) : reg c [] = c := rfl
theorem reg_cons (c b : Nat) (l : List Nat) : reg c (b :: l) = reg (stp8 (c ^^^ b)) l := rfl
theorem reg_append (c : Nat) (l m : List Nat) : reg c (l ++ m) = reg (reg c l) m := by simp [reg]
theorem reg_snoc (c b : Nat) (l : List Nat) : reg c (l ++ [b]) = stp8 (reg c l ^^^ b) := by rw [reg_append]; rfl
theorem reg_lt (l : List Nat) : ∀ {c : Nat}, c < 4294967296 → (∀ b ∈ l, b < 256) → reg c l < 4294967296 := by
  induction l with
  | nil => intro c h _; exact h
  | cons b l ih =>
    intro c h hl
    rw [reg_cons]
    have := hl b (by simp)
    exact ih (stp8_lt (xor_lt h (by omega))) fun x hx => hl x (by simp [hx])
theorem flip_lt {c : Nat} (h : c < 4294967296) : flip c < 4294967296 := xor_lt h (by decide)
theorem flip_flip (c : Nat) : flip (flip c) = c := by unfold flip; rw [Nat.xor_assoc, Nat.xor_self, Nat.xor_zero]
theorem crcMore_lt {c : Nat} {l : List Nat} (h : c < 4294967296) (hl : ∀ b ∈ l, b < 256) : crcMore c l < 4294967296 := flip_lt (reg_lt l (flip_lt h) hl)
theorem crcMore_append (c : Nat) (l m : List Nat) : crcMore c (l ++ m) = crcMore (crcMore c l) m := by
  unfold crcMore; rw [reg_append, flip_flip]

/-! exclusive or -/
def xors (l m : List Nat) : List Nat := List.zipWith (fun a b => a ^^^ b) l m
theorem reg_xors : ∀ (l m : List Nat) (c d : Nat), l.length = m.length → reg (c ^^^ d) (xors l m) = reg c l ^^^ reg d m
  | [], [], c, d, _ => rfl
  | a :: l, b :: m, c, d, h => by
    simp only [List.length_cons, Nat.add_right_cancel_iff] at h
    have e : xors (a :: l) (b :: m) = (a ^^^ b) :: xors l m := rfl
    rw [e, reg_cons, reg_cons, reg_cons, ← reg_xors l m _ _ h, ← stp8_xor]
    congr 2
    simp only [xlc, Nat.xor_comm]
  | [], _ :: _, _, _, h => by simp at h
  | _ :: _, [], _, _, h => by simp at h
theorem xors_length (l m : List Nat) (h : l.length = m.length) : (xors l m).length = l.length := by simp [xors, h]
theorem crc_even (a b c : List Nat) (hb : a.length = b.length) (hc : a.length = c.length) :
    crcMore 0 (xors (xors a b) c) = (crcMore 0 a ^^^ crcMore 0 b) ^^^ crcMore 0 c := by
  unfold crcMore
  have e : flip 0 = flip 0 ^^^ flip 0 ^^^ flip 0 := by rw [Nat.xor_self, Nat.zero_xor]
  have h1 : reg (flip 0) (xors (xors a b) c) = reg (flip 0) a ^^^ reg (flip 0) b ^^^ reg (flip 0) c := by
    rw [← reg_xors a b _ _ hb, ← reg_xors _ c _ _ (by rw [xors_length _ _ hb, hc]), ← e]
  rw [h1]
  unfold flip
  have x1 : ∀ x y z f : Nat, (x ^^^ f) ^^^ (y ^^^ f) ^^^ (z ^^^ f) = (x ^^^ y ^^^ z) ^^^ f := by
    intro x y z f
    have : (x ^^^ f) ^^^ (y ^^^ f) ^^^ (z ^^^ f) = (x ^^^ y ^^^ z) ^^^ f ^^^ (f ^^^ f) := by simp only [xlc, Nat.xor_comm]
    rw [this, Nat.xor_self, Nat.xor_zero]
  rw [x1]

/-! turned bits -/
theorem eq_of_xor {a b : Nat} (h : a ^^^ b = 0) : a = b := by
  have e : a ^^^ b ^^^ b = b := by rw [h, Nat.zero_xor]
  rwa [Nat.xor_assoc, Nat.xor_self, Nat.xor_zero] at e
theorem stp_zero : stp 0 = 0 := rfl
theorem stp8_zero : stp8 0 = 0 := rfl
theorem stp_pos {x : Nat} (hx : x < 4294967296) (h : x ≠ 0) : stp x ≠ 0 := by
  intro e
  unfold stp at e
  split at e
  · have h2 : x / 2 = 3988292384 := by
      have : x / 2 ^^^ 3988292384 ^^^ 3988292384 = 3988292384 := by rw [e, Nat.zero_xor]
      rwa [Nat.xor_assoc, Nat.xor_self, Nat.xor_zero] at this
    omega
  · rw [Nat.xor_zero] at e; omega
theorem stp8_pos {x : Nat} (hx : x < 4294967296) (h : x ≠ 0) : stp8 x ≠ 0 := by
  unfold stp8 stp4
  have a1 := stp_pos hx h
  have b1 := stp_lt hx
  have a2 := stp_pos b1 a1
  have b2 := stp_lt b1
  have a3 := stp_pos b2 a2
  have b3 := stp_lt b2
  have a4 := stp_pos b3 a3
  have b4 := stp_lt b3
  have a5 := stp_pos b4 a4
  have b5 := stp_lt b4
  have a6 := stp_pos b5 a5
  have b6 := stp_lt b5
  have a7 := stp_pos b6 a6
  have b7 := stp_lt b6
  exact stp_pos b7 a7
theorem reg_zeros (n : Nat) : reg 0 (List.replicate n 0) = 0 := by
  induction n with
  | zero => rfl
  | succ n ih => rw [List.replicate_succ, reg_cons]; simpa [stp8_zero] using ih
theorem reg_zeros_pos (n : Nat) : ∀ {c : Nat}, c < 4294967296 → c ≠ 0 → reg c (List.replicate n 0) ≠ 0 := by
  induction n with
  | zero => intro c _ h; exact h
  | succ n ih =>
    intro c hc h
    rw [List.replicate_succ, reg_cons, Nat.xor_zero]
    exact ih (stp8_lt hc) (stp8_pos hc h)
def num : List Nat → Nat
  | [] => 0
  | b :: l => b + 256 * num l
/-- Four bytes at the most, not all nought: the register isn't nought. -/
theorem reg_burst (l : List Nat) (hn : l.length ≤ 4) (hl : ∀ b ∈ l, b < 256) (h : ∃ b ∈ l, b ≠ 0) : reg 0 l ≠ 0 := by
  match l, hn, hl, h with
  | [], _, _, h => simp at h
  | [a], _, hl, h =>
    have ha := hl a (by simp)
    have hne : a ≠ 0 := by simpa using h
    simp only [reg_cons, reg_nil, Nat.zero_xor]
    exact stp8_pos (by omega) hne
  | [a, b], _, hl, h =>
    have ha := hl a (by simp)
    have hb := hl b (by simp)
    simp only [reg_cons, reg_nil, Nat.zero_xor]
    have e1 : stp8 a ^^^ b = stp8 (a ^^^ b * 256) := by rw [stp8_xor, stp8_low (x := b * 256) (by omega), Nat.mul_div_cancel _ (by decide)]
    rw [e1]
    have hs : a ^^^ b * 256 < 4294967296 := xor_lt (by omega) (by omega)
    refine stp8_pos (stp8_lt hs) (stp8_pos hs ?_)
    intro e
    have := eq_of_xor e
    have hz : a = 0 ∧ b = 0 := by omega
    simp [hz.1, hz.2] at h
  | [a, b, c], _, hl, h =>
    have ha := hl a (by simp)
    have hb := hl b (by simp)
    have hc := hl c (by simp)
    simp only [reg_cons, reg_nil, Nat.zero_xor]
    have e1 : stp8 a ^^^ b = stp8 (a ^^^ b * 256) := by rw [stp8_xor, stp8_low (x := b * 256) (by omega), Nat.mul_div_cancel _ (by decide)]
    have e2 : stp8 (stp8 (a ^^^ b * 256)) ^^^ c = stp8 (stp8 ((a ^^^ b * 256) ^^^ c * 65536)) := by
      rw [stp8_xor (a ^^^ b * 256), stp8_low (x := c * 65536) (by omega), stp8_xor (stp8 _), stp8_low (x := c * 65536 / 256) (by omega)]
      congr 1; omega
    rw [e1, e2]
    have hs1 : a ^^^ b * 256 < 65536 := Nat.xor_lt_two_pow (n := 16) (by omega) (by omega)
    have hs : (a ^^^ b * 256) ^^^ c * 65536 < 4294967296 := xor_lt (by omega) (by omega)
    refine stp8_pos (stp8_lt (stp8_lt hs)) (stp8_pos (stp8_lt hs) (stp8_pos hs ?_))
    intro e
    have h3 := eq_of_xor e
    have h4 : a ^^^ b * 256 = 0 := by omega
    have h5 := eq_of_xor h4
    have hz : a = 0 ∧ b = 0 ∧ c = 0 := by omega
    simp [hz.1, hz.2.1, hz.2.2] at h
  | [a, b, c, d], _, hl, h =>
    have ha := hl a (by simp)
    have hb := hl b (by simp)
    have hc := hl c (by simp)
    have hd := hl d (by simp)
    simp only [reg_cons, reg_nil, Nat.zero_xor]
    have e1 : stp8 a ^^^ b = stp8 (a ^^^ b * 256) := by rw [stp8_xor, stp8_low (x := b * 256) (by omega), Nat.mul_div_cancel _ (by decide)]
    have e2 : stp8 (stp8 (a ^^^ b * 256)) ^^^ c = stp8 (stp8 ((a ^^^ b * 256) ^^^ c * 65536)) := by
      rw [stp8_xor (a ^^^ b * 256), stp8_low (x := c * 65536) (by omega), stp8_xor (stp8 _), stp8_low (x := c * 65536 / 256) (by omega)]
      congr 1; omega
    have e3 : stp8 (stp8 (stp8 ((a ^^^ b * 256) ^^^ c * 65536))) ^^^ d = stp8 (stp8 (stp8 (((a ^^^ b * 256) ^^^ c * 65536) ^^^ d * 16777216))) := by
      rw [stp8_xor ((a ^^^ b * 256) ^^^ c * 65536), stp8_low (x := d * 16777216) (by omega), stp8_xor (stp8 _), stp8_low (x := d * 16777216 / 256) (by omega), stp8_xor (stp8 (stp8 _)), stp8_low (x := d * 16777216 / 256 / 256) (by omega)]
      congr 1; omega
    rw [e1, e2, e3]
    have hs1 : a ^^^ b * 256 < 65536 := Nat.xor_lt_two_pow (n := 16) (by omega) (by omega)
    have hs2 : (a ^^^ b * 256) ^^^ c * 65536 < 16777216 := Nat.xor_lt_two_pow (n := 24) (by omega) (by omega)
    have hs : ((a ^^^ b * 256) ^^^ c * 65536) ^^^ d * 16777216 < 4294967296 := xor_lt (by omega) (by omega)
    refine stp8_pos (stp8_lt (stp8_lt (stp8_lt hs))) (stp8_pos (stp8_lt (stp8_lt hs)) (stp8_pos (stp8_lt hs) (stp8_pos hs ?_)))
    intro e
    have h3 := eq_of_xor e
    have h4 : (a ^^^ b * 256) ^^^ c * 65536 = 0 := by omega
    have h5 := eq_of_xor h4
    have h6 : a ^^^ b * 256 = 0 := by omega
    have h7 := eq_of_xor h6
    have hz : a = 0 ∧ b = 0 ∧ c = 0 ∧ d = 0 := by omega
    simp [hz.1, hz.2.1, hz.2.2.1, hz.2.2.2] at h
  | _ :: _ :: _ :: _ :: _ :: _, hn, _, _ => simp at hn
/-- Bytes that differ within four side by side have another CRC. -/
theorem crc_turned (s d : List Nat) (at_ m : Nat) (p : List Nat) (hd : d = List.replicate at_ 0 ++ p ++ List.replicate m 0) (hl : s.length = d.length)
    (hp : p.length ≤ 4) (hb : ∀ b ∈ p, b < 256) (h : ∃ b ∈ p, b ≠ 0) : crcMore 0 (xors s d) ≠ crcMore 0 s := by
  intro e
  unfold crcMore at e
  have e2 : reg (flip 0) (xors s d) = reg (flip 0) s := by
    have := congrArg flip e
    rwa [flip_flip, flip_flip] at this
  have e3 := reg_xors s d (flip 0) 0 hl
  rw [Nat.xor_zero, e2] at e3
  have e4 : reg 0 d = 0 := by
    have : reg (flip 0) s ^^^ reg (flip 0) s = reg (flip 0) s ^^^ (reg (flip 0) s ^^^ reg 0 d) := by rw [← e3]
    rw [Nat.xor_self, ← Nat.xor_assoc, Nat.xor_self, Nat.zero_xor] at this
    exact this.symm
  rw [hd, reg_append, reg_append, reg_zeros] at e4
  exact reg_zeros_pos m (reg_lt p (by decide) hb) (reg_burst p hp hb h) e4
end Go.Proofs.YtkclgbccnbiojaaGreatDoor.Mor
