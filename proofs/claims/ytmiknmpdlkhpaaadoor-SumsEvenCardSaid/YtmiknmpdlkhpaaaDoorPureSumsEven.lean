/- Proved: the CRC of the exclusive or of three texts, cut to one length, is the exclusive or of their CRCs, for any three texts. Conditions: none beyond the card's own. -/
import Derived.Test.YtmiknmpdlkhpaaaDoorAdler
import Derived.Test.YtmiknmpdlkhpaaaDoorPSumsAllx3
namespace Go.Proofs.YtmiknmpdlkhpaaaDoor.Pure
open Go Go.RowKit Go.Proofs.YtmiknmpdlkhpaaaDoor.PSumsAll Go.Proofs.YtmiknmpdlkhpaaaDoorW.PrintWords Go.Proofs.YtmiknmpdlkhpaaaDoorW.PrintLast Go.Proofs.YtmiknmpdlkhpaaaDoorW.PrintMore Go.Proofs.YtmiknmpdlkhpaaaDoor.Mor

theorem strOfNums_byts (l : List Nat) (h : ∀ b ∈ l, b < 256) : byts (strOfNums (l.map fun (b : Nat) => (b : Int))) = l := by
  simp only [byts, strOfNums]
  induction l with
  | nil => rfl
  | cons b l ih =>
    have hb := h b (by simp)
    have := ih fun x hx => h x (by simp [hx])
    simp_all
theorem extract_byts (s : ByteArray) (n : Nat) : byts (s.extract 0 n) = (byts s).take n := by
  unfold byts
  rw [ByteArray.data_extract, Array.toList_extract]
  simp [List.extract_eq_take_drop]
theorem xors_lt (l m : List Nat) (hl : ∀ b ∈ l, b < 256) (hm : ∀ b ∈ m, b < 256) : ∀ b ∈ xors l m, b < 256 := by
  intro b hb
  obtain ⟨i, hi, rfl⟩ := List.getElem_of_mem hb
  simp only [xors, List.getElem_zipWith]
  exact Nat.xor_lt_two_pow (n := 8) (hl _ (List.getElem_mem _)) (hm _ (List.getElem_mem _))
section
variable (a b c : ByteArray) (n : Nat) (ha : n ≤ a.size) (hb : n ≤ b.size) (hc : n ≤ c.size)
/-- The exclusive or of three texts' first n bytes. -/
def three : List Nat := xors (xors ((byts a).take n) ((byts b).take n)) ((byts c).take n)
include ha hb hc in
theorem three_length : (three a b c n).length = n := by
  simp [three, xors, byts_length, ha, hb, hc]
theorem three_lt : ∀ x ∈ three a b c n, x < 256 :=
  xors_lt _ _ (xors_lt _ _ (fun x h => byts_lt a x (List.mem_of_mem_take h)) (fun x h => byts_lt b x (List.mem_of_mem_take h))) (fun x h => byts_lt c x (List.mem_of_mem_take h))
include ha hb hc in
theorem three_at (i : Nat) (hi : i < n) : Go.bits .xor .u8 (Go.bits .xor .u8 (bt a (i : Int)) (bt b (i : Int))) (bt c (i : Int)) = (((three a b c n)[i]'(by rw [three_length a b c n ha hb hc]; exact hi) : Nat) : Int) := by
  have h1 := bt_nat a i (by omega)
  have h2 := bt_nat b i (by omega)
  have h3 := bt_nat c i (by omega)
  have l1 := byts_lt a _ (List.getElem_mem (show i < (byts a).length by rw [byts_length]; omega))
  have l2 := byts_lt b _ (List.getElem_mem (show i < (byts b).length by rw [byts_length]; omega))
  have l3 := byts_lt c _ (List.getElem_mem (show i < (byts c).length by rw [byts_length]; omega))
  rw [h1, h2, h3, u8_xor_nat _ _ l1 l2, u8_xor_nat _ _ (Nat.xor_lt_two_pow (n := 8) l1 l2) l3]
  simp [three, xors]
/-- The row behind i rounds. -/
def part (i : Nat) : List Int := ((three a b c n).take i).map (fun (x : Nat) => (x : Int)) ++ List.replicate (n - i) 0
include ha hb hc in
theorem part_length (i : Nat) (hi : i ≤ n) : (part a b c n i).length = n := by
  simp [part, three_length a b c n ha hb hc]; omega
include ha hb hc in
theorem part_set (i : Nat) (hi : i < n) : (part a b c n i).set i (Go.bits .xor .u8 (Go.bits .xor .u8 (bt a (i : Int)) (bt b (i : Int))) (bt c (i : Int))) = part a b c n (i + 1) := by
  have hl := three_length a b c n ha hb hc
  rw [three_at a b c n ha hb hc i hi]
  unfold part
  have hlen : (((three a b c n).take i).map (fun (x : Nat) => (x : Int))).length = i := by simp; omega
  rw [List.set_append_right _ _ (by omega), hlen, Nat.sub_self]
  obtain ⟨m, hm⟩ : ∃ m, n - i = m + 1 := ⟨n - i - 1, by omega⟩
  rw [hm, List.replicate_succ, List.set_cons_zero, show n - (i + 1) = m from by omega]
  rw [List.take_succ_eq_append_getElem (by omega), List.map_append, List.append_assoc]
  rfl
end
theorem even_l0 (a b c : ByteArray) (hsa : a.size ≤ 140737488351232) (hsb : b.size ≤ 140737488351232) (hsc : c.size ≤ 140737488351232) (n : Nat) (ha : n ≤ a.size) (hb : n ≤ b.size) (hc : n ≤ c.size) (d : Nat) :
    ∀ i, i + d = n → Ev (fun k => mortiselaw03_SumsEven.l0 k a b c (n : Int) (part a b c n i) (i : Int)) true := by
  have bigs : ∀ s : ByteArray, s.size ≤ 140737488351232 → ∀ m, (s.extract 0 m).size ≤ big := fun s hs m => by rw [ByteArray.size_extract]; unfold big; omega
  induction d with
  | zero =>
    intro i hi
    obtain rfl : i = n := by omega
    have hl := three_length a b c i ha hb hc
    have hp : part a b c i i = (three a b c i).map (fun (x : Nat) => (x : Int)) := by
      unfold part; rw [List.take_of_length_le (by omega)]; simp
    have e0 : byts (strOfNums (part a b c i i)) = three a b c i := by rw [hp]; exact strOfNums_byts _ (three_lt a b c i)
    have hz : (strOfNums (part a b c i i)).size ≤ big := by
      rw [← byts_length, e0, hl]; unfold big; omega
    have hev := crc_even ((byts a).take i) ((byts b).take i) ((byts c).take i) (by simp [byts_length, ha, hb]) (by simp [byts_length, ha, hc])
    have c1 : crcMore 0 ((byts a).take i) < 4294967296 := crcMore_lt (by decide) fun x h => byts_lt a x (List.mem_of_mem_take h)
    have c2 : crcMore 0 ((byts b).take i) < 4294967296 := crcMore_lt (by decide) fun x h => byts_lt b x (List.mem_of_mem_take h)
    have c3 : crcMore 0 ((byts c).take i) < 4294967296 := crcMore_lt (by decide) fun x h => byts_lt c x (List.mem_of_mem_take h)
    refine Ev.step (f := fun k => (mortiselaw03_live.f k).bind fun t148 => some t148) (fun k => ?_) (Ev.bind live_ev (Ev.now _))
    simp only [mortiselaw03_SumsEven.l0]
    rw [if_neg (by omega), crc_ev _ hz, e0]
    simp only [Option.bind_some]
    rw [if_pos (by omega), if_pos (by omega), Int.toNat_natCast, crc_ev _ (bigs a hsa i), crc_ev _ (bigs b hsb i), crc_ev _ (bigs c hsc i)]
    simp only [Option.bind_some, extract_byts]
    rw [if_pos (by omega), if_pos (by omega)]
    rw [u32_xor_nat _ _ c1 c2, u32_xor_nat _ _ (xor_lt c1 c2) c3]
    rw [if_pos (by rw [← hev]; rfl)]
  | succ d ih =>
    intro i hi
    refine Ev.step (fun k => ?_) (ih (i + 1) (by omega))
    simp only [mortiselaw03_SumsEven.l0]
    have hl := part_length a b c n ha hb hc i (by omega)
    rw [if_pos (by omega), if_pos (by omega), if_pos (by omega), if_pos (by omega), if_pos (by omega), if_pos (by omega), Int.toNat_natCast, part_set a b c n ha hb hc i (by omega), w64 (by omega) (by omega)]
    rfl
theorem SumsEven : mortiselaw03_SumsEven.Pure := by
  intro a b c hsa hsb hsc
  obtain ⟨n, e, ha, hb, hc⟩ : ∃ n : Nat, mn (mn (a.size : Int) (b.size : Int)) (c.size : Int) = (n : Int) ∧ n ≤ a.size ∧ n ≤ b.size ∧ n ≤ c.size := by
    refine ⟨min (min a.size b.size) c.size, ?_, by omega, by omega, by omega⟩
    unfold mn
    split <;> split <;> omega
  refine Ev.rounds (r := true) ?_
  unfold mortiselaw03_SumsEven.f
  rw [e]
  refine Ev.congr (fun _ => if_pos (by omega)) ?_
  refine Ev.congr (fun _ => if_pos (by omega)) ?_
  have h := even_l0 a b c hsa hsb hsc n ha hb hc n 0 (by omega)
  have e2 : part a b c n 0 = List.replicate ((n : Int).toNat) 0 := by simp [part]
  rw [e2] at h
  exact h

end Go.Proofs.YtmiknmpdlkhpaaaDoor.Pure
