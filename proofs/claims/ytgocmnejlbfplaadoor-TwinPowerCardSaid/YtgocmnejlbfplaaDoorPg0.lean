/- Pages of slots and their bytes, in plain data. Conditions: none. -/
import Derived.Test.YtgocmnejlbfplaaDoorBase
namespace Go.Proofs.YtgocmnejlbfplaaDoor
open Go

/-- A slot: used or not; its bytes. -/
abbrev Sl := Bool × ByteArray
structure Pg where
  lsn : Int
  slots : List Sl
def szL (L : List Sl) : Nat := 9 + (L.map fun s => 1 + s.2.size).sum
def oddS (s : Sl) : Bool := (!s.1 && !decide (s.2.size = 0)) || decide (200 < s.2.size)
def lastU (L : List Sl) : Bool := match L.getLast? with | none => true | some s => s.1
/-- An image can be. -/
def goodP (p : Pg) : Bool := decide (0 ≤ p.lsn) && decide (p.lsn ≤ 1099511627776) && decide (p.slots.length ≤ 32) && !p.slots.any oddS && lastU p.slots && decide (szL p.slots ≤ 240)
def emptyP : Pg := ⟨0, []⟩
/-- A slot's bytes. -/
def slotB (s : Sl) : List UInt8 := if s.1 then UInt8.ofNat s.2.size :: s.2.data.toList else [255]
def slotsB (L : List Sl) : List UInt8 := L.flatMap slotB
/-- A number's eight bytes, the highest first. -/
def be8 (n : Nat) : List UInt8 := [UInt8.ofNat (n / 72057594037927936), UInt8.ofNat (n / 281474976710656), UInt8.ofNat (n / 1099511627776), UInt8.ofNat (n / 4294967296), UInt8.ofNat (n / 16777216), UInt8.ofNat (n / 65536), UInt8.ofNat (n / 256), UInt8.ofNat n]
def be4 (n : Nat) : List UInt8 := [UInt8.ofNat (n / 16777216), UInt8.ofNat (n / 65536), UInt8.ofNat (n / 256), UInt8.ofNat n]
def getB (l : List UInt8) : Nat := l.foldl (fun n b => n * 256 + b.toNat) 0
def headB (p : Pg) : List UInt8 := be8 p.lsn.toNat ++ [UInt8.ofNat p.slots.length]
/-- An image's bytes, as far as they go; with the zeros behind. -/
def rawB (p : Pg) : List UInt8 := headB p ++ slotsB p.slots
def encB (p : Pg) : List UInt8 := rawB p ++ List.replicate (240 - (rawB p).length) 0
/-- Slots taken off bytes. -/
def parseS : Nat → List UInt8 → Option (List Sl × List UInt8)
  | 0, r => some ([], r)
  | _ + 1, [] => none
  | k + 1, b :: r => if b = 255 then (parseS k r).map fun x => ((false, ⟨#[]⟩) :: x.1, x.2)
    else if r.length < b.toNat then none else (parseS k (r.drop b.toNat)).map fun x => ((true, ⟨(r.take b.toNat).toArray⟩) :: x.1, x.2)
theorem getB_be8 {n : Nat} (h : n < 18446744073709551616) : getB (be8 n) = n := by
  simp only [getB, be8, List.foldl_cons, List.foldl_nil, UInt8.toNat_ofNat']
  omega
theorem be8_len (n : Nat) : (be8 n).length = 8 := rfl
theorem be4_len (n : Nat) : (be4 n).length = 4 := rfl
theorem be8_inj {n m : Nat} (hn : n < 18446744073709551616) (hm : m < 18446744073709551616) (h : be8 n = be8 m) : n = m := by
  rw [← getB_be8 hn, ← getB_be8 hm, h]
theorem getB_be4 {n : Nat} (h : n < 4294967296) : getB (be4 n) = n := by
  simp only [getB, be4, List.foldl_cons, List.foldl_nil, UInt8.toNat_ofNat']
  omega
theorem headB_len (p : Pg) : (headB p).length = 9 := rfl
theorem goodP_iff {p : Pg} : goodP p = true ↔ (0 ≤ p.lsn ∧ p.lsn ≤ 1099511627776 ∧ p.slots.length ≤ 32 ∧ (∀ s ∈ p.slots, oddS s = false) ∧ lastU p.slots = true ∧ szL p.slots ≤ 240) := by
  unfold goodP
  simp only [Bool.and_eq_true, decide_eq_true_eq, Bool.not_eq_true', List.any_eq_false]
  constructor
  · rintro ⟨⟨⟨⟨⟨a, b⟩, c⟩, d⟩, e⟩, f⟩
    exact ⟨a, b, c, fun s hs => by simpa using d s hs, e, f⟩
  · rintro ⟨a, b, c, d, e, f⟩
    exact ⟨⟨⟨⟨⟨a, b⟩, c⟩, fun s hs => by simp [d s hs]⟩, e⟩, f⟩
theorem odd_no {s : Sl} (h : oddS s = false) : (s.1 = false → s.2.size = 0) ∧ s.2.size ≤ 200 := by
  unfold oddS at h
  simp only [Bool.or_eq_false_iff, Bool.and_eq_false_imp, Bool.not_eq_true', decide_eq_false_iff_not, decide_eq_true_eq, Bool.not_eq_false'] at h
  obtain ⟨a, b⟩ := h
  exact ⟨fun e => by simpa using a e, by omega⟩
theorem ba_size (d : ByteArray) : d.size = d.data.toList.length := by rw [Array.length_toList]; rfl
theorem slotB_len {s : Sl} (h : oddS s = false) : (slotB s).length = 1 + s.2.size := by
  obtain ⟨a, b⟩ := odd_no h
  unfold slotB
  split
  · simp only [List.length_cons]; rw [← ba_size]; omega
  · rename_i e
    rw [a (by simpa using e)]; rfl
theorem slotsB_len : ∀ {L : List Sl}, (∀ s ∈ L, oddS s = false) → (slotsB L).length + 9 = szL L
  | [], _ => rfl
  | s :: L, h => by
    have ih := slotsB_len (L := L) fun x hx => h x (.tail _ hx)
    have h1 := slotB_len (h s (.head _))
    unfold slotsB szL at *
    simp only [List.flatMap_cons, List.length_append, List.map_cons, List.sum_cons]
    omega
theorem rawB_len {p : Pg} (h : goodP p = true) : (rawB p).length = szL p.slots := by
  have hg := goodP_iff.1 h
  have := slotsB_len hg.2.2.2.1
  unfold rawB
  rw [List.length_append, headB_len]
  omega
theorem encB_len {p : Pg} (h : goodP p = true) : (encB p).length = 240 := by
  have h1 := rawB_len h
  have h2 := (goodP_iff.1 h).2.2.2.2.2
  unfold encB
  rw [List.length_append, List.length_replicate]
  omega
theorem ba_ext {a b : ByteArray} (h : a.data.toList = b.data.toList) : a = b := by
  obtain ⟨⟨x⟩⟩ := a
  obtain ⟨⟨y⟩⟩ := b
  simp only at h
  rw [h]
theorem parse_slots : ∀ {L : List Sl} (z : List UInt8), (∀ s ∈ L, oddS s = false) → parseS L.length (slotsB L ++ z) = some (L, z)
  | [], z, _ => rfl
  | s :: L, z, h => by
    have ih := parse_slots (L := L) z fun x hx => h x (.tail _ hx)
    obtain ⟨a, b⟩ := odd_no (h s (.head _))
    obtain ⟨u, d⟩ := s
    simp only at a b
    unfold slotsB
    rw [List.flatMap_cons, List.append_assoc]
    cases u with
    | false =>
      have hd : d = ⟨#[]⟩ := by
        have := a rfl
        apply ba_ext
        rw [ba_size] at this
        exact List.eq_nil_of_length_eq_zero this
      subst hd
      show parseS (L.length + 1) (255 :: (slotsB L ++ z)) = _
      simp only [parseS, if_true, ih, Option.map_some]
    | true =>
      have hn : (UInt8.ofNat d.size).toNat = d.size := by rw [UInt8.toNat_ofNat']; omega
      have hne : ¬ UInt8.ofNat d.size = 255 := by
        intro e
        have := congrArg UInt8.toNat e
        rw [hn] at this
        have h2 : (255 : UInt8).toNat = 255 := rfl
        omega
      have hl : d.size = d.data.toList.length := ba_size d
      show parseS (L.length + 1) (UInt8.ofNat d.size :: (d.data.toList ++ (slotsB L ++ z))) = _
      simp only [parseS, if_neg hne, hn]
      rw [if_neg (by rw [List.length_append]; omega), hl, List.drop_left, List.take_left, ih]
      simp
/-- The image of bytes. -/
def decB (s : List UInt8) : Option Pg := if s.length = 240 then match parseS (s.getD 8 0).toNat (s.drop 9) with
    | none => none
    | some x => if (decide (getB (s.take 8) ≤ 1099511627776) && (goodP ⟨getB (s.take 8), x.1⟩ && decide (encB ⟨getB (s.take 8), x.1⟩ = s))) = true then some ⟨getB (s.take 8), x.1⟩ else none
  else none
theorem decB_enc {p : Pg} (h : goodP p = true) : decB (encB p) = some p := by
  have hg := goodP_iff.1 h
  have hl := encB_len h
  unfold decB
  rw [if_pos hl]
  have h8 : (encB p).take 8 = be8 p.lsn.toNat := by
    unfold encB rawB headB
    rw [List.append_assoc, List.append_assoc, List.append_assoc, List.take_left' (be8_len _)]
  have h9 : (encB p).getD 8 0 = UInt8.ofNat p.slots.length := by
    unfold encB rawB headB
    rw [List.append_assoc, List.append_assoc, List.append_assoc]
    rfl
  have hd : (encB p).drop 9 = slotsB p.slots ++ List.replicate (240 - (rawB p).length) 0 := by
    unfold encB rawB
    rw [List.append_assoc, List.drop_left' (headB_len p)]
  have hn : (UInt8.ofNat p.slots.length).toNat = p.slots.length := by rw [UInt8.toNat_ofNat']; omega
  rw [h8, h9, hd, hn, parse_slots _ hg.2.2.2.1]
  have hb : getB (be8 p.lsn.toNat) = p.lsn.toNat := getB_be8 (by omega)
  have he : (⟨((getB (be8 p.lsn.toNat) : Nat) : Int), p.slots⟩ : Pg) = p := by
    rw [hb]
    obtain ⟨l, sl⟩ := p
    simp only at hg
    congr 1
    simp only
    omega
  simp only [he, h, Bool.true_and]
  rw [if_pos]
  simp only [decide_true, Bool.and_true, decide_eq_true_eq]
  rw [hb]; omega
theorem decB_some {s : List UInt8} {p : Pg} (h : decB s = some p) : goodP p = true ∧ encB p = s := by
  unfold decB at h
  split at h
  · split at h
    · cases h
    · split at h
      · rename_i hc
        rw [← Option.some.inj h]
        simp only [Bool.and_eq_true, decide_eq_true_eq] at hc
        exact hc.2
      · cases h
  · cases h
theorem decB_iff {s : List UInt8} {p : Pg} : decB s = some p ↔ goodP p = true ∧ encB p = s :=
  ⟨decB_some, fun ⟨h1, h2⟩ => by rw [← h2]; exact decB_enc h1⟩
theorem encB_inj {p q : Pg} (hp : goodP p = true) (hq : goodP q = true) (h : encB p = encB q) : p = q := by
  have h1 := decB_enc hp
  rw [h, decB_enc hq] at h1
  exact (Option.some.inj h1).symm
theorem goodP_empty : goodP emptyP = true := by decide
/-- What a slot has. -/
def atM (p : Pg) (k : Int) : Sl := if goodP p = true ∧ 0 ≤ k then (p.slots[k.toNat]?).getD (false, ⟨#[]⟩) else (false, ⟨#[]⟩)
def trimU (L : List Sl) : List Sl := (L.reverse.dropWhile fun s => !s.1).reverse
def widen (L : List Sl) (n : Nat) : List Sl := L ++ List.replicate (n - L.length) (false, ⟨#[]⟩)
/-- A slot has something else: the image, the error. -/
def putM (p : Pg) (k : Int) (x : Sl) : Pg × Int := if (!goodP p || decide (k < 0) || decide (32 ≤ k) || (!x.1 && !decide (x.2.size = 0))) = true then (emptyP, 1)
  else if 200 < x.2.size then (emptyP, 5)
  else if 240 < szL (trimU ((widen p.slots (k.toNat + 1)).set k.toNat x)) then (emptyP, 22) else (⟨p.lsn, trimU ((widen p.slots (k.toNat + 1)).set k.toNat x)⟩, 0)
/-- A page's sector. -/
def secB (n : Nat) (p : Pg) : List UInt8 := encB p ++ ([80, 65, 71, 69] ++ (be4 n ++ [0, 0, 0, 0, 0, 0, 0, 0]))
theorem secB_len {n : Nat} {p : Pg} (h : goodP p = true) : (secB n p).length = 256 := by
  unfold secB
  simp only [List.length_append, encB_len h, be4_len]; rfl
def zeros (k : Nat) : List UInt8 := List.replicate k 0
/-- The image of a page's sector. -/
def pageB (n : Nat) (s : List UInt8) : Option Pg := match decB (s.take 240) with
  | none => none
  | some p => if secB n p = s then some p else none
theorem pageB_sec {n : Nat} {p : Pg} (h : goodP p = true) : pageB n (secB n p) = some p := by
  unfold pageB
  have : (secB n p).take 240 = encB p := by unfold secB; rw [List.take_left' (encB_len h)]
  rw [this, decB_enc h]
  simp
theorem pageB_some {n : Nat} {s : List UInt8} {p : Pg} (h : pageB n s = some p) : goodP p = true ∧ secB n p = s := by
  unfold pageB at h
  split at h
  · cases h
  · rename_i q hq
    split at h
    · rename_i e
      rw [← Option.some.inj h]
      exact ⟨(decB_some hq).1, e⟩
    · cases h
theorem pageB_iff {n : Nat} {s : List UInt8} {p : Pg} : pageB n s = some p ↔ goodP p = true ∧ secB n p = s :=
  ⟨pageB_some, fun ⟨h1, h2⟩ => by rw [← h2]; exact pageB_sec h1⟩
theorem secB_ne_zeros {n : Nat} {p : Pg} (h : goodP p = true) : secB n p ≠ zeros 256 := by
  intro e
  have h1 : (secB n p)[240]? = (zeros 256)[240]? := by rw [e]
  unfold secB zeros at h1
  rw [List.getElem?_append_right (by rw [encB_len h]; exact Nat.le_refl _), encB_len h, List.getElem?_replicate, if_pos (by decide)] at h1
  have h2 : (some (80 : UInt8)) = some 0 := h1
  exact absurd (Option.some.inj h2) (by decide)
end Go.Proofs.YtgocmnejlbfplaaDoor
