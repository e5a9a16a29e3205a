/- SHA-256 in plain Lean, over numbers of 32 bits and lists of bytes; the two ways of the round, of the schedule and of the padding are one. No program is named. -/
import Derived.Test.YteceagldjnfeeaaDoorWords
namespace Go.Proofs.YteceagldjnfeeaaDoor
set_option linter.unusedVariables false

abbrev U32 := BitVec 32
/-- A number of 32 bits as a whole number. -/
def uw (x : U32) : Int := (x.toNat : Int)
/-- A byte as a number of 32 bits. -/
def b32 (b : UInt8) : U32 := BitVec.ofNat 32 b.toNat

theorem uw_nonneg (x : U32) : 0 ≤ uw x := by unfold uw; omega
theorem uw_lt (x : U32) : uw x < 4294967296 := by unfold uw; have := x.isLt; omega

def kNat : List Nat := [1116352408, 1899447441, 3049323471, 3921009573, 961987163, 1508970993, 2453635748, 2870763221, 3624381080, 310598401, 607225278, 1426881987, 1925078388, 2162078206, 2614888103, 3248222580, 3835390401, 4022224774, 264347078, 604807628, 770255983, 1249150122, 1555081692, 1996064986, 2554220882, 2821834349, 2952996808, 3210313671, 3336571891, 3584528711, 113926993, 338241895, 666307205, 773529912, 1294757372, 1396182291, 1695183700, 1986661051, 2177026350, 2456956037, 2730485921, 2820302411, 3259730800, 3345764771, 3516065817, 3600352804, 4094571909, 275423344, 430227734, 506948616, 659060556, 883997877, 958139571, 1322822218, 1537002063, 1747873779, 1955562222, 2024104815, 2227730452, 2361852424, 2428436474, 2756734187, 3204031479, 3329325298]
def kTab : List U32 := kNat.map (BitVec.ofNat 32)

def rotr (x : U32) (n : Nat) : U32 := x >>> n ||| x <<< (32 - n)
def byteAt (m : List UInt8) (i : Nat) : UInt8 := m.getD i 0
def wordAt (l : List U32) (i : Nat) : U32 := l.getD i 0
theorem byteAt_get (m : List UInt8) (i : Nat) (h : i < m.length) : m[i] = byteAt m i := by simp [byteAt, List.getD, List.getElem?_eq_getElem h]
theorem wordAt_get (m : List U32) (i : Nat) (h : i < m.length) : m[i] = wordAt m i := by simp [wordAt, List.getD, List.getElem?_eq_getElem h]
def word (m : List UInt8) (i : Nat) : U32 := b32 (byteAt m (4 * i)) <<< 24 ||| b32 (byteAt m (4 * i + 1)) <<< 16 ||| b32 (byteAt m (4 * i + 2)) <<< 8 ||| b32 (byteAt m (4 * i + 3))
def ssig0 (x : U32) : U32 := rotr x 7 ^^^ rotr x 18 ^^^ x >>> 3
def ssig1 (x : U32) : U32 := rotr x 17 ^^^ rotr x 19 ^^^ x >>> 10
def bsig0 (x : U32) : U32 := rotr x 2 ^^^ rotr x 13 ^^^ rotr x 22
def bsig1 (x : U32) : U32 := rotr x 6 ^^^ rotr x 11 ^^^ rotr x 25

/-- The next word of the schedule. -/
def next (m : List UInt8) (l : List U32) (i : Nat) : U32 :=
  if i < 16 then word m i else wordAt l (i - 16) + ssig0 (wordAt l (i - 15)) + wordAt l (i - 7) + ssig1 (wordAt l (i - 2))
/-- The first n words of the schedule. -/
def sched (m : List UInt8) : Nat → List U32
  | 0 => []
  | n + 1 => sched m n ++ [next m (sched m n) n]
theorem sched_length (m : List UInt8) (n : Nat) : (sched m n).length = n := by
  induction n with
  | zero => rfl
  | succ n ih => simp [sched, ih]

structure St where
  (a b c d e f g h : U32)
def ch (e f g : U32) : U32 := g ^^^ e &&& (f ^^^ g)
def maj (a b c : U32) : U32 := a &&& b ||| c &&& (a ||| b)
theorem ch_eq (e f g : U32) : (e &&& f) ^^^ (~~~e &&& g) = ch e f g := by
  unfold ch
  apply BitVec.eq_of_getLsbD_eq
  intro i hi
  simp only [BitVec.getLsbD_xor, BitVec.getLsbD_and, BitVec.getLsbD_not]
  cases e.getLsbD i <;> cases f.getLsbD i <;> cases g.getLsbD i <;> simp [hi]
theorem maj_eq (a b c : U32) : (a &&& b) ^^^ (a &&& c) ^^^ (b &&& c) = maj a b c := by
  unfold maj
  apply BitVec.eq_of_getLsbD_eq
  intro i hi
  simp only [BitVec.getLsbD_xor, BitVec.getLsbD_and, BitVec.getLsbD_or]
  cases a.getLsbD i <;> cases b.getLsbD i <;> cases c.getLsbD i <;> rfl

def t1 (s : St) (k w : U32) : U32 := s.h + bsig1 s.e + ch s.e s.f s.g + k + w
def t2 (s : St) : U32 := bsig0 s.a + maj s.a s.b s.c
def rnd (s : St) (k w : U32) : St := ⟨t1 s k w + t2 s, s.a, s.b, s.c, s.d + t1 s k w, s.e, s.f, s.g⟩
/-- The state behind n rounds. -/
def rounds (s : St) (l : List U32) : Nat → St
  | 0 => s
  | n + 1 => rnd (rounds s l n) (wordAt kTab n) (wordAt l n)
def St.add (s t : St) : St := ⟨s.a + t.a, s.b + t.b, s.c + t.c, s.d + t.d, s.e + t.e, s.f + t.f, s.g + t.g, s.h + t.h⟩
/-- The state behind 64 bytes. -/
def comp (s : St) (m : List UInt8) : St := s.add (rounds s (sched m 64) 64)
def St.list (s : St) : List U32 := [s.a, s.b, s.c, s.d, s.e, s.f, s.g, s.h]

/-- The state behind the first n pieces of 64 bytes. -/
def absorb (s : St) (l : List UInt8) : Nat → St
  | 0 => s
  | n + 1 => comp (absorb s l n) ((l.drop (64 * n)).take 64)

def be32 (x : U32) : List UInt8 := [UInt8.ofNat (x.toNat / 16777216), UInt8.ofNat (x.toNat / 65536), UInt8.ofNat (x.toNat / 256), UInt8.ofNat x.toNat]
def digest (s : St) : List UInt8 := be32 s.a ++ be32 s.b ++ be32 s.c ++ be32 s.d ++ be32 s.e ++ be32 s.f ++ be32 s.g ++ be32 s.h
def h0 : St := ⟨1779033703, 3144134277, 1013904242, 2773480762, 1359893119, 2600822924, 528734635, 1541459225⟩

/-- A number's eight bytes, the highest first. -/
def bits8 (n : Nat) : List UInt8 := [UInt8.ofNat (n / 72057594037927936), UInt8.ofNat (n / 281474976710656), UInt8.ofNat (n / 1099511627776), UInt8.ofNat (n / 4294967296), UInt8.ofNat (n / 16777216), UInt8.ofNat (n / 65536), UInt8.ofNat (n / 256), UInt8.ofNat n]
/-- How long the padded message is. -/
def padLen (n : Nat) : Nat := (n + 9 + 63) / 64 * 64
def padded (l : List UInt8) : List UInt8 := l ++ 128 :: List.replicate (padLen l.length - l.length - 9) 0 ++ bits8 (l.length * 8)
/-- SHA-256. -/
def sha (l : List UInt8) : List UInt8 := digest (absorb h0 (padded l) (padLen l.length / 64))

theorem padLen_ge (n : Nat) : n + 9 ≤ padLen n := by unfold padLen; omega
theorem padLen_mod (n : Nat) : padLen n % 64 = 0 := by unfold padLen; omega
theorem bits8_length (n : Nat) : (bits8 n).length = 8 := rfl
theorem padded_length (l : List UInt8) : (padded l).length = padLen l.length := by
  have := padLen_ge l.length
  simp only [padded, List.length_append, List.length_cons, List.length_replicate, bits8_length]
  omega
theorem be32_length (x : U32) : (be32 x).length = 4 := rfl
theorem digest_length (s : St) : (digest s).length = 32 := by simp [digest, be32_length]
theorem sha_length (l : List UInt8) : (sha l).length = 32 := digest_length _

theorem absorb_congr (s : St) (l l' : List UInt8) (n : Nat) (h : l.take (64 * n) = l'.take (64 * n)) : absorb s l n = absorb s l' n := by
  induction n with
  | zero => rfl
  | succ n ih =>
    have h1 : l.take (64 * n) = l'.take (64 * n) := by
      have := congrArg (List.take (64 * n)) h
      rwa [List.take_take, List.take_take, Nat.min_eq_left (by omega)] at this
    have h2 : (l.drop (64 * n)).take 64 = (l'.drop (64 * n)).take 64 := by
      have := congrArg (List.drop (64 * n)) h
      rwa [List.drop_take, List.drop_take, show 64 * (n + 1) - 64 * n = 64 by omega] at this
    simp only [absorb]
    rw [ih h1, h2]
theorem absorb_split (s : St) (l : List UInt8) (n m : Nat) : absorb (absorb s l n) (l.drop (64 * n)) m = absorb s l (n + m) := by
  induction m with
  | zero => rfl
  | succ m ih =>
    simp only [absorb, Nat.add_eq]
    rw [ih, List.drop_drop, show 64 * n + 64 * m = 64 * (n + m) by omega]

/-- What sha.Sum pads: the rest behind all whole pieces. -/
def tail (n : Nat) (l : List UInt8) : List UInt8 := l ++ 128 :: List.replicate ((if 56 ≤ l.length then 128 else 64) - l.length - 9) 0 ++ bits8 (n * 8)
theorem tail_length (n : Nat) (l : List UInt8) (h : l.length < 64) : (tail n l).length = if 56 ≤ l.length then 128 else 64 := by
  simp only [tail, List.length_append, List.length_cons, List.length_replicate, bits8_length]
  split <;> omega
theorem padded_drop (l : List UInt8) (k : Nat) (hk : k = l.length / 64) : (padded l).drop (64 * k) = tail l.length (l.drop (64 * k)) := by
  have e : (if 56 ≤ l.length - 64 * k then 128 else 64) - (l.length - 64 * k) = padLen l.length - l.length := by
    unfold padLen
    split <;> omega
  rw [padded, tail, List.append_assoc, List.drop_append_of_le_length (by omega), List.append_assoc, List.length_drop, ← e]
theorem sha_eq (l : List UInt8) : sha l = digest (absorb (absorb h0 l (l.length / 64)) (tail l.length (l.drop (64 * (l.length / 64)))) (if 56 ≤ l.length - 64 * (l.length / 64) then 2 else 1)) := by
  have e1 : absorb h0 l (l.length / 64) = absorb h0 (padded l) (l.length / 64) := by
    apply absorb_congr
    rw [padded, List.append_assoc, List.take_append_of_le_length (by omega)]
  have e2 : padLen l.length / 64 = l.length / 64 + (if 56 ≤ l.length - 64 * (l.length / 64) then 2 else 1) := by
    unfold padLen
    split <;> omega
  rw [e1, ← padded_drop l _ rfl, absorb_split, sha, e2]
end Go.Proofs.YteceagldjnfeeaaDoor
