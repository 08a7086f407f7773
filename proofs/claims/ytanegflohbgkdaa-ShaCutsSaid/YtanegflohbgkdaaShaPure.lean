/-
  Lemmas and contracts that the proofs over this seat use (part ShaPure); no statement of the seat is claimed in this text, and nothing is assumed in it.
-/
set_option linter.unusedVariables false
set_option linter.unusedSimpArgs false

namespace Go.Proofs.Ytanegflohbgkdaa.Sha
def m32 : Nat := 4294967296
def rotr (x n : Nat) : Nat := (x >>> n) ||| ((x <<< (32 - n)) % m32)
def ks : List Nat := [1116352408, 1899447441, 3049323471, 3921009573, 961987163, 1508970993, 2453635748, 2870763221, 3624381080, 310598401, 607225278, 1426881987, 1925078388, 2162078206, 2614888103, 3248222580, 3835390401, 4022224774, 264347078, 604807628, 770255983, 1249150122, 1555081692, 1996064986, 2554220882, 2821834349, 2952996808, 3210313671, 3336571891, 3584528711, 113926993, 338241895, 666307205, 773529912, 1294757372, 1396182291, 1695183700, 1986661051, 2177026350, 2456956037, 2730485921, 2820302411, 3259730800, 3345764771, 3516065817, 3600352804, 4094571909, 275423344, 430227734, 506948616, 659060556, 883997877, 958139571, 1322822218, 1537002063, 1747873779, 1955562222, 2024104815, 2227730452, 2361852424, 2428436474, 2756734187, 3204031479, 3329325298]
def g (l : List Nat) (i : Nat) : Nat := l.getD i 0
def word (b : List Nat) (t : Nat) : Nat := g b (4*t) * 16777216 + g b (4*t+1) * 65536 + g b (4*t+2) * 256 + g b (4*t+3)
def s0 (x : Nat) : Nat := (rotr x 7 ^^^ rotr x 18) ^^^ (x >>> 3)
def s1 (x : Nat) : Nat := (rotr x 17 ^^^ rotr x 19) ^^^ (x >>> 10)
def next (b w : List Nat) (t : Nat) : Nat := if t < 16 then word b t else (((s1 (g w (t-2)) + g w (t-7)) % m32 + s0 (g w (t-15))) % m32 + g w (t-16)) % m32
def sched (b : List Nat) : Nat → List Nat
  | 0 => []
  | t + 1 => sched b t ++ [next b (sched b t) t]
def e1 (x : Nat) : Nat := (rotr x 6 ^^^ rotr x 11) ^^^ rotr x 25
def e0 (x : Nat) : Nat := (rotr x 2 ^^^ rotr x 13) ^^^ rotr x 22
def ch (x y z : Nat) : Nat := (x &&& y) ^^^ ((m32 - 1 - x) &&& z)
def maj (x y z : Nat) : Nat := ((x &&& y) ^^^ (x &&& z)) ^^^ (y &&& z)
def rx (s : List Nat) (k w : Nat) : Nat := ((((g s 7 + e1 (g s 4)) % m32 + ch (g s 4) (g s 5) (g s 6)) % m32 + k) % m32 + w) % m32
def ry (s : List Nat) : Nat := (e0 (g s 0) + maj (g s 0) (g s 1) (g s 2)) % m32
def round (s : List Nat) (k w : Nat) : List Nat := [(rx s k w + ry s) % m32, g s 0, g s 1, g s 2, (g s 3 + rx s k w) % m32, g s 4, g s 5, g s 6]
def rounds (w : List Nat) (s : List Nat) : Nat → List Nat
  | 0 => s
  | t + 1 => round (rounds w s t) (g ks t) (g w t)
def one (s b : List Nat) : List Nat := (List.range 8).map fun i => (g (rounds (sched b 64) s 64) i + g s i) % m32
def iv : List Nat := [1779033703, 3144134277, 1013904242, 2773480762, 1359893119, 2600822924, 528734635, 1541459225]
def pad (n : Nat) : List Nat := 128 :: (List.replicate ((119 - n % 64) % 64) 0 ++ (List.range 8).map fun i => n * 8 / 2 ^ (56 - 8 * i) % 256)
def blocks (s : List Nat) : Nat → List Nat → List Nat
  | 0, _ => s
  | n + 1, l => blocks (one s (l.take 64)) n (l.drop 64)
def bytes (s : List Nat) : List Nat := s.flatMap fun x => [x / 16777216, x / 65536 % 256, x / 256 % 256, x % 256]
def st (l : List Nat) : List Nat := blocks iv (l.length / 64) l
def sum (l : List Nat) : List Nat := bytes (st (l ++ pad l.length))
def mix (x : Nat) (l : List Nat) : List Nat := (List.range 64).map fun i => g l i ^^^ x
def key (k : List Nat) : List Nat := if k.length > 64 then sum k else k
def mac (k l : List Nat) : List Nat := sum (mix 92 (key k) ++ sum (mix 54 (key k) ++ l))

theorem blocks_add (m n : Nat) : ∀ (s l : List Nat), blocks s (m + n) l = blocks (blocks s m l) n (l.drop (64 * m)) := by
  induction m with
  | zero => intro s l; simp [blocks]
  | succ m ih =>
    intro s l
    rw [show m + 1 + n = (m + n) + 1 by omega]
    simp only [blocks]
    rw [ih, List.drop_drop]
    congr 2; omega
theorem blocks_append (n : Nat) : ∀ (s l d : List Nat), 64 * n ≤ l.length → blocks s n (l ++ d) = blocks s n l := by
  induction n with
  | zero => intro s l d _; simp [blocks]
  | succ n ih =>
    intro s l d h
    simp only [blocks]
    rw [List.take_append_of_le_length (by omega), List.drop_append_of_le_length (by omega), ih _ _ _ (by simp; omega)]
/-- what lies in the buffer. -/
def rest (l : List Nat) : List Nat := l.drop (64 * (l.length / 64))
theorem rest_length (l : List Nat) : (rest l).length = l.length % 64 := by simp [rest]; omega
theorem st_nil : st [] = iv := rfl
/-- fewer than fill a block. -/
theorem st_few (l d : List Nat) (h : l.length % 64 + d.length < 64) : st (l ++ d) = st l ∧ rest (l ++ d) = rest l ++ d := by
  have e : (l ++ d).length / 64 = l.length / 64 := by simp; omega
  unfold st rest
  rw [e]
  refine ⟨blocks_append _ _ _ _ (by omega), ?_⟩
  rw [List.drop_append_of_le_length (by omega)]
/-- a block is full. -/
theorem st_full (l d : List Nat) (h : l.length % 64 + d.length = 64) : st (l ++ d) = one (st l) (rest l ++ d) ∧ rest (l ++ d) = [] := by
  have e : (l ++ d).length / 64 = l.length / 64 + 1 := by simp; omega
  unfold st rest
  rw [e]
  constructor
  · rw [blocks_add, blocks_append _ _ _ _ (by omega), List.drop_append_of_le_length (by omega)]
    simp only [blocks]
    rw [List.take_of_length_le (by simp; omega)]
  · apply List.drop_eq_nil_of_le; simp; omega
theorem pad_length (n : Nat) : (n + (pad n).length) % 64 = 0 ∧ (pad n).length ≤ 72 := by
  simp [pad]; omega
set_option maxRecDepth 100000 in
theorem t1 : (sum [97,98,99]).take 4 = [0xba, 0x78, 0x16, 0xbf] := by decide +kernel
theorem t2 : (mac ("Jefe".toUTF8.toList.map (·.toNat)) ("what do ya want for nothing?".toUTF8.toList.map (·.toNat))).take 2 = [0x5b, 0xdc] := by decide +kernel
end Go.Proofs.Ytanegflohbgkdaa.Sha
