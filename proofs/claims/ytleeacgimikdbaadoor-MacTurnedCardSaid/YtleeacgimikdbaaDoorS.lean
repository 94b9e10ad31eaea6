/- The document's digest as a plain function of bytes: no program in sight. -/
import Derived.KernelRfl
namespace Go.Proofs.YtleeacgimikdbaaDoor
abbrev W32 := BitVec 32
def rotr (x : W32) (n : Nat) : W32 := (x <<< (32 - n)) ||| (x >>> n)
def kList : List W32 := [1116352408#32, 1899447441#32, 3049323471#32, 3921009573#32, 961987163#32, 1508970993#32, 2453635748#32, 2870763221#32, 3624381080#32, 310598401#32, 607225278#32, 1426881987#32, 1925078388#32, 2162078206#32, 2614888103#32, 3248222580#32, 3835390401#32, 4022224774#32, 264347078#32, 604807628#32, 770255983#32, 1249150122#32, 1555081692#32, 1996064986#32, 2554220882#32, 2821834349#32, 2952996808#32, 3210313671#32, 3336571891#32, 3584528711#32, 113926993#32, 338241895#32, 666307205#32, 773529912#32, 1294757372#32, 1396182291#32, 1695183700#32, 1986661051#32, 2177026350#32, 2456956037#32, 2730485921#32, 2820302411#32, 3259730800#32, 3345764771#32, 3516065817#32, 3600352804#32, 4094571909#32, 275423344#32, 430227734#32, 506948616#32, 659060556#32, 883997877#32, 958139571#32, 1322822218#32, 1537002063#32, 1747873779#32, 1955562222#32, 2024104815#32, 2227730452#32, 2361852424#32, 2428436474#32, 2756734187#32, 3204031479#32, 3329325298#32]
def sg0 (x : W32) : W32 := rotr x 7 ^^^ rotr x 18 ^^^ (x >>> 3)
def sg1 (x : W32) : W32 := rotr x 17 ^^^ rotr x 19 ^^^ (x >>> 10)
def byteAt (bs : List UInt8) (i : Nat) : W32 := BitVec.ofNat 32 (bs.getD i 0).toNat
def wordAt (bs : List UInt8) (t : Nat) : W32 := (byteAt bs (4 * t) <<< 24) ||| (byteAt bs (4 * t + 1) <<< 16) ||| (byteAt bs (4 * t + 2) <<< 8) ||| byteAt bs (4 * t + 3)
def nextW (bs : List UInt8) (w : List W32) (t : Nat) : W32 :=
  if t < 16 then wordAt bs t else w.getD (t - 16) 0 + w.getD (t - 7) 0 + sg0 (w.getD (t - 15) 0) + sg1 (w.getD (t - 2) 0)
def rowTo (bs : List UInt8) : Nat → List W32
  | 0 => []
  | t + 1 => rowTo bs t ++ [nextW bs (rowTo bs t) t]
structure St where
  a : W32
  b : W32
  c : W32
  d : W32
  e : W32
  f : W32
  g : W32
  h : W32
def St.x (s : St) (k w : W32) : W32 := s.h + (rotr s.e 6 ^^^ rotr s.e 11 ^^^ rotr s.e 25) + ((s.e &&& s.f) ^^^ (~~~s.e &&& s.g)) + k + w
def St.y (s : St) : W32 := (rotr s.a 2 ^^^ rotr s.a 13 ^^^ rotr s.a 22) + ((s.a &&& s.b) ^^^ (s.a &&& s.c) ^^^ (s.b &&& s.c))
def St.round (s : St) (k w : W32) : St := ⟨s.x k w + s.y, s.a, s.b, s.c, s.d + s.x k w, s.e, s.f, s.g⟩
def St.plus (s v : St) : St := ⟨s.a + v.a, s.b + v.b, s.c + v.c, s.d + v.d, s.e + v.e, s.f + v.f, s.g + v.g, s.h + v.h⟩
def roundsTo (s : St) (ws : List W32) : Nat → St
  | 0 => s
  | t + 1 => (roundsTo s ws t).round (kList.getD t 0) (ws.getD t 0)
def blockOf (s : St) (bs : List UInt8) : St := s.plus (roundsTo s (rowTo bs 64) 64)
def init : St := ⟨1779033703#32, 3144134277#32, 1013904242#32, 2773480762#32, 1359893119#32, 2600822924#32, 528734635#32, 1541459225#32⟩
def be64 (n : Nat) : List UInt8 := (List.range 8).map fun k => UInt8.ofNat (n >>> (56 - 8 * k))
def zerosOf (n : Nat) : Nat := (119 - n % 64) % 64
def padded (bs : List UInt8) : List UInt8 := bs ++ [128] ++ List.replicate (zerosOf bs.length) 0 ++ be64 (8 * bs.length)
def stTo (p : List UInt8) : Nat → St
  | 0 => init
  | n + 1 => blockOf (stTo p n) ((p.drop (64 * n)).take 64)
def lowByte (x : W32) : UInt8 := UInt8.ofNat x.toNat
def bytesOf (w : W32) : List UInt8 := [lowByte (w >>> 24), lowByte (w >>> 16), lowByte (w >>> 8), lowByte w]
def St.words (s : St) : List W32 := [s.a, s.b, s.c, s.d, s.e, s.f, s.g, s.h]
def sha (bs : List UInt8) : List UInt8 := (stTo (padded bs) ((padded bs).length / 64)).words.flatMap bytesOf

