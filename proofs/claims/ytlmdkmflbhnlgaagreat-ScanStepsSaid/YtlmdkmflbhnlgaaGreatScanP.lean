/- The machine of scan, as it steps: plain definitions. No condition. -/
import Derived.Test.YtlmdkmflbhnlgaaGreatTells
import Derived.Test.YtlmdkmflbhnlgaaGreatFixedGet
import Derived.Test.YtlmdkmflbhnlgaaGreatStuffCount
import Derived.Test.YtlmdkmflbhnlgaaGreatSizeF
import Derived.Test.YtlmdkmflbhnlgaaGreatClone
import Derived.Test.YtlmdkmflbhnlgaaGreatRunBits
import Derived.Test.YtlmdkmflbhnlgaaGreatPack
import Derived.Test.YtlmdkmflbhnlgaaGreatOwn
import Derived.Laws.EntriesVeiled
namespace Go.Proofs.YtlmdkmflbhnlgaaGreat
open Go.RowKit
/-- What is done when what was asked for is there. -/
inductive Nxt where
  | start | ident | extended | reserved | format | newer | code | codeC (at_ n : Nat) | fdCode | fdData (size : Nat) | xlHead | nil
/-- What is done with a part. -/
inductive Do where
  | fd (kind : Nat) | xl1 | xl2 (size : Nat)
/-- What comes behind a mark. -/
inductive Aft where
  | xlCode | fin
/-- What takes a bit. -/
inductive Stp where
  | dynamic | part (prev ev : Nat) (ah : Bool) (size : Nat) (d : Do) | mark (l : List Nat) (a : Aft) | last
/-- The machine. -/
structure MS where
  xl : Bool
  kind : Nat
  err : Nat
  sf : Fr
  seen : Nat
  step : Stp
  next : Nxt
  raw : List Nat
  l : List Nat
  need : Nat
  own : List Nat
  f : Fr
  fits : Bool
  at_ : Nat
  /-- a row of the caller's own that rides along -/
  gh : Option Addr × Nat × List Nat
def zFr : Fr := ⟨0, 0, false, false, false, false, false, 0, 0, 0, []⟩
def newM (xl : Bool) : MS := ⟨xl, 0, 0, zFr, 0, .dynamic, .start, [], [], 1, [], zFr, false, 0, (none, 0, [])⟩
def badM (S : MS) (e : Nat) : MS := { S with kind := 3, err := e, sf := zFr }
def askM (S : MS) (n : Nat) (x : Nxt) : MS := { S with need := n, next := x }
def mustM (S : MS) (is : Bool) : MS := if is then S else badM S 5
def flagM (S : MS) (i : Nat) : Bool := S.l.getD i 0 == 1
def numM (S : MS) (i j : Nat) : Nat := numN ((S.l.take j).drop i)
def endM (S : MS) : MS := { S with at_ := 0, step := .last }
def startM (S : MS) : MS := if flagM S 0 then badM S 5 else askM S 14 .ident
def identM (S : MS) : MS :=
  let S := { S with f := { zFr with kind := 1, id := numM S 1 12, rtr := flagM S 12 } }
  if flagM S 13 then (if S.f.rtr then askM S 34 .extended else badM S 5) else askM S 15 .format
def extendedM (S : MS) : MS :=
  let S := { S with f := { S.f with ext := true, rtr := flagM S 32 } }
  let S := { S with f := { S.f with id := S.f.id * 262144 + numM S 14 32 } }
  if flagM S 33 then badM S 5 else askM S 35 .reserved
def reservedM (S : MS) : MS := if flagM S 34 then badM S 5 else askM S 39 .code
def newerM (S : MS) : MS :=
  if flagM S 15 then (if S.xl then askM { S with f := { S.f with kind := 3 } } 17 .xlHead else { S with kind := 4, err := 0, sf := zFr }) else askM { S with f := { S.f with kind := 2 } } 22 .fdCode
def formatM (S : MS) : MS := if flagM S 14 then (if S.f.rtr then badM S 5 else askM S 16 .newer) else askM S 19 .code
def lastM (S : MS) (b : Nat) : MS :=
  let k := S.at_
  let S := { S with at_ := k + 1, kind := 0, err := 0, sf := zFr }
  if k = 2 ∧ S.fits = false then badM S 6
  else if k ≠ 1 ∧ b = 0 then badM S 5
  else if k = 0 ∧ S.fits = true then { S with kind := 1 }
  else if k + 1 = 9 then { S with kind := 2, sf := S.f }
  else S
/-- A frame's eleven cells. -/
def frC (f : Fr) (A : Option Addr) (c : Nat) : List Value := [.int .i64 f.kind, .int .u32 f.id, .bool f.ext, .bool f.rtr, .bool f.brs, .bool f.esi, .bool f.sec, .int .u8 f.sdt, .int .u8 f.vcid, .int .u32 f.af, .slice A f.data.length c]
/-- The machine's cells. -/
def mcs (S : MS) (sA : Option Addr) (sc : Nat) (sv nv : Value) (rA : Option Addr) (rc : Nat) (lA : Option Addr) (lc : Nat) (oA : Option Addr) (oc : Nat) (fA : Option Addr) (fc : Nat) : Array Value :=
  #[.bool S.xl, .int .i64 S.kind, .int .i64 S.err,
    .int .i64 S.sf.kind, .int .u32 S.sf.id, .bool S.sf.ext, .bool S.sf.rtr, .bool S.sf.brs, .bool S.sf.esi, .bool S.sf.sec, .int .u8 S.sf.sdt, .int .u8 S.sf.vcid, .int .u32 S.sf.af, .slice sA S.sf.data.length sc,
    .int .i64 S.seen, sv, nv, .slice rA S.raw.length rc, .slice lA S.l.length lc, .int .i64 S.need, .slice oA S.own.length oc,
    .int .i64 S.f.kind, .int .u32 S.f.id, .bool S.f.ext, .bool S.f.rtr, .bool S.f.brs, .bool S.f.esi, .bool S.f.sec, .int .u8 S.f.sdt, .int .u8 S.f.vcid, .int .u32 S.f.af, .slice fA S.f.data.length fc,
    .bool S.fits, .int .i64 S.at_]
def ptr (p : Nat) : Value := .pointer (some ⟨p, 0, none⟩)
/-- An FD frame's size by its code. -/
def fdSz (n : Nat) : Nat := (fdSizes.getD n 0).toNat
/-- How many stuff bits a row has. -/
def countN (raw : List Nat) : Nat := if (splE 0 0 0 [] raw).1 then (splE 0 0 0 [] raw).2.1 else 0
def tellsM (raw l : List Nat) : Bool := tellsOk (numN l) && decide (tellsG (numN l) = countN raw % 8)
def kSize (k : Nat) : Nat := if k = 2 then 17 else 21
def fitsK (k : Nat) (l : List Nat) : Bool := if k = 2 then fitsC 17 92251 65536 l else fitsC 21 1058969 1048576 l
def partM (S : MS) (ev : Nat) (ah : Bool) (n : Nat) (d : Do) : MS := { S with step := .part (if ah then S.raw.getD (S.raw.length - 1) 0 else 1) ev ah (fsize n ev ah) d }
def markM (S : MS) (l : List Nat) (x : Aft) : MS := { S with at_ := 0, step := .mark l x }
def codeM (S : MS) : MS :=
  let at_ := S.l.length
  let n := numM S (at_ - 4) at_
  if n ≤ 8 ∧ (n = 0 ∨ S.f.rtr = false) then askM S (at_ + 8 * n + 15) (.codeC at_ n) else badM S 5
def codeCM (S : MS) (at_ n : Nat) : MS := endM { S with f := { S.f with data := packL ((S.l.take (at_ + 8 * n)).drop at_) }, fits := fitsC 15 17817 0 S.l }
def fdDataM (S : MS) (size : Nat) : MS := partM { S with f := { S.f with data := packL (S.l.drop 22) } } 4 true (4 + kSize (if 16 < size then 3 else 2)) (.fd (if 16 < size then 3 else 2))
def fdCodeM (S : MS) : MS :=
  let S := { S with f := { S.f with brs := flagM S 16, esi := flagM S 17 } }
  let size := fdSz (numM S 18 22)
  if size = 0 then fdDataM S 0 else askM S (22 + 8 * size) (.fdData size)
def xlHeadM (S : MS) : MS := if flagM S 16 then badM S 5 else markM S [1, 0, 0, 1] .xlCode
def nextM (S : MS) : MS := match S.next with
  | .start => startM S | .ident => identM S | .extended => extendedM S | .reserved => reservedM S | .format => formatM S | .newer => newerM S
  | .code => codeM S | .codeC a n => codeCM S a n | .fdCode => fdCodeM S | .fdData n => fdDataM S n | .xlHead => xlHeadM S | .nil => S
def fdFitsM (S : MS) (k : Nat) (own : List Nat) : MS := endM { S with fits := tellsM S.raw (own.take 4) && fitsK k (S.raw ++ own) }
def xlSizeM (S : MS) (l : List Nat) : MS := partM S 8 false (109 + 8 * (numN (l.drop 9) + 1)) (.xl2 (numN (l.drop 9) + 1))
def getL (l : List Nat) (i n : Nat) : Nat := numN ((l.take (i + n)).drop i)
def xlDataM (S : MS) (l : List Nat) (size : Nat) : MS :=
  { S with f := { S.f with sdt := getL l 0 8, sec := getL l 8 1 == 1, vcid := getL l 37 8, af := getL l 45 32, data := packL ((l.take (77 + 8 * size)).drop 77) },
           fits := tellsM S.raw ((l.take 24).drop 20) && fitsC 13 6631 1 (S.l ++ l.take 37) && fitsC 32 4104977171 1 l }
def doM (S : MS) (d : Do) (l : List Nat) : MS := match d with
  | .fd k => fdFitsM S k l | .xl1 => xlSizeM S l | .xl2 n => markM (xlDataM S l n) [0, 1, 1, 0] .fin
def aftM (S : MS) (x : Aft) : MS := match x with
  | .xlCode => partM S 8 false 20 .xl1 | .fin => endM S
/-- Does a row end with five bits alike? -/
def fullR (raw : List Nat) : Bool := decide (5 ≤ raw.length) && (List.range 5).all fun j => endN raw j == endN raw 0
def dynM (S : MS) (b : Nat) : MS :=
  if fullR S.raw = true ∧ b = S.raw.getD (S.raw.length - 1) 0 then badM S 4
  else if fullR S.raw then { S with raw := S.raw ++ [b] }
  else if S.l.length + 1 = S.need then nextM { S with raw := S.raw ++ [b], l := S.l ++ [b] } else { S with raw := S.raw ++ [b], l := S.l ++ [b] }
def partStepM (S : MS) (prev ev : Nat) (ah : Bool) (size : Nat) (d : Do) (b : Nat) : MS :=
  let S := { S with own := S.own ++ [b] }
  let r := fgetN ev ah prev S.own
  if r.1 = 4 then badM S 4 else if S.own.length = size then doM S d r.2 else S
def markStepM (S : MS) (l : List Nat) (x : Aft) (b : Nat) : MS :=
  if b = l.getD S.at_ 0 then (if S.at_ + 1 = l.length then aftM { S with at_ := S.at_ + 1 } x else { S with at_ := S.at_ + 1 }) else badM S 5
def stepM (S : MS) (b : Nat) : MS := match S.step with
  | .dynamic => dynM S b | .part p e a n d => partStepM S p e a n d b | .mark l x => markStepM S l x b | .last => lastM S b
def seeM (S : MS) (b : Nat) : MS := if S.kind < 2 then stepM { S with seen := S.seen + 1 } b else { S with seen := S.seen + 1 }
def scanM (xl : Bool) (raw : List Nat) : MS := raw.foldl seeM (newM xl)
end Go.Proofs.YtlmdkmflbhnlgaaGreat
namespace Go.Proofs.YtlmdkmflbhnlgaaGreat
open Go.RowKit
/-- A block that stays. -/
def BoxV (w : World) (s : List Nat) (p : Nat) (cs : Array Value) (t : TypeId) : Prop := w.heap[p]? = some (.cells cs t (0, 0)) ∧ p ∉ s
theorem BoxV.turn {w w' : World} {s s' : List Nat} {p : Nat} {cs : Array Value} {t : TypeId} (h : BoxV w s p cs t) (ht : Turn s w w') (hs : ∀ k ∈ s', k ∈ s ∨ w.heap.size ≤ k) : BoxV w' s' p cs t :=
  ⟨ht.heap h.1 h.2, fun hm => (hs p hm).elim h.2 (by have := heap_lt h.1; omega)⟩
/-- A row of the machine's own. -/
def RowU (w : World) (s : List Nat) (A : Option Addr) (c : Nat) (l : List Nat) : Prop := Row w 0 5 A c (bys l) ∧ ∀ k ∈ blkA A, k ∈ s
/-- Bytes that stay. -/
def DatU (w : World) (s : List Nat) (A : Option Addr) (c : Nat) (l : List Nat) : Prop := Rd w A (bys l) ∧ (∀ k ∈ blkA A, k ∉ s ∧ k < w.heap.size ∧ ∃ cs fr, w.heap[k]? = some (.cells cs 5 fr)) ∧ (A = none → c = 0)
theorem DatU.turn {w w' : World} {s s' : List Nat} {A : Option Addr} {c : Nat} {l : List Nat} (h : DatU w s A c l) (ht : Turn s w w') (hs : ∀ k ∈ s', k ∈ s ∨ w.heap.size ≤ k) : DatU w' s' A c l :=
  ⟨h.1.turn ht (fun ad e => (h.2.1 _ (by rw [e]; simp [blkA])).1), fun k hk => ⟨fun hm => (hs k hm).elim (h.2.1 k hk).1 (by have := (h.2.1 k hk).2.1; omega), Nat.lt_of_lt_of_le (h.2.1 k hk).2.1 ht.size, by obtain ⟨cs, fr, e⟩ := (h.2.1 k hk).2.2; exact ⟨cs, fr, ht.heap e (h.2.1 k hk).1⟩⟩, h.2.2⟩
theorem Row.blk_ty {w : World} {base t c : Nat} {A : Option Addr} {xs : List Value} (h : Row w base t A c xs) : ∀ k ∈ blkA A, ∃ cs fr, w.heap[k]? = some (.cells cs t fr) := by
  intro k hk
  rcases h.2 with ⟨hv, -⟩ | ⟨q, cap, cur, hv, -, hh, -⟩
  · injection hv with hv; rw [hv] at hk; simp [blkA] at hk
  · injection hv with hv; rw [hv] at hk; simp [blkA] at hk; rw [hk]; exact ⟨_, _, hh⟩
theorem DatU.nil (w : World) (s : List Nat) : DatU w s none 0 [] := ⟨Rd.nil _ _, fun k hk => by simp [blkA] at hk, fun _ => rfl⟩
theorem DatU.of {w : World} {s : List Nat} {base c : Nat} {A : Option Addr} {l : List Nat} (h : Row w base 5 A c (bys l)) (hs : ∀ k ∈ s, k < base) : DatU w s A c l :=
  ⟨h.rd, fun k hk => ⟨fun hm => by have := hs k hm; have := own_blk h k hk; omega, h.lt_ k hk, h.blk_ty k hk⟩, fun e => h.none_ e⟩
def NxtOk (w : World) (s : List Nat) (mp : Nat) : Nxt → Value → Prop
  | .start, v => v = .func (.func 27) #[ptr mp] #[]
  | .ident, v => v = .func (.func 51) #[ptr mp] #[]
  | .extended, v => v = .func (.func 74) #[ptr mp] #[]
  | .reserved, v => v = .func (.func 98) #[ptr mp] #[]
  | .format, v => v = .func (.func 73) #[ptr mp] #[]
  | .newer, v => v = .func (.func 97) #[ptr mp] #[]
  | .code, v => v = .func (.func 96) #[ptr mp] #[]
  | .codeC a n, v => ∃ p q r, v = .func (.func 105) #[] #[ptr p, ptr q, ptr r] ∧ BoxV w s p #[ptr mp] 36 ∧ BoxV w s q #[.int .i64 a] 3 ∧ BoxV w s r #[.int .i64 n] 3
  | .fdCode, v => v = .func (.func 109) #[ptr mp] #[]
  | .fdData n, v => ∃ p q, v = .func (.func 116) #[] #[ptr p, ptr q] ∧ BoxV w s p #[ptr mp] 36 ∧ BoxV w s q #[.int .i64 n] 3
  | .xlHead, v => v = .func (.func 110) #[ptr mp] #[]
  | .nil, v => v = .nilFunc
def DoOk (w : World) (s : List Nat) (mp : Nat) : Do → Value → Prop
  | .fd k, v => ∃ p q, v = .func (.func 118) #[] #[ptr p, ptr q] ∧ BoxV w s p #[ptr mp] 36 ∧ BoxV w s q #[.int .i64 k] 3
  | .xl1, v => ∃ p q, v = .func (.func 132) #[] #[ptr p, ptr q] ∧ BoxV w s p #[ptr mp] 36 ∧ BoxV w s q #[.int .i64 8, .bool false] 99
  | .xl2 n, v => ∃ p q, v = .func (.func 133) #[] #[ptr p, ptr q] ∧ BoxV w s p #[ptr mp] 36 ∧ BoxV w s q #[.int .i64 n] 3
def AftOk (mp : Nat) : Aft → Value → Prop
  | .xlCode, v => v = .func (.func 121) #[ptr mp] #[]
  | .fin, v => v = .func (.func 108) #[ptr mp] #[]
def StpOk (w : World) (s : List Nat) (mp : Nat) : Stp → Value → Prop
  | .dynamic, v => v = .func (.func 25) #[ptr mp] #[]
  | .part prev ev ah size d, v => ∃ p q r u t dv, v = .func (.func 127) #[] #[ptr p, ptr q, ptr r, ptr u, ptr t] ∧ BoxV w s p #[ptr mp] 36 ∧ BoxV w s q #[.int .u8 prev] 5 ∧ BoxV w s r #[.int .i64 ev, .bool ah] 99 ∧ BoxV w s u #[.int .i64 size] 3 ∧ BoxV w s t #[dv] 159 ∧ DoOk w s mp d dv
  | .mark l a, v => ∃ p q r A c av, v = .func (.func 131) #[] #[ptr p, ptr q, ptr r] ∧ BoxV w s p #[ptr mp] 36 ∧ BoxV w s q #[.slice A l.length c] 22 ∧ BoxV w s r #[av] 1 ∧ DatU w s A c l ∧ AftOk mp a av
  | .last, v => v = .func (.func 114) #[ptr mp] #[]
theorem NxtOk.turn {w w' : World} {s s' : List Nat} {mp : Nat} {x : Nxt} {v : Value} (h : NxtOk w s mp x v) (ht : Turn s w w') (hs : ∀ k ∈ s', k ∈ s ∨ w.heap.size ≤ k) : NxtOk w' s' mp x v := by
  cases x
  case codeC a n => obtain ⟨p, q, r, e, h1, h2, h3⟩ := h; exact ⟨p, q, r, e, h1.turn ht hs, h2.turn ht hs, h3.turn ht hs⟩
  case fdData n => obtain ⟨p, q, e, h1, h2⟩ := h; exact ⟨p, q, e, h1.turn ht hs, h2.turn ht hs⟩
  all_goals exact h
theorem DoOk.turn {w w' : World} {s s' : List Nat} {mp : Nat} {x : Do} {v : Value} (h : DoOk w s mp x v) (ht : Turn s w w') (hs : ∀ k ∈ s', k ∈ s ∨ w.heap.size ≤ k) : DoOk w' s' mp x v := by
  cases x <;> (obtain ⟨p, q, e, h1, h2⟩ := h; exact ⟨p, q, e, h1.turn ht hs, h2.turn ht hs⟩)
theorem StpOk.turn {w w' : World} {s s' : List Nat} {mp : Nat} {x : Stp} {v : Value} (h : StpOk w s mp x v) (ht : Turn s w w') (hs : ∀ k ∈ s', k ∈ s ∨ w.heap.size ≤ k) : StpOk w' s' mp x v := by
  cases x
  case part prev ev ah size d => obtain ⟨p, q, r, u, t, dv, e, h1, h2, h3, h4, h5, h6⟩ := h; exact ⟨p, q, r, u, t, dv, e, h1.turn ht hs, h2.turn ht hs, h3.turn ht hs, h4.turn ht hs, h5.turn ht hs, h6.turn ht hs⟩
  case mark l a => obtain ⟨p, q, r, A, c, av, e, h1, h2, h3, h4, h5⟩ := h; exact ⟨p, q, r, A, c, av, e, h1.turn ht hs, h2.turn ht hs, h3.turn ht hs, h4.turn ht hs, h5⟩
  all_goals exact h
/-- The machine's addresses. -/
structure MA where
  sA : Option Addr
  sc : Nat
  sv : Value
  nv : Value
  rA : Option Addr
  rc : Nat
  lA : Option Addr
  lc : Nat
  oA : Option Addr
  oc : Nat
  fA : Option Addr
  fc : Nat
def mca (S : MS) (a : MA) : Array Value := mcs S a.sA a.sc a.sv a.nv a.rA a.rc a.lA a.lc a.oA a.oc a.fA a.fc
/-- A row of the caller's own beside the machine's. -/
structure Gho (w : World) (s : List Nat) (g : Option Addr × Nat × List Nat) (rA lA oA : Option Addr) : Prop where
  row : RowU w s g.1 g.2.1 g.2.2
  r : ∀ k ∈ blkA g.1, k ∉ blkA rA
  l : ∀ k ∈ blkA g.1, k ∉ blkA lA
  o : ∀ k ∈ blkA g.1, k ∉ blkA oA
structure MRest (w : World) (s : List Nat) (mp : Nat) (raw l own sd fd : List Nat) (st : Stp) (nx : Nxt) (gh : Option Addr × Nat × List Nat) (a : MA) : Prop where
  mem : mp ∈ s ∧ ∀ k ∈ s, k < w.heap.size
  raw : RowU w s a.rA a.rc raw
  l : RowU w s a.lA a.lc l
  own : RowU w s a.oA a.oc own
  rl : ∀ k ∈ blkA a.rA, k ∉ blkA a.lA
  ro : ∀ k ∈ blkA a.rA, k ∉ blkA a.oA
  lo : ∀ k ∈ blkA a.lA, k ∉ blkA a.oA
  sf : DatU w s a.sA a.sc sd
  f : DatU w s a.fA a.fc fd
  step : StpOk w s mp st a.sv
  next : NxtOk w s mp nx a.nv
  gho : Gho w s gh a.rA a.lA a.oA
/-- The machine lies. -/
structure MR (w : World) (s : List Nat) (mp : Nat) (S : MS) (a : MA) : Prop where
  cells : w.heap[mp]? = some (.cells (mca S a) 59 (0, 0))
  rest : MRest w s mp S.raw S.l S.own S.sf.data S.f.data S.step S.next S.gh a
theorem Row.ne_ty {w : World} {base t c g : Nat} {A : Option Addr} {xs : List Value} {cs : Array Value} {u : TypeId} {fr : Nat × Nat} (h : Row w base t A c xs) (hg : w.heap[g]? = some (.cells cs u fr)) (hu : u ≠ t) : ∀ k ∈ blkA A, k ≠ g := by
  intro k hk
  rcases h.2 with ⟨hv, -⟩ | ⟨q, cap, cur, hv, -, hh, -⟩
  · injection hv with hv; rw [hv] at hk; simp [blkA] at hk
  · injection hv with hv; rw [hv] at hk; simp [blkA] at hk; rw [hk]; exact ne_of_type hh hg (Ne.symm hu)
theorem RowU.turn {w w' : World} {s t : List Nat} {A : Option Addr} {c : Nat} {l : List Nat} (h : RowU w s A c l) (ht : Turn t w w') (hd : ∀ k ∈ blkA A, k ∉ t) : RowU w' s A c l :=
  ⟨h.1.turn ht (fun ad e => hd _ (by rw [e]; simp [blkA])), h.2⟩
/-- What turns only the machine's own cells leaves the rest. -/
theorem MRest.turnM {w w' : World} {s : List Nat} {mp : Nat} {raw l own sd fd : List Nat} {st : Stp} {nx : Nxt} {gh : Option Addr × Nat × List Nat} {a : MA} (h : MRest w s mp raw l own sd fd st nx gh a) (ht : Turn [mp] w w') {cs : Array Value} (hm : w.heap[mp]? = some (.cells cs 59 (0, 0))) : MRest w' s mp raw l own sd fd st nx gh a := by
  have hts : Turn s w w' := ht.mono fun x hx => .inl (by simp at hx; rw [hx]; exact h.mem.1)
  have hss : ∀ k ∈ s, k ∈ s ∨ w.heap.size ≤ k := fun k hk => .inl hk
  have hn : ∀ {A : Option Addr} {c : Nat} {l : List Nat}, RowU w s A c l → RowU w' s A c l := fun hR => hR.turn ht (fun k hk => by simp only [List.mem_singleton]; exact hR.1.ne_ty hm (by decide) k hk)
  exact ⟨⟨h.mem.1, fun k hk => Nat.lt_of_lt_of_le (h.mem.2 k hk) hts.size⟩, hn h.raw, hn h.l, hn h.own, h.rl, h.ro, h.lo, h.sf.turn hts hss, h.f.turn hts hss, h.step.turn hts hss, h.next.turn hts hss, ⟨hn h.gho.row, h.gho.r, h.gho.l, h.gho.o⟩⟩
theorem MRest.below {w w' : World} {s : List Nat} {mp : Nat} {raw l own sd fd : List Nat} {st : Stp} {nx : Nxt} {gh : Option Addr × Nat × List Nat} {a : MA} (h : MRest w s mp raw l own sd fd st nx gh a) (hb : Below w.heap.size w w') : MRest w' s mp raw l own sd fd st nx gh a := by
  have hts : Turn s w w' := (Turn.of hb)
  have hss : ∀ k ∈ s, k ∈ s ∨ w.heap.size ≤ k := fun k hk => .inl hk
  have hn : ∀ {A : Option Addr} {c : Nat} {l : List Nat}, RowU w s A c l → RowU w' s A c l := fun hR => hR.turn (t := []) (Turn.of hb) (fun k hk => by simp)
  exact ⟨⟨h.mem.1, fun k hk => Nat.lt_of_lt_of_le (h.mem.2 k hk) hts.size⟩, hn h.raw, hn h.l, hn h.own, h.rl, h.ro, h.lo, h.sf.turn hts hss, h.f.turn hts hss, h.step.turn hts hss, h.next.turn hts hss, ⟨hn h.gho.row, h.gho.r, h.gho.l, h.gho.o⟩⟩
theorem MR.below {w w' : World} {s : List Nat} {mp : Nat} {S : MS} {a : MA} (h : MR w s mp S a) (hb : Below w.heap.size w w') : MR w' s mp S a := ⟨heap_below hb h.cells, h.rest.below hb⟩
theorem MR.drew {w : World} {s : List Nat} {mp : Nat} {S : MS} {a : MA} (h : MR w s mp S a) : MR w.drew s mp S a := h.below (Below.refl _ _).drew
theorem MR.alloc {w : World} {s : List Nat} {mp : Nat} {S : MS} {a : MA} (h : MR w s mp S a) (o : Obj) : MR (w.alloc o) s mp S a := h.below (below_alloc (Below.refl _ _) o)
theorem MR.cell {w : World} {s : List Nat} {mp : Nat} {S : MS} {a : MA} (h : MR w s mp S a) (i : Nat) (v : Value) (hv : (mca S a)[i]? = some v) : w.cell? ⟨mp, i, none⟩ = some v := cell_of_heap h.cells i v hv
theorem MR.frz {w : World} {s : List Nat} {mp : Nat} {S : MS} {a : MA} (h : MR w s mp S a) (i : Nat) : w.frozen? ⟨mp, i, none⟩ = false := by simp [World.frozen?, h.cells]
theorem MR.lt {w : World} {s : List Nat} {mp : Nat} {S : MS} {a : MA} (h : MR w s mp S a) : mp < w.heap.size := heap_lt h.cells
theorem MR.put {w : World} {s : List Nat} {mp : Nat} {S S' : MS} {a : MA} (h : MR w s mp S a) (i : Nat) (v : Value) (hv : (mca S a).setIfInBounds i v = mca S' a)
    (hk : ∀ w', MRest w' s mp S.raw S.l S.own S.sf.data S.f.data S.step S.next S.gh a → MRest w' s mp S'.raw S'.l S'.own S'.sf.data S'.f.data S'.step S'.next S'.gh a) : MR (w.setCell ⟨mp, i, none⟩ v) s mp S' a :=
  ⟨by rw [heap_setCell h.cells i v, hv], hk _ (h.rest.turnM ((Turn.refl _ _).setCell (p := ⟨mp, i, none⟩) (.inl (by simp)) _) h.cells)⟩
theorem MR.turn1 {w : World} {s : List Nat} {mp : Nat} {S : MS} {a : MA} (h : MR w s mp S a) (i : Nat) (v : Value) : Turn s w (w.setCell ⟨mp, i, none⟩ v) := (Turn.refl _ _).setCell (p := ⟨mp, i, none⟩) (.inl h.rest.mem.1) _
/-- What an act leaves of the machine. -/
def MAct (w : World) (s : List Nat) (mp : Nat) (S : MS) (w' : World) : Prop := ∃ s' a', MR w' s' mp S a' ∧ (∀ k ∈ s', k ∈ s ∨ w.heap.size ≤ k) ∧ Turn s w w'
theorem MAct.same {w w' : World} {s : List Nat} {mp : Nat} {S : MS} {a : MA} (h : MR w' s mp S a) (ht : Turn s w w') : MAct w s mp S w' := ⟨s, a, h, fun _ hk => .inl hk, ht⟩
theorem MAct.after {w w1 w2 : World} {s s1 : List Nat} {mp : Nat} {S : MS} (h : MAct w1 s1 mp S w2) (hs : ∀ k ∈ s1, k ∈ s ∨ w.heap.size ≤ k) (ht : Turn s w w1) : MAct w s mp S w2 := by
  obtain ⟨s', a', h1, h2, h3⟩ := h
  refine ⟨s', a', h1, fun k hk => (h2 k hk).elim (hs k) (fun h => .inr (Nat.le_trans ht.size h)), ht.trans h3 hs⟩
/-- What an act that tells nothing ends with. -/
def MDone (w : World) (s : List Nat) (mp : Nat) (S : MS) (e : Ending) (w' : World) : Prop := e = .returned (.tuple #[]) ∧ MAct w s mp S w'
/-- A store of many cells. -/
def setAll : List Value → Nat → Array Value → Array Value
  | [], _, cs => cs
  | v :: r, o, cs => setAll r (o + 1) (cs.setIfInBounds o v)
theorem heap_setAll {g : Nat} {t : TypeId} {fr : Nat × Nat} : ∀ (vs : List Value) (o : Nat) {w : World} {cs : Array Value}, w.heap[g]? = some (.cells cs t fr) → (w.setCells g o vs).heap[g]? = some (.cells (setAll vs o cs) t fr)
  | [], _, _, _, h => h
  | v :: r, o, _, _, h => by rw [World.setCells, setAll]; exact heap_setAll r (o + 1) (heap_setCell h o v)
theorem MR.puts {w : World} {s : List Nat} {mp : Nat} {S S' : MS} {a a' : MA} (h : MR w s mp S a) (i : Nat) (vs : List Value) (hv : setAll vs i (mca S a) = mca S' a')
    (hk : ∀ w', MRest w' s mp S.raw S.l S.own S.sf.data S.f.data S.step S.next S.gh a → MRest w' s mp S'.raw S'.l S'.own S'.sf.data S'.f.data S'.step S'.next S'.gh a') : MR (w.setCells mp i vs) s mp S' a' ∧ Turn s w (w.setCells mp i vs) :=
  ⟨⟨by rw [heap_setAll vs i h.cells, hv], hk _ (h.rest.turnM (Turn.setCells (.inl (by simp)) _ _ (Turn.refl _ _)) h.cells)⟩, Turn.setCells (.inl h.rest.mem.1) _ _ (Turn.refl _ _)⟩
theorem there_at {w : World} {b : Nat} {cs : Array Value} {t : TypeId} (h : w.heap[b]? = some (.cells cs t (0, 0))) (o n : Nat) (hn : o + n ≤ cs.size) : w.there b o n := fun j hj => by
  have hlt : o + j < cs.size := by omega
  refine ⟨?_, by simp [World.frozen?, h]⟩
  rw [cell_of_heap h (o + j) cs[o + j] (by simp [hlt])]; rfl
theorem MR.there {w : World} {s : List Nat} {mp : Nat} {S : MS} {a : MA} (h : MR w s mp S a) (o n : Nat) (hn : o + n ≤ 34) : w.there mp o n := there_at h.cells _ _ (by simp [mca, mcs]; omega)
/-! ### a block of another kind is turned -/
theorem BoxV.turnG {w w' : World} {s : List Nat} {p g : Nat} {cs : Array Value} {t : TypeId} {ds : Array Value} {u : TypeId} {fr : Nat × Nat} (h : BoxV w s p cs t) (ht : Turn [g] w w') (hg : w.heap[g]? = some (.cells ds u fr)) (hne : u ≠ t) : BoxV w' s p cs t :=
  ⟨ht.heap h.1 (by simp only [List.mem_singleton]; exact ne_of_type h.1 hg (Ne.symm hne)), h.2⟩
theorem DatU.turnG {w w' : World} {s : List Nat} {g c : Nat} {A : Option Addr} {l : List Nat} {ds : Array Value} {u : TypeId} {fr : Nat × Nat} (h : DatU w s A c l) (ht : Turn [g] w w') (hg : w.heap[g]? = some (.cells ds u fr)) (hne : u ≠ 5) : DatU w' s A c l := by
  have hn : ∀ k ∈ blkA A, k ∉ [g] := fun k hk => by
    obtain ⟨cs, fr', e⟩ := (h.2.1 k hk).2.2
    simp only [List.mem_singleton]
    exact ne_of_type e hg (Ne.symm hne)
  exact ⟨h.1.turn ht (fun ad e => hn _ (by rw [e]; simp [blkA])), fun k hk => ⟨(h.2.1 k hk).1, Nat.lt_of_lt_of_le (h.2.1 k hk).2.1 ht.size, by obtain ⟨cs, fr, e⟩ := (h.2.1 k hk).2.2; exact ⟨cs, fr, ht.heap e (hn k hk)⟩⟩, h.2.2⟩
theorem MR.turnG {w w' : World} {s : List Nat} {mp g : Nat} {S : MS} {a : MA} {ds : Array Value} {fr : Nat × Nat} (h : MR w s mp S a) (ht : Turn [g] w w') (hg : w.heap[g]? = some (.cells ds 30 fr)) (hgs : g ∉ s) : MR w' s mp S a := by
  have hb : ∀ {p : Nat} {cs : Array Value} {t : TypeId}, BoxV w s p cs t → (30 : Nat) ≠ t → BoxV w' s p cs t := fun hB hne => hB.turnG ht hg hne
  have hd : ∀ {A : Option Addr} {c : Nat} {l : List Nat}, DatU w s A c l → DatU w' s A c l := fun hD => hD.turnG ht hg (by decide)
  have hr : ∀ {A : Option Addr} {c : Nat} {l : List Nat}, RowU w s A c l → RowU w' s A c l := fun hR => hR.turn ht (fun k hk => by simp only [List.mem_singleton]; intro e; subst e; exact hgs (hR.2 _ hk))
  have hdo : ∀ {d : Do} {v : Value}, DoOk w s mp d v → DoOk w' s mp d v := by
    intro d v hD
    cases d <;> (obtain ⟨p, q, e, h1, h2⟩ := hD; exact ⟨p, q, e, hb h1 (by decide), hb h2 (by decide)⟩)
  refine ⟨ht.heap h.cells (by simp only [List.mem_singleton]; intro e; subst e; exact hgs h.rest.mem.1), ⟨⟨h.rest.mem.1, fun k hk => Nat.lt_of_lt_of_le (h.rest.mem.2 k hk) ht.size⟩, hr h.rest.raw, hr h.rest.l, hr h.rest.own, h.rest.rl, h.rest.ro, h.rest.lo, hd h.rest.sf, hd h.rest.f, ?_, ?_, ⟨hr h.rest.gho.row, h.rest.gho.r, h.rest.gho.l, h.rest.gho.o⟩⟩⟩
  · have hs := h.rest.step
    generalize S.step = x at *
    generalize a.sv = v at *
    cases x
    case part prev ev ah size d => obtain ⟨p, q, r, u, t, dv, e, h1, h2, h3, h4, h5, h6⟩ := hs; exact ⟨p, q, r, u, t, dv, e, hb h1 (by decide), hb h2 (by decide), hb h3 (by decide), hb h4 (by decide), hb h5 (by decide), hdo h6⟩
    case mark l x => obtain ⟨p, q, r, A, c, av, e, h1, h2, h3, h4, h5⟩ := hs; exact ⟨p, q, r, A, c, av, e, hb h1 (by decide), hb h2 (by decide), hb h3 (by decide), hd h4, h5⟩
    all_goals exact hs
  · have hn := h.rest.next
    generalize S.next = x at *
    generalize a.nv = v at *
    cases x
    case codeC at_ n => obtain ⟨p, q, r, e, h1, h2, h3⟩ := hn; exact ⟨p, q, r, e, hb h1 (by decide), hb h2 (by decide), hb h3 (by decide)⟩
    case fdData n => obtain ⟨p, q, e, h1, h2⟩ := hn; exact ⟨p, q, e, hb h1 (by decide), hb h2 (by decide)⟩
    all_goals exact hn
end Go.Proofs.YtlmdkmflbhnlgaaGreat
