/- Words, walks and plain facts that several laws need, part 4: each with its own head. No condition. -/
import Derived.Test.YtlmdkmflbhnlgaaGreatZScan3
import Derived.Laws.EntriesVeiled
-- ScanP: The machine of scan, as it steps: plain definitions. No condition.
namespace Go.Proofs.YtlmdkmflbhnlgaaGreat
open Go.RowKit
/-- What is done when what was asked for is there. -/
inductive Nxt where
  | start | ident | extended | reserved | format | newer | code | codeC (at_ n : Nat) | fdCode | fdData (size : Nat) | xlHead | nil
/-- What is done with a part. -/
inductive Do where
  | fd (kind : Nat) | xl1 | xl2 (size : Nat)
/-- What comes behind a mark. -/
inductive Aft where
  | xlCode | fin
/-- What takes a bit. -/
inductive Stp where
  | dynamic | part (prev ev : Nat) (ah : Bool) (size : Nat) (d : Do) | mark (l : List Nat) (a : Aft) | last
/-- The machine. -/
structure MS where
  xl : Bool
  kind : Nat
  err : Nat
  sf : Fr
  seen : Nat
  step : Stp
  next : Nxt
  raw : List Nat
  l : List Nat
  need : Nat
  own : List Nat
  f : Fr
  fits : Bool
  at_ : Nat
  /-- a row of the caller's own that rides along -/
  gh : Option Addr × Nat × List Nat
def zFr : Fr := ⟨0, 0, false, false, false, false, false, 0, 0, 0, []⟩
def newM (xl : Bool) : MS := ⟨xl, 0, 0, zFr, 0, .dynamic, .start, [], [], 1, [], zFr, false, 0, (none, 0, [])⟩
def badM (S : MS) (e : Nat) : MS := { S with kind := 3, err := e, sf := zFr }
def askM (S : MS) (n : Nat) (x : Nxt) : MS := { S with need := n, next := x }
def mustM (S : MS) (is : Bool) : MS := if is then S else badM S 5
def flagM (S : MS) (i : Nat) : Bool := S.l.getD i 0 == 1
def numM (S : MS) (i j : Nat) : Nat := numN ((S.l.take j).drop i)
def endM (S : MS) : MS := { S with at_ := 0, step := .last }
def startM (S : MS) : MS := if flagM S 0 then badM S 5 else askM S 14 .ident
def identM (S : MS) : MS :=
  let S := { S with f := { zFr with kind := 1, id := numM S 1 12, rtr := flagM S 12 } }
  if flagM S 13 then (if S.f.rtr then askM S 34 .extended else badM S 5) else askM S 15 .format
def extendedM (S : MS) : MS :=
  let S := { S with f := { S.f with ext := true, rtr := flagM S 32 } }
  let S := { S with f := { S.f with id := S.f.id * 262144 + numM S 14 32 } }
  if flagM S 33 then badM S 5 else askM S 35 .reserved
def reservedM (S : MS) : MS := if flagM S 34 then badM S 5 else askM S 39 .code
def newerM (S : MS) : MS :=
  if flagM S 15 then (if S.xl then askM { S with f := { S.f with kind := 3 } } 17 .xlHead else { S with kind := 4, err := 0, sf := zFr }) else askM { S with f := { S.f with kind := 2 } } 22 .fdCode
def formatM (S : MS) : MS := if flagM S 14 then (if S.f.rtr then badM S 5 else askM S 16 .newer) else askM S 19 .code
def lastM (S : MS) (b : Nat) : MS :=
  let k := S.at_
  let S := { S with at_ := k + 1, kind := 0, err := 0, sf := zFr }
  if k = 2 ∧ S.fits = false then badM S 6
  else if k ≠ 1 ∧ b = 0 then badM S 5
  else if k = 0 ∧ S.fits = true then { S with kind := 1 }
  else if k + 1 = 9 then { S with kind := 2, sf := S.f }
  else S
/-- A frame's eleven cells. -/
def frC (f : Fr) (A : Option Addr) (c : Nat) : List Value := [.int .i64 f.kind, .int .u32 f.id, .bool f.ext, .bool f.rtr, .bool f.brs, .bool f.esi, .bool f.sec, .int .u8 f.sdt, .int .u8 f.vcid, .int .u32 f.af, .slice A f.data.length c]
/-- The machine's cells. -/
def mcs (S : MS) (sA : Option Addr) (sc : Nat) (sv nv : Value) (rA : Option Addr) (rc : Nat) (lA : Option Addr) (lc : Nat) (oA : Option Addr) (oc : Nat) (fA : Option Addr) (fc : Nat) : Array Value :=
  #[.bool S.xl, .int .i64 S.kind, .int .i64 S.err,
    .int .i64 S.sf.kind, .int .u32 S.sf.id, .bool S.sf.ext, .bool S.sf.rtr, .bool S.sf.brs, .bool S.sf.esi, .bool S.sf.sec, .int .u8 S.sf.sdt, .int .u8 S.sf.vcid, .int .u32 S.sf.af, .slice sA S.sf.data.length sc,
    .int .i64 S.seen, sv, nv, .slice rA S.raw.length rc, .slice lA S.l.length lc, .int .i64 S.need, .slice oA S.own.length oc,
    .int .i64 S.f.kind, .int .u32 S.f.id, .bool S.f.ext, .bool S.f.rtr, .bool S.f.brs, .bool S.f.esi, .bool S.f.sec, .int .u8 S.f.sdt, .int .u8 S.f.vcid, .int .u32 S.f.af, .slice fA S.f.data.length fc,
    .bool S.fits, .int .i64 S.at_]
def ptr (p : Nat) : Value := .pointer (some ⟨p, 0, none⟩)
/-- An FD frame's size by its code. -/
def fdSz (n : Nat) : Nat := (fdSizes.getD n 0).toNat
/-- How many stuff bits a row has. -/
def countN (raw : List Nat) : Nat := if (splE 0 0 0 [] raw).1 then (splE 0 0 0 [] raw).2.1 else 0
def tellsM (raw l : List Nat) : Bool := tellsOk (numN l) && decide (tellsG (numN l) = countN raw % 8)
def kSize (k : Nat) : Nat := if k = 2 then 17 else 21
def fitsK (k : Nat) (l : List Nat) : Bool := if k = 2 then fitsC 17 92251 65536 l else fitsC 21 1058969 1048576 l
def partM (S : MS) (ev : Nat) (ah : Bool) (n : Nat) (d : Do) : MS := { S with step := .part (if ah then S.raw.getD (S.raw.length - 1) 0 else 1) ev ah (fsize n ev ah) d }
def markM (S : MS) (l : List Nat) (x : Aft) : MS := { S with at_ := 0, step := .mark l x }
def codeM (S : MS) : MS :=
  let at_ := S.l.length
  let n := numM S (at_ - 4) at_
  if n ≤ 8 ∧ (n = 0 ∨ S.f.rtr = false) then askM S (at_ + 8 * n + 15) (.codeC at_ n) else badM S 5
def codeCM (S : MS) (at_ n : Nat) : MS := endM { S with f := { S.f with data := packL ((S.l.take (at_ + 8 * n)).drop at_) }, fits := fitsC 15 17817 0 S.l }
def fdDataM (S : MS) (size : Nat) : MS := partM { S with f := { S.f with data := packL (S.l.drop 22) } } 4 true (4 + kSize (if 16 < size then 3 else 2)) (.fd (if 16 < size then 3 else 2))
def fdCodeM (S : MS) : MS :=
  let S := { S with f := { S.f with brs := flagM S 16, esi := flagM S 17 } }
  let size := fdSz (numM S 18 22)
  if size = 0 then fdDataM S 0 else askM S (22 + 8 * size) (.fdData size)
def xlHeadM (S : MS) : MS := if flagM S 16 then badM S 5 else markM S [1, 0, 0, 1] .xlCode
def nextM (S : MS) : MS := match S.next with
  | .start => startM S | .ident => identM S | .extended => extendedM S | .reserved => reservedM S | .format => formatM S | .newer => newerM S
  | .code => codeM S | .codeC a n => codeCM S a n | .fdCode => fdCodeM S | .fdData n => fdDataM S n | .xlHead => xlHeadM S | .nil => S
def fdFitsM (S : MS) (k : Nat) (own : List Nat) : MS := endM { S with fits := tellsM S.raw (own.take 4) && fitsK k (S.raw ++ own) }
def xlSizeM (S : MS) (l : List Nat) : MS := partM S 8 false (109 + 8 * (numN (l.drop 9) + 1)) (.xl2 (numN (l.drop 9) + 1))
def getL (l : List Nat) (i n : Nat) : Nat := numN ((l.take (i + n)).drop i)
def xlDataM (S : MS) (l : List Nat) (size : Nat) : MS :=
  { S with f := { S.f with sdt := getL l 0 8, sec := getL l 8 1 == 1, vcid := getL l 37 8, af := getL l 45 32, data := packL ((l.take (77 + 8 * size)).drop 77) },
           fits := tellsM S.raw ((l.take 24).drop 20) && fitsC 13 6631 1 (S.l ++ l.take 37) && fitsC 32 4104977171 1 l }
def doM (S : MS) (d : Do) (l : List Nat) : MS := match d with
  | .fd k => fdFitsM S k l | .xl1 => xlSizeM S l | .xl2 n => markM (xlDataM S l n) [0, 1, 1, 0] .fin
def aftM (S : MS) (x : Aft) : MS := match x with
  | .xlCode => partM S 8 false 20 .xl1 | .fin => endM S
/-- Does a row end with five bits alike? -/
def fullR (raw : List Nat) : Bool := decide (5 ≤ raw.length) && (List.range 5).all fun j => endN raw j == endN raw 0
def dynM (S : MS) (b : Nat) : MS :=
  if fullR S.raw = true ∧ b = S.raw.getD (S.raw.length - 1) 0 then badM S 4
  else if fullR S.raw then { S with raw := S.raw ++ [b] }
  else if S.l.length + 1 = S.need then nextM { S with raw := S.raw ++ [b], l := S.l ++ [b] } else { S with raw := S.raw ++ [b], l := S.l ++ [b] }
def partStepM (S : MS) (prev ev : Nat) (ah : Bool) (size : Nat) (d : Do) (b : Nat) : MS :=
  let S := { S with own := S.own ++ [b] }
  let r := fgetN ev ah prev S.own
  if r.1 = 4 then badM S 4 else if S.own.length = size then doM S d r.2 else S
def markStepM (S : MS) (l : List Nat) (x : Aft) (b : Nat) : MS :=
  if b = l.getD S.at_ 0 then (if S.at_ + 1 = l.length then aftM { S with at_ := S.at_ + 1 } x else { S with at_ := S.at_ + 1 }) else badM S 5
def stepM (S : MS) (b : Nat) : MS := match S.step with
  | .dynamic => dynM S b | .part p e a n d => partStepM S p e a n d b | .mark l x => markStepM S l x b | .last => lastM S b
def seeM (S : MS) (b : Nat) : MS := if S.kind < 2 then stepM { S with seen := S.seen + 1 } b else { S with seen := S.seen + 1 }
def scanM (xl : Bool) (raw : List Nat) : MS := raw.foldl seeM (newM xl)
end Go.Proofs.YtlmdkmflbhnlgaaGreat
namespace Go.Proofs.YtlmdkmflbhnlgaaGreat
open Go.RowKit
/-- A block that stays. -/
def BoxV (w : World) (s : List Nat) (p : Nat) (cs : Array Value) (t : TypeId) : Prop := w.heap[p]? = some (.cells cs t (0, 0)) ∧ p ∉ s
theorem BoxV.turn {w w' : World} {s s' : List Nat} {p : Nat} {cs : Array Value} {t : TypeId} (h : BoxV w s p cs t) (ht : Turn s w w') (hs : ∀ k ∈ s', k ∈ s ∨ w.heap.size ≤ k) : BoxV w' s' p cs t :=
  ⟨ht.heap h.1 h.2, fun hm => (hs p hm).elim h.2 (by have := heap_lt h.1; omega)⟩
/-- A row of the machine's own. -/
def RowU (w : World) (s : List Nat) (A : Option Addr) (c : Nat) (l : List Nat) : Prop := Row w 0 5 A c (bys l) ∧ ∀ k ∈ blkA A, k ∈ s
/-- Bytes that stay. -/
def DatU (w : World) (s : List Nat) (A : Option Addr) (c : Nat) (l : List Nat) : Prop := Rd w A (bys l) ∧ (∀ k ∈ blkA A, k ∉ s ∧ k < w.heap.size ∧ ∃ cs fr, w.heap[k]? = some (.cells cs 5 fr)) ∧ (A = none → c = 0)
theorem DatU.turn {w w' : World} {s s' : List Nat} {A : Option Addr} {c : Nat} {l : List Nat} (h : DatU w s A c l) (ht : Turn s w w') (hs : ∀ k ∈ s', k ∈ s ∨ w.heap.size ≤ k) : DatU w' s' A c l :=
  ⟨h.1.turn ht (fun ad e => (h.2.1 _ (by rw [e]; simp [blkA])).1), fun k hk => ⟨fun hm => (hs k hm).elim (h.2.1 k hk).1 (by have := (h.2.1 k hk).2.1; omega), Nat.lt_of_lt_of_le (h.2.1 k hk).2.1 ht.size, by obtain ⟨cs, fr, e⟩ := (h.2.1 k hk).2.2; exact ⟨cs, fr, ht.heap e (h.2.1 k hk).1⟩⟩, h.2.2⟩
theorem Row.blk_ty {w : World} {base t c : Nat} {A : Option Addr} {xs : List Value} (h : Row w base t A c xs) : ∀ k ∈ blkA A, ∃ cs fr, w.heap[k]? = some (.cells cs t fr) := by
  intro k hk
  rcases h.2 with ⟨hv, -⟩ | ⟨q, cap, cur, hv, -, hh, -⟩
  · injection hv with hv; rw [hv] at hk; simp [blkA] at hk
  · injection hv with hv; rw [hv] at hk; simp [blkA] at hk; rw [hk]; exact ⟨_, _, hh⟩
theorem DatU.nil (w : World) (s : List Nat) : DatU w s none 0 [] := ⟨Rd.nil _ _, fun k hk => by simp [blkA] at hk, fun _ => rfl⟩
theorem DatU.of {w : World} {s : List Nat} {base c : Nat} {A : Option Addr} {l : List Nat} (h : Row w base 5 A c (bys l)) (hs : ∀ k ∈ s, k < base) : DatU w s A c l :=
  ⟨h.rd, fun k hk => ⟨fun hm => by have := hs k hm; have := own_blk h k hk; omega, h.lt_ k hk, h.blk_ty k hk⟩, fun e => h.none_ e⟩
def NxtOk (w : World) (s : List Nat) (mp : Nat) : Nxt → Value → Prop
  | .start, v => v = .func (.func 27) #[ptr mp] #[]
  | .ident, v => v = .func (.func 51) #[ptr mp] #[]
  | .extended, v => v = .func (.func 74) #[ptr mp] #[]
  | .reserved, v => v = .func (.func 98) #[ptr mp] #[]
  | .format, v => v = .func (.func 73) #[ptr mp] #[]
  | .newer, v => v = .func (.func 97) #[ptr mp] #[]
  | .code, v => v = .func (.func 96) #[ptr mp] #[]
  | .codeC a n, v => ∃ p q r, v = .func (.func 105) #[] #[ptr p, ptr q, ptr r] ∧ BoxV w s p #[ptr mp] 36 ∧ BoxV w s q #[.int .i64 a] 3 ∧ BoxV w s r #[.int .i64 n] 3
  | .fdCode, v => v = .func (.func 109) #[ptr mp] #[]
  | .fdData n, v => ∃ p q, v = .func (.func 116) #[] #[ptr p, ptr q] ∧ BoxV w s p #[ptr mp] 36 ∧ BoxV w s q #[.int .i64 n] 3
  | .xlHead, v => v = .func (.func 110) #[ptr mp] #[]
  | .nil, v => v = .nilFunc
def DoOk (w : World) (s : List Nat) (mp : Nat) : Do → Value → Prop
  | .fd k, v => ∃ p q, v = .func (.func 118) #[] #[ptr p, ptr q] ∧ BoxV w s p #[ptr mp] 36 ∧ BoxV w s q #[.int .i64 k] 3
  | .xl1, v => ∃ p q, v = .func (.func 132) #[] #[ptr p, ptr q] ∧ BoxV w s p #[ptr mp] 36 ∧ BoxV w s q #[.int .i64 8, .bool false] 99
  | .xl2 n, v => ∃ p q, v = .func (.func 133) #[] #[ptr p, ptr q] ∧ BoxV w s p #[ptr mp] 36 ∧ BoxV w s q #[.int .i64 n] 3
def AftOk (mp : Nat) : Aft → Value → Prop
  | .xlCode, v => v = .func (.func 121) #[ptr mp] #[]
  | .fin, v => v = .func (.func 108) #[ptr mp] #[]
def StpOk (w : World) (s : List Nat) (mp : Nat) : Stp → Value → Prop
  | .dynamic, v => v = .func (.func 25) #[ptr mp] #[]
  | .part prev ev ah size d, v => ∃ p q r u t dv, v = .func (.func 127) #[] #[ptr p, ptr q, ptr r, ptr u, ptr t] ∧ BoxV w s p #[ptr mp] 36 ∧ BoxV w s q #[.int .u8 prev] 5 ∧ BoxV w s r #[.int .i64 ev, .bool ah] 99 ∧ BoxV w s u #[.int .i64 size] 3 ∧ BoxV w s t #[dv] 159 ∧ DoOk w s mp d dv
  | .mark l a, v => ∃ p q r A c av, v = .func (.func 131) #[] #[ptr p, ptr q, ptr r] ∧ BoxV w s p #[ptr mp] 36 ∧ BoxV w s q #[.slice A l.length c] 22 ∧ BoxV w s r #[av] 1 ∧ DatU w s A c l ∧ AftOk mp a av
  | .last, v => v = .func (.func 114) #[ptr mp] #[]
theorem NxtOk.turn {w w' : World} {s s' : List Nat} {mp : Nat} {x : Nxt} {v : Value} (h : NxtOk w s mp x v) (ht : Turn s w w') (hs : ∀ k ∈ s', k ∈ s ∨ w.heap.size ≤ k) : NxtOk w' s' mp x v := by
  cases x
  case codeC a n => obtain ⟨p, q, r, e, h1, h2, h3⟩ := h; exact ⟨p, q, r, e, h1.turn ht hs, h2.turn ht hs, h3.turn ht hs⟩
  case fdData n => obtain ⟨p, q, e, h1, h2⟩ := h; exact ⟨p, q, e, h1.turn ht hs, h2.turn ht hs⟩
  all_goals exact h
theorem DoOk.turn {w w' : World} {s s' : List Nat} {mp : Nat} {x : Do} {v : Value} (h : DoOk w s mp x v) (ht : Turn s w w') (hs : ∀ k ∈ s', k ∈ s ∨ w.heap.size ≤ k) : DoOk w' s' mp x v := by
  cases x <;> (obtain ⟨p, q, e, h1, h2⟩ := h; exact ⟨p, q, e, h1.turn ht hs, h2.turn ht hs⟩)
theorem StpOk.turn {w w' : World} {s s' : List Nat} {mp : Nat} {x : Stp} {v : Value} (h : StpOk w s mp x v) (ht : Turn s w w') (hs : ∀ k ∈ s', k ∈ s ∨ w.heap.size ≤ k) : StpOk w' s' mp x v := by
  cases x
  case part prev ev ah size d => obtain ⟨p, q, r, u, t, dv, e, h1, h2, h3, h4, h5, h6⟩ := h; exact ⟨p, q, r, u, t, dv, e, h1.turn ht hs, h2.turn ht hs, h3.turn ht hs, h4.turn ht hs, h5.turn ht hs, h6.turn ht hs⟩
  case mark l a => obtain ⟨p, q, r, A, c, av, e, h1, h2, h3, h4, h5⟩ := h; exact ⟨p, q, r, A, c, av, e, h1.turn ht hs, h2.turn ht hs, h3.turn ht hs, h4.turn ht hs, h5⟩
  all_goals exact h
/-- The machine's addresses. -/
structure MA where
  sA : Option Addr
  sc : Nat
  sv : Value
  nv : Value
  rA : Option Addr
  rc : Nat
  lA : Option Addr
  lc : Nat
  oA : Option Addr
  oc : Nat
  fA : Option Addr
  fc : Nat
def mca (S : MS) (a : MA) : Array Value := mcs S a.sA a.sc a.sv a.nv a.rA a.rc a.lA a.lc a.oA a.oc a.fA a.fc
/-- A row of the caller's own beside the machine's. -/
structure Gho (w : World) (s : List Nat) (g : Option Addr × Nat × List Nat) (rA lA oA : Option Addr) : Prop where
  row : RowU w s g.1 g.2.1 g.2.2
  r : ∀ k ∈ blkA g.1, k ∉ blkA rA
  l : ∀ k ∈ blkA g.1, k ∉ blkA lA
  o : ∀ k ∈ blkA g.1, k ∉ blkA oA
structure MRest (w : World) (s : List Nat) (mp : Nat) (raw l own sd fd : List Nat) (st : Stp) (nx : Nxt) (gh : Option Addr × Nat × List Nat) (a : MA) : Prop where
  mem : mp ∈ s ∧ ∀ k ∈ s, k < w.heap.size
  raw : RowU w s a.rA a.rc raw
  l : RowU w s a.lA a.lc l
  own : RowU w s a.oA a.oc own
  rl : ∀ k ∈ blkA a.rA, k ∉ blkA a.lA
  ro : ∀ k ∈ blkA a.rA, k ∉ blkA a.oA
  lo : ∀ k ∈ blkA a.lA, k ∉ blkA a.oA
  sf : DatU w s a.sA a.sc sd
  f : DatU w s a.fA a.fc fd
  step : StpOk w s mp st a.sv
  next : NxtOk w s mp nx a.nv
  gho : Gho w s gh a.rA a.lA a.oA
/-- The machine lies. -/
structure MR (w : World) (s : List Nat) (mp : Nat) (S : MS) (a : MA) : Prop where
  cells : w.heap[mp]? = some (.cells (mca S a) 59 (0, 0))
  rest : MRest w s mp S.raw S.l S.own S.sf.data S.f.data S.step S.next S.gh a
theorem Row.ne_ty {w : World} {base t c g : Nat} {A : Option Addr} {xs : List Value} {cs : Array Value} {u : TypeId} {fr : Nat × Nat} (h : Row w base t A c xs) (hg : w.heap[g]? = some (.cells cs u fr)) (hu : u ≠ t) : ∀ k ∈ blkA A, k ≠ g := by
  intro k hk
  rcases h.2 with ⟨hv, -⟩ | ⟨q, cap, cur, hv, -, hh, -⟩
  · injection hv with hv; rw [hv] at hk; simp [blkA] at hk
  · injection hv with hv; rw [hv] at hk; simp [blkA] at hk; rw [hk]; exact ne_of_type hh hg (Ne.symm hu)
theorem RowU.turn {w w' : World} {s t : List Nat} {A : Option Addr} {c : Nat} {l : List Nat} (h : RowU w s A c l) (ht : Turn t w w') (hd : ∀ k ∈ blkA A, k ∉ t) : RowU w' s A c l :=
  ⟨h.1.turn ht (fun ad e => hd _ (by rw [e]; simp [blkA])), h.2⟩
/-- What turns only the machine's own cells leaves the rest. -/
theorem MRest.turnM {w w' : World} {s : List Nat} {mp : Nat} {raw l own sd fd : List Nat} {st : Stp} {nx : Nxt} {gh : Option Addr × Nat × List Nat} {a : MA} (h : MRest w s mp raw l own sd fd st nx gh a) (ht : Turn [mp] w w') {cs : Array Value} (hm : w.heap[mp]? = some (.cells cs 59 (0, 0))) : MRest w' s mp raw l own sd fd st nx gh a := by
  have hts : Turn s w w' := ht.mono fun x hx => .inl (by simp at hx; rw [hx]; exact h.mem.1)
  have hss : ∀ k ∈ s, k ∈ s ∨ w.heap.size ≤ k := fun k hk => .inl hk
  have hn : ∀ {A : Option Addr} {c : Nat} {l : List Nat}, RowU w s A c l → RowU w' s A c l := fun hR => hR.turn ht (fun k hk => by simp only [List.mem_singleton]; exact hR.1.ne_ty hm (by decide) k hk)
  exact ⟨⟨h.mem.1, fun k hk => Nat.lt_of_lt_of_le (h.mem.2 k hk) hts.size⟩, hn h.raw, hn h.l, hn h.own, h.rl, h.ro, h.lo, h.sf.turn hts hss, h.f.turn hts hss, h.step.turn hts hss, h.next.turn hts hss, ⟨hn h.gho.row, h.gho.r, h.gho.l, h.gho.o⟩⟩
theorem MRest.below {w w' : World} {s : List Nat} {mp : Nat} {raw l own sd fd : List Nat} {st : Stp} {nx : Nxt} {gh : Option Addr × Nat × List Nat} {a : MA} (h : MRest w s mp raw l own sd fd st nx gh a) (hb : Below w.heap.size w w') : MRest w' s mp raw l own sd fd st nx gh a := by
  have hts : Turn s w w' := (Turn.of hb)
  have hss : ∀ k ∈ s, k ∈ s ∨ w.heap.size ≤ k := fun k hk => .inl hk
  have hn : ∀ {A : Option Addr} {c : Nat} {l : List Nat}, RowU w s A c l → RowU w' s A c l := fun hR => hR.turn (t := []) (Turn.of hb) (fun k hk => by simp)
  exact ⟨⟨h.mem.1, fun k hk => Nat.lt_of_lt_of_le (h.mem.2 k hk) hts.size⟩, hn h.raw, hn h.l, hn h.own, h.rl, h.ro, h.lo, h.sf.turn hts hss, h.f.turn hts hss, h.step.turn hts hss, h.next.turn hts hss, ⟨hn h.gho.row, h.gho.r, h.gho.l, h.gho.o⟩⟩
theorem MR.below {w w' : World} {s : List Nat} {mp : Nat} {S : MS} {a : MA} (h : MR w s mp S a) (hb : Below w.heap.size w w') : MR w' s mp S a := ⟨heap_below hb h.cells, h.rest.below hb⟩
theorem MR.drew {w : World} {s : List Nat} {mp : Nat} {S : MS} {a : MA} (h : MR w s mp S a) : MR w.drew s mp S a := h.below (Below.refl _ _).drew
theorem MR.alloc {w : World} {s : List Nat} {mp : Nat} {S : MS} {a : MA} (h : MR w s mp S a) (o : Obj) : MR (w.alloc o) s mp S a := h.below (below_alloc (Below.refl _ _) o)
theorem MR.cell {w : World} {s : List Nat} {mp : Nat} {S : MS} {a : MA} (h : MR w s mp S a) (i : Nat) (v : Value) (hv : (mca S a)[i]? = some v) : w.cell? ⟨mp, i, none⟩ = some v := cell_of_heap h.cells i v hv
theorem MR.frz {w : World} {s : List Nat} {mp : Nat} {S : MS} {a : MA} (h : MR w s mp S a) (i : Nat) : w.frozen? ⟨mp, i, none⟩ = false := by simp [World.frozen?, h.cells]
theorem MR.lt {w : World} {s : List Nat} {mp : Nat} {S : MS} {a : MA} (h : MR w s mp S a) : mp < w.heap.size := heap_lt h.cells
theorem MR.put {w : World} {s : List Nat} {mp : Nat} {S S' : MS} {a : MA} (h : MR w s mp S a) (i : Nat) (v : Value) (hv : (mca S a).setIfInBounds i v = mca S' a)
    (hk : ∀ w', MRest w' s mp S.raw S.l S.own S.sf.data S.f.data S.step S.next S.gh a → MRest w' s mp S'.raw S'.l S'.own S'.sf.data S'.f.data S'.step S'.next S'.gh a) : MR (w.setCell ⟨mp, i, none⟩ v) s mp S' a :=
  ⟨by rw [heap_setCell h.cells i v, hv], hk _ (h.rest.turnM ((Turn.refl _ _).setCell (p := ⟨mp, i, none⟩) (.inl (by simp)) _) h.cells)⟩
theorem MR.turn1 {w : World} {s : List Nat} {mp : Nat} {S : MS} {a : MA} (h : MR w s mp S a) (i : Nat) (v : Value) : Turn s w (w.setCell ⟨mp, i, none⟩ v) := (Turn.refl _ _).setCell (p := ⟨mp, i, none⟩) (.inl h.rest.mem.1) _
/-- What an act leaves of the machine. -/
def MAct (w : World) (s : List Nat) (mp : Nat) (S : MS) (w' : World) : Prop := ∃ s' a', MR w' s' mp S a' ∧ (∀ k ∈ s', k ∈ s ∨ w.heap.size ≤ k) ∧ Turn s w w'
theorem MAct.same {w w' : World} {s : List Nat} {mp : Nat} {S : MS} {a : MA} (h : MR w' s mp S a) (ht : Turn s w w') : MAct w s mp S w' := ⟨s, a, h, fun _ hk => .inl hk, ht⟩
theorem MAct.after {w w1 w2 : World} {s s1 : List Nat} {mp : Nat} {S : MS} (h : MAct w1 s1 mp S w2) (hs : ∀ k ∈ s1, k ∈ s ∨ w.heap.size ≤ k) (ht : Turn s w w1) : MAct w s mp S w2 := by
  obtain ⟨s', a', h1, h2, h3⟩ := h
  refine ⟨s', a', h1, fun k hk => (h2 k hk).elim (hs k) (fun h => .inr (Nat.le_trans ht.size h)), ht.trans h3 hs⟩
/-- What an act that tells nothing ends with. -/
def MDone (w : World) (s : List Nat) (mp : Nat) (S : MS) (e : Ending) (w' : World) : Prop := e = .returned (.tuple #[]) ∧ MAct w s mp S w'
/-- A store of many cells. -/
def setAll : List Value → Nat → Array Value → Array Value
  | [], _, cs => cs
  | v :: r, o, cs => setAll r (o + 1) (cs.setIfInBounds o v)
theorem heap_setAll {g : Nat} {t : TypeId} {fr : Nat × Nat} : ∀ (vs : List Value) (o : Nat) {w : World} {cs : Array Value}, w.heap[g]? = some (.cells cs t fr) → (w.setCells g o vs).heap[g]? = some (.cells (setAll vs o cs) t fr)
  | [], _, _, _, h => h
  | v :: r, o, _, _, h => by rw [World.setCells, setAll]; exact heap_setAll r (o + 1) (heap_setCell h o v)
theorem MR.puts {w : World} {s : List Nat} {mp : Nat} {S S' : MS} {a a' : MA} (h : MR w s mp S a) (i : Nat) (vs : List Value) (hv : setAll vs i (mca S a) = mca S' a')
    (hk : ∀ w', MRest w' s mp S.raw S.l S.own S.sf.data S.f.data S.step S.next S.gh a → MRest w' s mp S'.raw S'.l S'.own S'.sf.data S'.f.data S'.step S'.next S'.gh a') : MR (w.setCells mp i vs) s mp S' a' ∧ Turn s w (w.setCells mp i vs) :=
  ⟨⟨by rw [heap_setAll vs i h.cells, hv], hk _ (h.rest.turnM (Turn.setCells (.inl (by simp)) _ _ (Turn.refl _ _)) h.cells)⟩, Turn.setCells (.inl h.rest.mem.1) _ _ (Turn.refl _ _)⟩
theorem there_at {w : World} {b : Nat} {cs : Array Value} {t : TypeId} (h : w.heap[b]? = some (.cells cs t (0, 0))) (o n : Nat) (hn : o + n ≤ cs.size) : w.there b o n := fun j hj => by
  have hlt : o + j < cs.size := by omega
  refine ⟨?_, by simp [World.frozen?, h]⟩
  rw [cell_of_heap h (o + j) cs[o + j] (by simp [hlt])]; rfl
theorem MR.there {w : World} {s : List Nat} {mp : Nat} {S : MS} {a : MA} (h : MR w s mp S a) (o n : Nat) (hn : o + n ≤ 34) : w.there mp o n := there_at h.cells _ _ (by simp [mca, mcs]; omega)
/-! ### a block of another kind is turned -/
theorem BoxV.turnG {w w' : World} {s : List Nat} {p g : Nat} {cs : Array Value} {t : TypeId} {ds : Array Value} {u : TypeId} {fr : Nat × Nat} (h : BoxV w s p cs t) (ht : Turn [g] w w') (hg : w.heap[g]? = some (.cells ds u fr)) (hne : u ≠ t) : BoxV w' s p cs t :=
  ⟨ht.heap h.1 (by simp only [List.mem_singleton]; exact ne_of_type h.1 hg (Ne.symm hne)), h.2⟩
theorem DatU.turnG {w w' : World} {s : List Nat} {g c : Nat} {A : Option Addr} {l : List Nat} {ds : Array Value} {u : TypeId} {fr : Nat × Nat} (h : DatU w s A c l) (ht : Turn [g] w w') (hg : w.heap[g]? = some (.cells ds u fr)) (hne : u ≠ 5) : DatU w' s A c l := by
  have hn : ∀ k ∈ blkA A, k ∉ [g] := fun k hk => by
    obtain ⟨cs, fr', e⟩ := (h.2.1 k hk).2.2
    simp only [List.mem_singleton]
    exact ne_of_type e hg (Ne.symm hne)
  exact ⟨h.1.turn ht (fun ad e => hn _ (by rw [e]; simp [blkA])), fun k hk => ⟨(h.2.1 k hk).1, Nat.lt_of_lt_of_le (h.2.1 k hk).2.1 ht.size, by obtain ⟨cs, fr, e⟩ := (h.2.1 k hk).2.2; exact ⟨cs, fr, ht.heap e (hn k hk)⟩⟩, h.2.2⟩
theorem MR.turnG {w w' : World} {s : List Nat} {mp g : Nat} {S : MS} {a : MA} {ds : Array Value} {fr : Nat × Nat} (h : MR w s mp S a) (ht : Turn [g] w w') (hg : w.heap[g]? = some (.cells ds 30 fr)) (hgs : g ∉ s) : MR w' s mp S a := by
  have hb : ∀ {p : Nat} {cs : Array Value} {t : TypeId}, BoxV w s p cs t → (30 : Nat) ≠ t → BoxV w' s p cs t := fun hB hne => hB.turnG ht hg hne
  have hd : ∀ {A : Option Addr} {c : Nat} {l : List Nat}, DatU w s A c l → DatU w' s A c l := fun hD => hD.turnG ht hg (by decide)
  have hr : ∀ {A : Option Addr} {c : Nat} {l : List Nat}, RowU w s A c l → RowU w' s A c l := fun hR => hR.turn ht (fun k hk => by simp only [List.mem_singleton]; intro e; subst e; exact hgs (hR.2 _ hk))
  have hdo : ∀ {d : Do} {v : Value}, DoOk w s mp d v → DoOk w' s mp d v := by
    intro d v hD
    cases d <;> (obtain ⟨p, q, e, h1, h2⟩ := hD; exact ⟨p, q, e, hb h1 (by decide), hb h2 (by decide)⟩)
  refine ⟨ht.heap h.cells (by simp only [List.mem_singleton]; intro e; subst e; exact hgs h.rest.mem.1), ⟨⟨h.rest.mem.1, fun k hk => Nat.lt_of_lt_of_le (h.rest.mem.2 k hk) ht.size⟩, hr h.rest.raw, hr h.rest.l, hr h.rest.own, h.rest.rl, h.rest.ro, h.rest.lo, hd h.rest.sf, hd h.rest.f, ?_, ?_, ⟨hr h.rest.gho.row, h.rest.gho.r, h.rest.gho.l, h.rest.gho.o⟩⟩⟩
  · have hs := h.rest.step
    generalize S.step = x at *
    generalize a.sv = v at *
    cases x
    case part prev ev ah size d => obtain ⟨p, q, r, u, t, dv, e, h1, h2, h3, h4, h5, h6⟩ := hs; exact ⟨p, q, r, u, t, dv, e, hb h1 (by decide), hb h2 (by decide), hb h3 (by decide), hb h4 (by decide), hb h5 (by decide), hdo h6⟩
    case mark l x => obtain ⟨p, q, r, A, c, av, e, h1, h2, h3, h4, h5⟩ := hs; exact ⟨p, q, r, A, c, av, e, hb h1 (by decide), hb h2 (by decide), hb h3 (by decide), hd h4, h5⟩
    all_goals exact hs
  · have hn := h.rest.next
    generalize S.next = x at *
    generalize a.nv = v at *
    cases x
    case codeC at_ n => obtain ⟨p, q, r, e, h1, h2, h3⟩ := hn; exact ⟨p, q, r, e, hb h1 (by decide), hb h2 (by decide), hb h3 (by decide)⟩
    case fdData n => obtain ⟨p, q, e, h1, h2⟩ := hn; exact ⟨p, q, e, hb h1 (by decide), hb h2 (by decide)⟩
    all_goals exact hn
end Go.Proofs.YtlmdkmflbhnlgaaGreat
-- ScanA: The machine's small acts. No condition.
namespace Go.Proofs.YtlmdkmflbhnlgaaGreat
open Go.RowKit
variable {w : World} {s : List Nat} {mp : Nat} {S : MS} {a : MA}
set_option maxHeartbeats 1000000 in
theorem mAsk (h : MR w s mp S a) (n : Nat) (x : Nxt) (v : Value) (hx : NxtOk w s mp x v) (h0 : x ≠ .nil := by intro h; cases h) :
    Calls Tryz.prog 26 #[.pointer (some ⟨mp, 0, none⟩), .int .i64 n, v] w (MDone w s mp (askM S n x)) := by
  have hv : ∃ f p q, v = .func f p q := by
    cases x <;> first | exact absurd rfl h0 | exact ⟨_, _, _, hx⟩ | (obtain ⟨_, _, _, h, _⟩ := hx; exact ⟨_, _, _, h⟩) | (obtain ⟨_, _, h, _⟩ := hx; exact ⟨_, _, _, h⟩)
  obtain ⟨f0, f1, f2, hv⟩ := hv
  subst hv
  have c19 : w.cell? ⟨mp, 19, none⟩ = some (.int .i64 S.need) := h.cell 19 _ rfl
  have c16 : w.cell? ⟨mp, 16, none⟩ = some a.nv := h.cell 16 _ rfl
  have z19 := h.frz 19
  have z16 := h.frz 16
  have HH := Lib.hid h
  have HX := Lib.hid hx
  clear h hx
  go_enter Tryz.func26, Tryz.ntmps26
  go_wp2
  go_end0
  have h1 : MR (w.setCell ⟨mp, 19, none⟩ (.int .i64 n)) s mp { S with need := n } a := HH.out.put 19 _ rfl (fun _ h => h)
  have h2 : MR ((w.setCell ⟨mp, 19, none⟩ (.int .i64 n)).setCell ⟨mp, 16, none⟩ (.func f0 f1 f2)) s mp (askM S n x) { a with nv := .func f0 f1 f2 } := by
    have t2 := (HH.out.turn1 19 (.int .i64 n)).tr (h1.turn1 16 (.func f0 f1 f2))
    have hr := h1.rest.turnM ((Turn.refl _ _).setCell (p := ⟨mp, 16, none⟩) (.inl (by simp)) (.func f0 f1 f2)) h1.cells
    refine ⟨by rw [heap_setCell h1.cells 16 _]; rfl, ⟨hr.mem, hr.raw, hr.l, hr.own, hr.rl, hr.ro, hr.lo, hr.sf, hr.f, hr.step, ?_, hr.gho⟩⟩
    exact HX.out.turn t2 (fun k hk => .inl hk)
  exact ⟨rfl, MAct.same h2 ((HH.out.turn1 19 _).tr (h1.turn1 16 (.func f0 f1 f2)))⟩
theorem info_status : (Tryz.prog.info? 30).map (·.size) = some 13 := by kernel_rfl
set_option maxHeartbeats 1000000 in
theorem mBad (h : MR w s mp S a) (e : Nat) :
    Calls Tryz.prog 48 #[.pointer (some ⟨mp, 0, none⟩), .int .i64 e] w (MDone w s mp (badM S e)) := by
  have HT := Lib.hid (h.there 1 13 (by omega))
  have HH := Lib.hid h
  clear h
  go_enter Tryz.func48, Tryz.ntmps48
  go_wp2_with (refine wpList_store_mid rfl 30 (.tmp 8) (.tmp 6) rfl mp 1 #[.int .i64 3, .int .i64 e, .int .i64 0, .int .u32 0, .bool false, .bool false, .bool false, .bool false, .bool false, .int .u8 0, .int .u8 0, .int .u32 0, .slice none 0 0] (by rfl) (by rfl) HT.out info_status (by simp [Value.oneCell']) ?_)
  go_end0
  have h1 := HH.out.puts (S' := badM S e) (a' := { a with sA := none, sc := 0 }) 1 [.int .i64 3, .int .i64 e, .int .i64 0, .int .u32 0, .bool false, .bool false, .bool false, .bool false, .bool false, .int .u8 0, .int .u8 0, .int .u32 0, .slice none 0 0] (by kernel_rfl) (fun w' h => ⟨h.mem, h.raw, h.l, h.own, h.rl, h.ro, h.lo, DatU.nil _ _, h.f, h.step, h.next, h.gho⟩)
  exact ⟨rfl, MAct.same h1.1 h1.2⟩
/-- What an act that tells a bool ends with. -/
def MTold (w : World) (s : List Nat) (mp : Nat) (b : Bool) (S : MS) (e : Ending) (w' : World) : Prop := e = .returned (.bool b) ∧ MAct w s mp S w'
set_option maxHeartbeats 1000000 in
theorem mMust (h : MR w s mp S a) (b : Bool) :
    Calls Tryz.prog 49 #[.pointer (some ⟨mp, 0, none⟩), .bool b] w (MTold w s mp b (mustM S b)) := by
  have HB := Lib.hid (mBad h 5)
  have HH := Lib.hid h
  clear h
  cases b
  · go_enter Tryz.func49, Tryz.ntmps49
    go_wp2_with fail
    refine HB.out.mono ?_
    rintro e w1 ⟨rfl, hA⟩
    have HA := Lib.hid hA
    clear hA
    go_wp2_with fail
    go_ret
    exact ⟨rfl, HA.out⟩
  · go_enter Tryz.func49, Tryz.ntmps49
    go_wp2_with fail
    go_ret
    exact ⟨rfl, MAct.same HH.out (Turn.refl _ _)⟩
theorem RowU.at_ {w : World} {s : List Nat} {A : Option Addr} {c : Nat} {l : List Nat} (h : RowU w s A c l) (i : Nat) (hi : i < l.length) : ∃ g, A = some ⟨g, 0, none⟩ ∧ l.length ≤ c ∧ c ≤ 9223372036854775807 ∧ w.cell? ⟨g, i, none⟩ = some (.int .u8 (l.getD i 0 : Nat)) := by
  obtain ⟨ad, rfl, hc⟩ := h.1.rd.at_ i hi
  rcases h.1.2 with ⟨hv, -⟩ | ⟨g, cap, cur, hv, -, -, h1, h2, -⟩
  · injection hv with hv; cases hv
  · injection hv with hv _ hcap
    injection hv with hv
    subst hv hcap
    refine ⟨g, rfl, by rw [bys_length] at h1; exact h1, h2, ?_⟩
    have e1 : (⟨g, i, none⟩ : Addr) = (⟨g, 0, none⟩ : Addr).add i := by unfold Addr.add; by_cases h0 : i = 0 <;> simp [h0]
    rw [e1, hc, List.getD_eq_getElem?_getD, List.getElem?_eq_getElem hi]; rfl
set_option maxHeartbeats 1000000 in
theorem mFlag (h : MR w s mp S a) (i : Nat) (hi : i < S.l.length) :
    Calls Tryz.prog 50 #[.pointer (some ⟨mp, 0, none⟩), .int .i64 i] w fun e w' => e = .returned (.bool (flagM S i)) ∧ Below w.heap.size w w' := by
  obtain ⟨g, hg, h1, h2, hc⟩ := h.rest.l.at_ i hi
  have c18 : w.cell? ⟨mp, 18, none⟩ = some (.slice (some ⟨g, 0, none⟩) S.l.length a.lc) := h.cell 18 _ (by rw [← hg]; rfl)
  have hf : flagM S i = (((S.l.getD i 0 : Nat) : Int) == 1) := by unfold flagM; rw [Bool.eq_iff_iff]; simp only [beq_iff_eq]; omega
  rw [hf]
  generalize S.l.getD i 0 = x at *
  generalize S.l.length = n at *
  clear h hg hf
  go_enter Tryz.func50, Tryz.ntmps50
  go_wp2_with fail
  go_ret
  exact ⟨rfl, Below.refl _ _⟩
theorem rd_part {w : World} {g : Nat} {l : List Nat} (h : Rd w (some ⟨g, 0, none⟩) (bys l)) (i j : Nat) : Rd w (some ⟨g, i, none⟩) (bys ((l.take j).drop i)) := by
  have := rd_drop (rd_take h j) i
  rwa [Nat.zero_add] at this
set_option maxHeartbeats 1000000 in
theorem mNumber (h : MR w s mp S a) (i j : Nat) (hij : i < j) (hj : j ≤ S.l.length) (h64 : j - i ≤ 62) (h01 : ∀ x ∈ S.l, x ≤ 1) (hl : S.l.length ≤ 1000000) :
    Calls Tryz.prog 72 #[.pointer (some ⟨mp, 0, none⟩), .int .i64 i, .int .i64 j] w fun e w' => e = .returned (.int .i64 (numM S i j : Nat)) ∧ Below w.heap.size w w' := by
  obtain ⟨g, hg, h1, h2, -⟩ := h.rest.l.at_ 0 (by omega)
  have c18 : w.cell? ⟨mp, 18, none⟩ = some (.slice (some ⟨g, 0, none⟩) S.l.length a.lc) := h.cell 18 _ (by rw [← hg]; rfl)
  have hr := h.rest.l.1.rd
  rw [hg] at hr
  obtain ⟨d, hd⟩ : ∃ d, j - i = d := ⟨_, rfl⟩
  have hdi : (j : Int) - (i : Int) = (d : Int) := by omega
  have hlen : ((S.l.take j).drop i).length = d := by rw [List.length_drop, List.length_take]; omega
  have h01' : ∀ x ∈ (S.l.take j).drop i, x ≤ 1 := fun x hx => h01 x (List.mem_of_mem_take (List.mem_of_mem_drop hx))
  have HG := Lib.hid (fun c => Get_any w (some ⟨g, i, none⟩) c d _ (rd_part hr i j) hlen (by omega) h01')
  have hlt := numN_lt _ h01'
  rw [hlen] at hlt
  have hp : 2 ^ d ≤ 2 ^ 62 := Nat.pow_le_pow_right (by omega) (by omega)
  have hm : numN ((S.l.take j).drop i) < 4611686018427387904 := by omega
  unfold numM
  have hg2 := hg
  generalize numN ((S.l.take j).drop i) = x at *
  generalize S.l.length = n at *
  have hji : ¬ j < i := by omega
  have hnd : j - i = d := hd
  have hcj : ¬ a.lc < j := by omega
  clear h hg hr hlen h01' h01 hlt hp hg2 hd
  go_enter Tryz.func72, Tryz.ntmps72
  go_wp2_with fail
  refine (HG.out _).mono ?_
  rintro e w1 ⟨rfl, hb⟩
  have HB := Lib.hid hb
  clear hb
  go_wp2_with fail
  go_ret
  exact ⟨rfl, HB.out⟩
set_option maxHeartbeats 1000000 in
theorem mEnd (h : MR w s mp S a) :
    Calls Tryz.prog 108 #[.pointer (some ⟨mp, 0, none⟩)] w (MDone w s mp (endM S)) := by
  have c33 : w.cell? ⟨mp, 33, none⟩ = some (.int .i64 S.at_) := h.cell 33 _ rfl
  have c15 : w.cell? ⟨mp, 15, none⟩ = some a.sv := h.cell 15 _ rfl
  have z33 := h.frz 33
  have z15 := h.frz 15
  have HH := Lib.hid h
  clear h
  go_enter Tryz.func108, Tryz.ntmps108
  go_wp2
  go_end0
  have h1 : MR (w.setCell ⟨mp, 33, none⟩ (.int .i64 0)) s mp { S with at_ := 0 } a := HH.out.put 33 _ rfl (fun _ h => h)
  refine ⟨rfl, MAct.same (a := { a with sv := .func (.func 114) #[ptr mp] #[] }) ?_ ((HH.out.turn1 33 _).tr (h1.turn1 15 _))⟩
  have hr := h1.rest.turnM ((Turn.refl _ _).setCell (p := ⟨mp, 15, none⟩) (.inl (by simp)) (.func (.func 114) #[ptr mp] #[])) h1.cells
  exact ⟨by rw [heap_setCell h1.cells 15 _]; rfl, ⟨hr.mem, hr.raw, hr.l, hr.own, hr.rl, hr.ro, hr.lo, hr.sf, hr.f, rfl, hr.next, hr.gho⟩⟩
end Go.Proofs.YtlmdkmflbhnlgaaGreat
namespace Go.Proofs.YtlmdkmflbhnlgaaGreat
open Go.RowKit
variable {w : World} {s : List Nat} {mp : Nat} {S : MS} {a : MA}
theorem MAct.pre {w1 w2 : World} (h : MAct w1 s mp S w2) (hb : Below w.heap.size w w1) : MAct w s mp S w2 := h.after (fun _ hk => .inl hk) (Turn.of hb)
/-- A struct's store into the machine. -/
theorem wpList_mputs {P : Program} {ops : Array Oper} {rest : List Oper} {op : Oper} {f : Act} {Q : Exit → Act → World → Prop} (h : MR w s mp S a) (hgd : op.guard = none) (ty : TypeId) (x y : Operand) (ho : op.op = .store ty x y)
    (i n : Nat) (vs : List Value) (hn : vs.length = n) (hx : f.eval x = .pointer (some ⟨mp, i, none⟩)) (hy : f.eval y = .agg vs.toArray) (hi : (P.info? ty).map (·.size) = some n) (h1 : vs.toArray.all (·.oneCell') = true) (hin : i + n ≤ 34)
    (S' : MS) (a' : MA) (hv : setAll vs i (mca S a) = mca S' a')
    (hk : ∀ w', MRest w' s mp S.raw S.l S.own S.sf.data S.f.data S.step S.next S.gh a → MRest w' s mp S'.raw S'.l S'.own S'.sf.data S'.f.data S'.step S'.next S'.gh a')
    (K : ∀ W', Hid (MR W' s mp S' a') → Hid (Turn s w W') → wpList P ops Q rest (f.put op.dst undef) W') : wpList P ops Q (op :: rest) f w := by
  subst hn
  have h2 := h.puts i vs hv hk
  refine wpList_store_mid hgd ty x y ho mp i vs.toArray hx hy (h.there _ _ (by simpa using hin)) (by simpa using hi) h1 (K _ h2.1 h2.2)
theorem must_true (S : MS) : mustM S true = S := rfl
theorem must_false (S : MS) : mustM S false = badM S 5 := rfl
theorem MTold.at_ {b : Bool} {e : Ending} {w' : World} (h : MTold w s mp b S e w') : e = .returned (.bool b) ∧ ∃ s' a', MR w' s' mp S a' ∧ (∀ k ∈ s', k ∈ s ∨ w.heap.size ≤ k) ∧ Turn s w w' := h
set_option maxHeartbeats 1000000 in
theorem mStart (h : MR w s mp S a) (hl : 1 ≤ S.l.length) :
    Calls Tryz.prog 27 #[.pointer (some ⟨mp, 0, none⟩)] w (MDone w s mp (startM S)) := by
  have HF := Lib.hid (mFlag h 0 hl)
  have HH := Lib.hid h
  have hs : startM S = if flagM S 0 then badM S 5 else askM S 14 .ident := rfl
  rw [hs]
  generalize flagM S 0 = q at *
  clear h hs hl
  cases q
  · go_enter Tryz.func27, Tryz.ntmps27
    go_wp2_with fail
    refine HF.out.mono ?_
    rintro e w1 ⟨rfl, hb⟩
    go_wp2_with fail
    refine (mMust (HH.out.below hb) _).mono ?_
    rintro e w2 ⟨rfl, hA⟩
    obtain ⟨s2, a2, h2, n2, t2⟩ := hA.pre hb
    go_wp2_with fail
    refine (mAsk h2 14 .ident _ rfl).mono ?_
    rintro e w3 ⟨rfl, hA3⟩
    go_wp2_with fail
    go_end0
    exact ⟨rfl, hA3.after n2 t2⟩
  · go_enter Tryz.func27, Tryz.ntmps27
    go_wp2_with fail
    refine HF.out.mono ?_
    rintro e w1 ⟨rfl, hb⟩
    go_wp2_with fail
    refine (mMust (HH.out.below hb) _).mono ?_
    rintro e w2 ⟨rfl, hA⟩
    have hA2 := hA.pre hb
    go_wp2_with fail
    go_end0
    exact ⟨rfl, hA2⟩
set_option maxHeartbeats 1000000 in
theorem mReserved (h : MR w s mp S a) (hl : 34 < S.l.length) :
    Calls Tryz.prog 98 #[.pointer (some ⟨mp, 0, none⟩)] w (MDone w s mp (reservedM S)) := by
  have HF := Lib.hid (mFlag h 34 hl)
  have HH := Lib.hid h
  have hs : reservedM S = if flagM S 34 then badM S 5 else askM S 39 .code := rfl
  rw [hs]
  generalize flagM S 34 = q at *
  clear h hs hl
  cases q
  · go_enter Tryz.func98, Tryz.ntmps98
    go_wp2_with fail
    refine HF.out.mono ?_
    rintro e w1 ⟨rfl, hb⟩
    go_wp2_with fail
    refine (mMust (HH.out.below hb) _).mono ?_
    rintro e w2 ⟨rfl, hA⟩
    obtain ⟨s2, a2, h2, n2, t2⟩ := hA.pre hb
    go_wp2_with fail
    refine (mAsk h2 39 .code _ rfl).mono ?_
    rintro e w3 ⟨rfl, hA3⟩
    go_wp2_with fail
    go_end0
    exact ⟨rfl, hA3.after n2 t2⟩
  · go_enter Tryz.func98, Tryz.ntmps98
    go_wp2_with fail
    refine HF.out.mono ?_
    rintro e w1 ⟨rfl, hb⟩
    go_wp2_with fail
    refine (mMust (HH.out.below hb) _).mono ?_
    rintro e w2 ⟨rfl, hA⟩
    have hA2 := hA.pre hb
    go_wp2_with fail
    go_end0
    exact ⟨rfl, hA2⟩
set_option maxHeartbeats 1000000 in
theorem mFormat (h : MR w s mp S a) (hl : 14 < S.l.length) :
    Calls Tryz.prog 73 #[.pointer (some ⟨mp, 0, none⟩)] w (MDone w s mp (formatM S)) := by
  have HF := Lib.hid (mFlag h 14 hl)
  have HH := Lib.hid h
  have hs : formatM S = if flagM S 14 then (if S.f.rtr then badM S 5 else askM S 16 .newer) else askM S 19 .code := rfl
  rw [hs]
  generalize flagM S 14 = q at *
  clear h hs hl
  cases q
  · go_enter Tryz.func73, Tryz.ntmps73
    go_wp2_with fail
    refine HF.out.mono ?_
    rintro e w1 ⟨rfl, hb⟩
    go_wp2_with fail
    refine (mAsk (HH.out.below hb) 19 .code _ rfl).mono ?_
    rintro e w3 ⟨rfl, hA3⟩
    go_wp2_with fail
    go_end0
    exact ⟨rfl, hA3.pre hb⟩
  · obtain ⟨r, hr⟩ : ∃ r, S.f.rtr = r := ⟨_, rfl⟩
    rw [hr]
    cases r
    · go_enter Tryz.func73, Tryz.ntmps73
      go_wp2_with fail
      refine HF.out.mono ?_
      rintro e w1 ⟨rfl, hb⟩
      have c24 : w1.cell? ⟨mp, 24, none⟩ = some (.bool false) := (HH.out.below hb).cell 24 _ (by rw [← hr]; rfl)
      go_wp2_with fail
      refine (mMust (HH.out.below hb) _).mono ?_
      rintro e w2 ⟨rfl, hA⟩
      obtain ⟨s2, a2, h2, n2, t2⟩ := hA.pre hb
      go_wp2_with fail
      refine (mAsk h2 16 .newer _ rfl).mono ?_
      rintro e w3 ⟨rfl, hA3⟩
      go_wp2_with fail
      go_end0
      exact ⟨rfl, hA3.after n2 t2⟩
    · go_enter Tryz.func73, Tryz.ntmps73
      go_wp2_with fail
      refine HF.out.mono ?_
      rintro e w1 ⟨rfl, hb⟩
      have c24 : w1.cell? ⟨mp, 24, none⟩ = some (.bool true) := (HH.out.below hb).cell 24 _ (by rw [← hr]; rfl)
      go_wp2_with fail
      refine (mMust (HH.out.below hb) _).mono ?_
      rintro e w2 ⟨rfl, hA⟩
      have hA2 := hA.pre hb
      go_wp2_with fail
      go_end0
      exact ⟨rfl, hA2⟩
set_option maxHeartbeats 1000000 in
theorem mNewer (h : MR w s mp S a) (hl : 15 < S.l.length) :
    Calls Tryz.prog 97 #[.pointer (some ⟨mp, 0, none⟩)] w (MDone w s mp (newerM S)) := by
  have HF := Lib.hid (mFlag h 15 hl)
  have HH := Lib.hid h
  have hs : newerM S = if flagM S 15 then (if S.xl then askM { S with f := { S.f with kind := 3 } } 17 .xlHead else { S with kind := 4, err := 0, sf := zFr }) else askM { S with f := { S.f with kind := 2 } } 22 .fdCode := rfl
  rw [hs]
  generalize flagM S 15 = q at *
  clear h hs hl
  cases q
  · go_enter Tryz.func97, Tryz.ntmps97
    go_wp2_with fail
    refine HF.out.mono ?_
    rintro e w1 ⟨rfl, hb⟩
    have h1 := HH.out.below hb
    have c21 : w1.cell? ⟨mp, 21, none⟩ = some (.int .i64 S.f.kind) := h1.cell 21 _ rfl
    have z21 := h1.frz 21
    go_wp2_with fail
    have h2 : MR (w1.setCell ⟨mp, 21, none⟩ (.int .i64 2)) s mp { S with f := { S.f with kind := 2 } } a := h1.put 21 _ rfl (fun _ h => h)
    refine (mAsk h2 22 .fdCode _ rfl).mono ?_
    rintro e w3 ⟨rfl, hA3⟩
    go_wp2_with fail
    go_end0
    exact ⟨rfl, (hA3.after (fun _ hk => .inl hk) (h1.turn1 21 _)).pre hb⟩
  · obtain ⟨r, hr⟩ : ∃ r, S.xl = r := ⟨_, rfl⟩
    rw [hr]
    cases r
    · go_enter Tryz.func97, Tryz.ntmps97
      go_wp2_with fail
      refine HF.out.mono ?_
      rintro e w1 ⟨rfl, hb⟩
      have h1 := HH.out.below hb
      have c0 : w1.cell? ⟨mp, 0, none⟩ = some (.bool false) := h1.cell 0 _ (by rw [← hr]; rfl)
      have HT := Lib.hid (h1.there 1 13 (by omega))
      go_wp2_with (refine wpList_store_mid rfl 30 (.tmp 31) (.tmp 29) rfl mp 1 #[.int .i64 4, .int .i64 0, .int .i64 0, .int .u32 0, .bool false, .bool false, .bool false, .bool false, .bool false, .int .u8 0, .int .u8 0, .int .u32 0, .slice none 0 0] (by rfl) (by rfl) HT.out info_status (by simp [Value.oneCell']) ?_)
      go_end0
      have h2 := h1.puts (S' := { S with kind := 4, err := 0, sf := zFr }) (a' := { a with sA := none, sc := 0 }) 1 [.int .i64 4, .int .i64 0, .int .i64 0, .int .u32 0, .bool false, .bool false, .bool false, .bool false, .bool false, .int .u8 0, .int .u8 0, .int .u32 0, .slice none 0 0] (by kernel_rfl) (fun w' h => ⟨h.mem, h.raw, h.l, h.own, h.rl, h.ro, h.lo, DatU.nil _ _, h.f, h.step, h.next, h.gho⟩)
      have hm := (MAct.same h2.1 h2.2).pre hb
      rw [hr] at hm
      exact ⟨rfl, hm⟩
    · go_enter Tryz.func97, Tryz.ntmps97
      go_wp2_with fail
      refine HF.out.mono ?_
      rintro e w1 ⟨rfl, hb⟩
      have h1 := HH.out.below hb
      have c0 : w1.cell? ⟨mp, 0, none⟩ = some (.bool true) := h1.cell 0 _ (by rw [← hr]; rfl)
      have c21 : w1.cell? ⟨mp, 21, none⟩ = some (.int .i64 S.f.kind) := h1.cell 21 _ rfl
      have z21 := h1.frz 21
      go_wp2_with fail
      have h2 : MR (w1.setCell ⟨mp, 21, none⟩ (.int .i64 3)) s mp { S with f := { S.f with kind := 3 } } a := h1.put 21 _ rfl (fun _ h => h)
      refine (mAsk h2 17 .xlHead _ rfl).mono ?_
      rintro e w3 ⟨rfl, hA3⟩
      go_wp2_with fail
      go_end0
      have hm := (hA3.after (fun _ hk => .inl hk) (h1.turn1 21 _)).pre hb
      rw [hr] at hm
      exact ⟨rfl, hm⟩
theorem info_frameS : (Tryz.prog.info? 28).map (·.size) = some 11 := by kernel_rfl
theorem numM_lt (S : MS) (i j d : Nat) (hd : j - i ≤ d) (h01 : ∀ x ∈ S.l, x ≤ 1) : numM S i j < 2 ^ d := by
  unfold numM
  refine Nat.lt_of_lt_of_le (numN_lt _ (fun x hx => h01 x (List.mem_of_mem_take (List.mem_of_mem_drop hx)))) (Nat.pow_le_pow_right (by omega) ?_)
  rw [List.length_drop, List.length_take]; omega
set_option maxHeartbeats 2000000 in
theorem mIdent (h : MR w s mp S a) (hl : 13 < S.l.length) (hl2 : S.l.length ≤ 1000000) (h01 : ∀ x ∈ S.l, x ≤ 1) :
    Calls Tryz.prog 51 #[.pointer (some ⟨mp, 0, none⟩)] w (MDone w s mp (identM S)) := by
  have HN := Lib.hid (mNumber h 1 12 (by omega) (by omega) (by omega) h01 hl2)
  have hlt := numM_lt S 1 12 11 (by omega) h01
  have HF := Lib.hid (fun W (hW : MR W s mp S a) => mFlag hW 12 (by omega))
  have HF2 := Lib.hid (fun W S2 a2 (hW : MR W s mp S2 a2) (e : S2.l = S.l) => (mFlag hW 13 (by rw [e]; omega)))
  have HH := Lib.hid h
  have hs : identM S = if flagM S 13 then (if flagM S 12 then askM { S with f := { zFr with kind := 1, id := numM S 1 12, rtr := flagM S 12 } } 34 .extended else badM { S with f := { zFr with kind := 1, id := numM S 1 12, rtr := flagM S 12 } } 5) else askM { S with f := { zFr with kind := 1, id := numM S 1 12, rtr := flagM S 12 } } 15 .format := rfl
  generalize identM S = T at *
  obtain ⟨r, hr⟩ : ∃ r, flagM S 12 = r := ⟨_, rfl⟩
  obtain ⟨q, hq⟩ : ∃ q, flagM S 13 = q := ⟨_, rfl⟩
  rw [hr, hq] at hs
  have HS := Lib.hid hs
  rw [hr] at HF
  have HQ := Lib.hid hq
  generalize numM S 1 12 = x at *
  have hx : x < 2048 := hlt
  clear h hs hl hlt hr hq h01 hl2
  cases r
  · go_enter Tryz.func51, Tryz.ntmps51
    go_wp2_with fail
    refine HN.out.mono ?_
    rintro e w1 ⟨rfl, hb⟩
    have H1 := Lib.hid (HH.out.below hb)
    have HB1 := Lib.hid hb
    clear hb
    go_wp2_with fail
    refine (HF.out _ H1.out).mono ?_
    rintro e w2 ⟨rfl, hb⟩
    have H2 := Lib.hid (H1.out.below hb)
    have HB2 := Lib.hid (below_trans HB1.out hb)
    clear hb
    go_wp2_with (refine wpList_mputs H2.out rfl 28 (.tmp 10) (.tmp 8) rfl 21 11 [.int .i64 1, .int .u32 x, .bool false, .bool false, .bool false, .bool false, .bool false, .int .u8 0, .int .u8 0, .int .u32 0, .slice none 0 0] rfl (by kernel_rfl) (by kernel_rfl) info_frameS (by simp [Value.oneCell']) (by decide) { S with f := { zFr with kind := 1, id := x, rtr := false } } { a with fA := none, fc := 0 } (by kernel_rfl) (fun w' h => ⟨h.mem, h.raw, h.l, h.own, h.rl, h.ro, h.lo, h.sf, DatU.nil _ _, h.step, h.next, h.gho⟩) ?_; intro W3 H3 T3)
    refine (HF2.out _ _ _ H3.out rfl).mono ?_
    rintro e w4 ⟨rfl, hb⟩
    have H4 := Lib.hid (H3.out.below hb)
    have T4 := Lib.hid ((Turn.of HB2.out).tr (T3.out.tr (Turn.of (s := s) hb)))
    clear hb
    have hq' : flagM { S with f := { zFr with kind := 1, id := x, rtr := false } } 13 = q := HQ.out
    rw [hq']
    have c24 : w4.cell? ⟨mp, 24, none⟩ = some (.bool false) := H4.out.cell 24 _ rfl
    cases q
    · go_wp2_with fail
      refine (mAsk H4.out 15 .format _ rfl).mono ?_
      rintro e w5 ⟨rfl, hA5⟩
      go_wp2_with fail
      go_end0
      exact ⟨rfl, HS.out ▸ hA5.after (fun _ hk => .inl hk) T4.out⟩
    · go_wp2_with fail
      refine (mMust H4.out _).mono ?_
      rintro e w5 ⟨rfl, hA⟩
      have hA5 := hA.after (fun _ hk => .inl hk) T4.out
      go_wp2_with fail
      go_end0
      exact ⟨rfl, HS.out ▸ hA5⟩
  · go_enter Tryz.func51, Tryz.ntmps51
    go_wp2_with fail
    refine HN.out.mono ?_
    rintro e w1 ⟨rfl, hb⟩
    have H1 := Lib.hid (HH.out.below hb)
    have HB1 := Lib.hid hb
    clear hb
    go_wp2_with fail
    refine (HF.out _ H1.out).mono ?_
    rintro e w2 ⟨rfl, hb⟩
    have H2 := Lib.hid (H1.out.below hb)
    have HB2 := Lib.hid (below_trans HB1.out hb)
    clear hb
    go_wp2_with (refine wpList_mputs H2.out rfl 28 (.tmp 10) (.tmp 8) rfl 21 11 [.int .i64 1, .int .u32 x, .bool false, .bool true, .bool false, .bool false, .bool false, .int .u8 0, .int .u8 0, .int .u32 0, .slice none 0 0] rfl (by kernel_rfl) (by kernel_rfl) info_frameS (by simp [Value.oneCell']) (by decide) { S with f := { zFr with kind := 1, id := x, rtr := true } } { a with fA := none, fc := 0 } (by kernel_rfl) (fun w' h => ⟨h.mem, h.raw, h.l, h.own, h.rl, h.ro, h.lo, h.sf, DatU.nil _ _, h.step, h.next, h.gho⟩) ?_; intro W3 H3 T3)
    refine (HF2.out _ _ _ H3.out rfl).mono ?_
    rintro e w4 ⟨rfl, hb⟩
    have H4 := Lib.hid (H3.out.below hb)
    have T4 := Lib.hid ((Turn.of HB2.out).tr (T3.out.tr (Turn.of (s := s) hb)))
    clear hb
    have hq' : flagM { S with f := { zFr with kind := 1, id := x, rtr := true } } 13 = q := HQ.out
    rw [hq']
    have c24 : w4.cell? ⟨mp, 24, none⟩ = some (.bool true) := H4.out.cell 24 _ rfl
    cases q
    · go_wp2_with fail
      refine (mAsk H4.out 15 .format _ rfl).mono ?_
      rintro e w5 ⟨rfl, hA5⟩
      go_wp2_with fail
      go_end0
      exact ⟨rfl, HS.out ▸ hA5.after (fun _ hk => .inl hk) T4.out⟩
    · go_wp2_with fail
      refine (mMust H4.out _).mono ?_
      rintro e w5 ⟨rfl, hA⟩
      obtain ⟨s5, a5, h5, n5, t5⟩ := hA.after (fun _ hk => .inl hk) T4.out
      go_wp2_with fail
      refine (mAsk h5 34 .extended _ rfl).mono ?_
      rintro e w6 ⟨rfl, hA6⟩
      go_wp2_with fail
      go_end0
      exact ⟨rfl, HS.out ▸ hA6.after n5 t5⟩
end Go.Proofs.YtlmdkmflbhnlgaaGreat
namespace Go.Proofs.YtlmdkmflbhnlgaaGreat
open Go.RowKit
variable {w : World} {s : List Nat} {mp : Nat} {S : MS} {a : MA}
theorem or32 (a b : Nat) (ha : a < 4294967296) (hb : b < 4294967296) : bits .or .u32 (a : Int) (b : Int) = ((a ||| b : Nat) : Int) := by
  have ha' : a % 2 ^ IntKind.u32.bits = a := Nat.mod_eq_of_lt ha
  have hb' : b % 2 ^ IntKind.u32.bits = b := Nat.mod_eq_of_lt hb
  have hlt : a ||| b < 2 ^ 32 := Nat.or_lt_two_pow ha hb
  simp only [bits, BitVec.ofInt_natCast, BitVec.toNat_or, BitVec.toNat_ofNat, ha', hb']
  simp [IntKind.wrap, IntKind.bits, IntKind.signed]
  omega
/-- A cell's store into the machine. -/
theorem wpList_mput {P : Program} {ops : Array Oper} {rest : List Oper} {op : Oper} {f : Act} {Q : Exit → Act → World → Prop} (h : MR w s mp S a) (hgd : op.guard = none) (ty : TypeId) (x y : Operand) (ho : op.op = .store ty x y)
    (i : Nat) (v : Value) (hx : f.eval x = .pointer (some ⟨mp, i, none⟩)) (hy : f.eval y = v) (h1 : v.oneCell' = true) (hi : (P.info? ty).map (·.size) = some 1) (hin : i < 34)
    (S' : MS) (a' : MA) (hv : (mca S a).setIfInBounds i v = mca S' a')
    (hk : ∀ w', Turn s w w' → MRest w' s mp S.raw S.l S.own S.sf.data S.f.data S.step S.next S.gh a → MRest w' s mp S'.raw S'.l S'.own S'.sf.data S'.f.data S'.step S'.next S'.gh a')
    (K : ∀ W', Hid (MR W' s mp S' a') → Hid (Turn s w W') → wpList P ops Q rest (f.put op.dst undef) W') : wpList P ops Q (op :: rest) f w := by
  refine wpList_plain hgd fun K0 hK => ?_
  have t1 : Turn [mp] w (w.setCell ⟨mp, i, none⟩ v) := (Turn.refl _ _).setCell (p := ⟨mp, i, none⟩) (.inl (by simp)) _
  have h2 : MR (w.setCell ⟨mp, i, none⟩ v) s mp S' a' := ⟨by rw [heap_setCell h.cells i v, hv], hk _ (h.turn1 i v) (h.rest.turnM t1 h.cells)⟩
  have hc : ∃ u, w.cell? ⟨mp, i, none⟩ = some u := by
    have hlt : i < (mca S a).size := by simpa [mca, mcs] using hin
    exact ⟨_, h.cell i _ (Array.getElem?_eq_getElem hlt)⟩
  obtain ⟨u, hc⟩ := hc
  have hz := h.frz i
  unfold Oper.wp execOp
  have hs : (store ⟨mp, i, none⟩ v).run P w = .ok () (w.setCell ⟨mp, i, none⟩ v) := by rw [run_store P w _ v _ h1]; simp [hc, hz]
  have h3 := hK (f.put op.dst undef) _ (K _ h2 (h.turn1 i v))
  have hone : ∀ cs, v ≠ .agg cs := fun cs e => by subst e; simp [Value.oneCell'] at h1
  simp only [ho, hx, hy, Instr.storeAt, Instr.sureAddr, Sem.run_bind, Sem.run_pure, Result.andThen_ok]
  have hsv : (storeVar ty ⟨mp, i, none⟩ v).run P w = .ok () (w.setCell ⟨mp, i, none⟩ v) := by
    have hcs : v.cells = #[v] := by cases v <;> first | rfl | (simp [Value.oneCell'] at h1; done)
    cases hq : P.info? ty with
    | none => simp [hq] at hi
    | some ti =>
      have hs1 : ti.size = 1 := by simpa [hq] using hi
      have hs2 : (store (⟨mp, i, none⟩ : Addr) v).run P w = .ok () (w.setCell ⟨mp, i, none⟩ v) := hs
      simp [storeVar, sizeOf, typeInfo, hq, hcs, hs1, storeCells, hs2, Addr.add]
  rw [hsv]
  exact h3
theorem info_boolS : (Tryz.prog.info? 4).map (·.size) = some 1 := by kernel_rfl
theorem info_u32S : (Tryz.prog.info? 26).map (·.size) = some 1 := by kernel_rfl
theorem info_intS : (Tryz.prog.info? 3).map (·.size) = some 1 := by kernel_rfl
set_option maxRecDepth 100000 in
set_option maxHeartbeats 2000000 in
theorem mExtended (h : MR w s mp S a) (hl : 33 < S.l.length) (hl2 : S.l.length ≤ 1000000) (h01 : ∀ x ∈ S.l, x ≤ 1) (i : Nat) (hid : S.f.id = (i : Int)) (hi : i < 2048) :
    Calls Tryz.prog 74 #[.pointer (some ⟨mp, 0, none⟩)] w (MDone w s mp (extendedM S)) := by
  have HF := Lib.hid (mFlag h 32 (by omega))
  have hlt := numM_lt S 14 32 18 (by omega) h01
  have HH := Lib.hid h
  obtain ⟨r, hr⟩ : ∃ r, flagM S 32 = r := ⟨_, rfl⟩
  obtain ⟨x, hx⟩ : ∃ x, numM S 14 32 = x := ⟨_, rfl⟩
  obtain ⟨q, hq⟩ : ∃ q, flagM S 33 = q := ⟨_, rfl⟩
  have HN := Lib.hid (fun W S2 a2 (hW : MR W s mp S2 a2) (e : S2.l = S.l) => by
    have k := mNumber hW 14 32 (by omega) (by rw [e]; omega) (by omega) (by rw [e]; exact h01) (by rw [e]; exact hl2)
    rw [show numM S2 14 32 = x by rw [← hx]; unfold numM; rw [e]] at k
    exact k)
  have HF3 := Lib.hid (fun W S2 a2 (hW : MR W s mp S2 a2) (e : S2.l = S.l) => by
    have k := mFlag hW 33 (by rw [e]; omega)
    rw [show flagM S2 33 = q by rw [← hq]; unfold flagM; rw [e]] at k
    exact k)
  have hs : extendedM S = if q then badM { S with f := { S.f with ext := true, rtr := r, id := ((i * 262144 + x : Nat) : Int) } } 5 else askM { S with f := { S.f with ext := true, rtr := r, id := ((i * 262144 + x : Nat) : Int) } } 35 .reserved := by
    have h1 : extendedM S = if flagM S 33 then badM { S with f := { S.f with ext := true, rtr := flagM S 32, id := S.f.id * 262144 + numM S 14 32 } } 5 else askM { S with f := { S.f with ext := true, rtr := flagM S 32, id := S.f.id * 262144 + numM S 14 32 } } 35 .reserved := rfl
    rw [h1, hq, hr, hx, hid]
    have e1 : (i : Int) * 262144 + (x : Int) = ((i * 262144 + x : Nat) : Int) := by omega
    rw [e1]
  have hor : bits .or .u32 ((i : Int) * 262144) (x : Int) = ((i * 262144 + x : Nat) : Int) := by
    have e : ((i : Int) * 262144) = ((i * 262144 : Nat) : Int) := by omega
    rw [e, or32 _ _ (by omega) (by omega), nat_join 18 _ _ (by omega) (by omega)]
  have hw : IntKind.u32.wrap ((i : Int) * 262144) = (i : Int) * 262144 := by
    simp [IntKind.wrap, IntKind.bits, IntKind.signed]; omega
  rw [hr] at HF
  generalize extendedM S = T at *
  have HS := Lib.hid hs
  have hx2 : x < 262144 := by omega
  obtain ⟨y, hy⟩ : ∃ y, i * 262144 + x = y := ⟨_, rfl⟩
  rw [hy] at hor HS
  clear h hs hl hlt hr hq hx h01 hl2 hy
  cases r
  · go_enter Tryz.func74, Tryz.ntmps74
    go_wp2_with fail
    refine HF.out.mono ?_
    rintro e w1 ⟨rfl, hb⟩
    have H1 := Lib.hid (HH.out.below hb)
    have HB1 := Lib.hid hb
    clear hb
    go_wp2_with (first
      | (refine wpList_mput H1.out rfl 4 (.tmp 8) (.const (.bool true)) rfl 23 (.bool true) (by kernel_rfl) (by kernel_rfl) rfl info_boolS (by decide) { S with f := { S.f with ext := true } } a (by kernel_rfl) (fun _ _ h => h) ?_; intro W2 H2 T2)
      | (refine wpList_mput H2.out rfl 4 (.tmp 11) (.tmp 5) rfl 24 (.bool false) (by kernel_rfl) (by kernel_rfl) rfl info_boolS (by decide) { S with f := { S.f with ext := true, rtr := false } } a (by kernel_rfl) (fun _ _ h => h) ?_; intro W3 H3 T3))
    have c22 : ∀ e : Ext W3, e.W.cell? ⟨mp, 22, none⟩ = some (.int .u32 i) := fun e => ext_cell (H3.out.cell 22 _ (by show some (Value.int .u32 S.f.id) = _; rw [hid])) e
    refine wp_region_mix (fun w' => ∃ e : Ext W3, w' = e.W) [(true, 0), (true, 1), (true, 2), (true, 3), (true, 4), (true, 5), (true, 6), (true, 7), (false, 8), (true, 9), (true, 10), (true, 11), (true, 12), (true, 13)] [14] (by kernel_rfl) (by kernel_rfl) (by intro _ _ d _ _ h; cases d <;> exact h) ⟨⟨W3.drew, (Below.refl _ _).drew⟩, rfl⟩ ?_
    simp only [pickM, pickL, List.drop_succ_cons, List.drop_zero]
    repeat (first | (refine mix_pure (by rfl) (by rfl) ?_; intro K hK; go_big_quiet_op; go_big_quiet_on) | (refine mix_nilc ⟨mp, 0, none⟩ (by rfl) (by kernel_rfl) ?_; go_simp))
    refine mix_eff (by rfl) ?_
    intro K hK
    go_simp
    refine (HN.out _ _ _ H3.out.drew rfl).mono ?_
    rintro e w4 ⟨rfl, hb4⟩
    have hb34 : Below W3.heap.size W3 w4 := below_trans (Below.refl _ _).drew hb4
    refine hK _ _ ⟨⟨w4, hb34⟩, rfl⟩ ?_
    clear hK K
    repeat (first | (refine mix_pure (by rfl) (by rfl) ?_; intro K hK; go_big_quiet_op; go_big_quiet_on) | (refine mix_nilc ⟨mp, 0, none⟩ (by rfl) (by kernel_rfl) ?_; go_simp))
    refine mix_nil ?_
    have H4 := Lib.hid (H3.out.below hb34)
    have T4 := Lib.hid ((Turn.of HB1.out).tr (T2.out.tr (T3.out.tr (Turn.of (s := s) hb34))))
    clear hb4 hb34 c22
    refine wpList_mput H4.out rfl 26 (.tmp 25) (.tmp 22) rfl 22 (.int .u32 y) (by kernel_rfl) (by kernel_rfl) rfl info_u32S (by decide) { S with f := { S.f with ext := true, rtr := false, id := (y : Int) } } a (by kernel_rfl) (fun _ _ h => h) ?_
    intro W5 H5 T5
    refine wpList_nil ?_
    go_wp2_with fail
    refine (HF3.out _ _ _ H5.out rfl).mono ?_
    rintro e w6 ⟨rfl, hb6⟩
    have H6 := Lib.hid (H5.out.below hb6)
    have T6 := Lib.hid (T4.out.tr (T5.out.tr (Turn.of (s := s) hb6)))
    clear hb6
    cases q
    · go_wp2_with fail
      refine (mMust H6.out _).mono ?_
      rintro e w7 ⟨rfl, hA⟩
      obtain ⟨s7, a7, h7, n7, t7⟩ := hA.after (fun _ hk => .inl hk) T6.out
      go_wp2_with fail
      refine (mAsk h7 35 .reserved _ rfl).mono ?_
      rintro e w8 ⟨rfl, hA8⟩
      go_wp2_with fail
      go_end0
      exact ⟨rfl, HS.out ▸ hA8.after n7 t7⟩
    · go_wp2_with fail
      refine (mMust H6.out _).mono ?_
      rintro e w7 ⟨rfl, hA⟩
      have hA7 := hA.after (fun _ hk => .inl hk) T6.out
      go_wp2_with fail
      go_end0
      exact ⟨rfl, HS.out ▸ hA7⟩
  · go_enter Tryz.func74, Tryz.ntmps74
    go_wp2_with fail
    refine HF.out.mono ?_
    rintro e w1 ⟨rfl, hb⟩
    have H1 := Lib.hid (HH.out.below hb)
    have HB1 := Lib.hid hb
    clear hb
    go_wp2_with (first
      | (refine wpList_mput H1.out rfl 4 (.tmp 8) (.const (.bool true)) rfl 23 (.bool true) (by kernel_rfl) (by kernel_rfl) rfl info_boolS (by decide) { S with f := { S.f with ext := true } } a (by kernel_rfl) (fun _ _ h => h) ?_; intro W2 H2 T2)
      | (refine wpList_mput H2.out rfl 4 (.tmp 11) (.tmp 5) rfl 24 (.bool true) (by kernel_rfl) (by kernel_rfl) rfl info_boolS (by decide) { S with f := { S.f with ext := true, rtr := true } } a (by kernel_rfl) (fun _ _ h => h) ?_; intro W3 H3 T3))
    have c22 : ∀ e : Ext W3, e.W.cell? ⟨mp, 22, none⟩ = some (.int .u32 i) := fun e => ext_cell (H3.out.cell 22 _ (by show some (Value.int .u32 S.f.id) = _; rw [hid])) e
    refine wp_region_mix (fun w' => ∃ e : Ext W3, w' = e.W) [(true, 0), (true, 1), (true, 2), (true, 3), (true, 4), (true, 5), (true, 6), (true, 7), (false, 8), (true, 9), (true, 10), (true, 11), (true, 12), (true, 13)] [14] (by kernel_rfl) (by kernel_rfl) (by intro _ _ d _ _ h; cases d <;> exact h) ⟨⟨W3.drew, (Below.refl _ _).drew⟩, rfl⟩ ?_
    simp only [pickM, pickL, List.drop_succ_cons, List.drop_zero]
    repeat (first | (refine mix_pure (by rfl) (by rfl) ?_; intro K hK; go_big_quiet_op; go_big_quiet_on) | (refine mix_nilc ⟨mp, 0, none⟩ (by rfl) (by kernel_rfl) ?_; go_simp))
    refine mix_eff (by rfl) ?_
    intro K hK
    go_simp
    refine (HN.out _ _ _ H3.out.drew rfl).mono ?_
    rintro e w4 ⟨rfl, hb4⟩
    have hb34 : Below W3.heap.size W3 w4 := below_trans (Below.refl _ _).drew hb4
    refine hK _ _ ⟨⟨w4, hb34⟩, rfl⟩ ?_
    clear hK K
    repeat (first | (refine mix_pure (by rfl) (by rfl) ?_; intro K hK; go_big_quiet_op; go_big_quiet_on) | (refine mix_nilc ⟨mp, 0, none⟩ (by rfl) (by kernel_rfl) ?_; go_simp))
    refine mix_nil ?_
    have H4 := Lib.hid (H3.out.below hb34)
    have T4 := Lib.hid ((Turn.of HB1.out).tr (T2.out.tr (T3.out.tr (Turn.of (s := s) hb34))))
    clear hb4 hb34 c22
    refine wpList_mput H4.out rfl 26 (.tmp 25) (.tmp 22) rfl 22 (.int .u32 y) (by kernel_rfl) (by kernel_rfl) rfl info_u32S (by decide) { S with f := { S.f with ext := true, rtr := true, id := (y : Int) } } a (by kernel_rfl) (fun _ _ h => h) ?_
    intro W5 H5 T5
    refine wpList_nil ?_
    go_wp2_with fail
    refine (HF3.out _ _ _ H5.out rfl).mono ?_
    rintro e w6 ⟨rfl, hb6⟩
    have H6 := Lib.hid (H5.out.below hb6)
    have T6 := Lib.hid (T4.out.tr (T5.out.tr (Turn.of (s := s) hb6)))
    clear hb6
    cases q
    · go_wp2_with fail
      refine (mMust H6.out _).mono ?_
      rintro e w7 ⟨rfl, hA⟩
      obtain ⟨s7, a7, h7, n7, t7⟩ := hA.after (fun _ hk => .inl hk) T6.out
      go_wp2_with fail
      refine (mAsk h7 35 .reserved _ rfl).mono ?_
      rintro e w8 ⟨rfl, hA8⟩
      go_wp2_with fail
      go_end0
      exact ⟨rfl, HS.out ▸ hA8.after n7 t7⟩
    · go_wp2_with fail
      refine (mMust H6.out _).mono ?_
      rintro e w7 ⟨rfl, hA⟩
      have hA7 := hA.after (fun _ hk => .inl hk) T6.out
      go_wp2_with fail
      go_end0
      exact ⟨rfl, HS.out ▸ hA7⟩
end Go.Proofs.YtlmdkmflbhnlgaaGreat
namespace Go.Proofs.YtlmdkmflbhnlgaaGreat
open Go.RowKit
variable {w : World} {s : List Nat} {mp : Nat} {S : MS} {a : MA}
set_option maxHeartbeats 2000000 in
theorem last0f0 (h : MR w s mp S a) (hk : S.at_ = 0) (hfits : S.fits = false) :
    Calls Tryz.prog 114 #[.pointer (some ⟨mp, 0, none⟩), .int .u8 0] w (MDone w s mp (badM { S with at_ := 1, kind := 0, err := 0, sf := zFr } 5)) := by
  obtain ⟨T, HT⟩ : ∃ T, Hid ((badM { S with at_ := 1, kind := 0, err := 0, sf := zFr } 5 : MS) = T) := ⟨_, rfl⟩
  rw [HT.out]
  have c33a : w.cell? ⟨mp, 33, none⟩ = some (.int .i64 0) := h.cell 33 _ (by show some (Value.int .i64 (S.at_ : Int)) = _; rw [hk]; try rfl)
  have HH := Lib.hid h
  clear h hk
  go_enter Tryz.func114, Tryz.ntmps114
  go_wp2_with (first
    | (refine wpList_mput HH.out rfl 3 (.tmp 15) (.tmp 13) rfl 33 (.int .i64 1) (by kernel_rfl) (by kernel_rfl) rfl info_intS (by decide) { S with at_ := 1 } a (by kernel_rfl) (fun _ _ h => h) ?_; intro W2 H2 T2)
    | (refine wpList_mputs H2.out rfl 30 (.tmp 19) (.tmp 17) rfl 1 13 [.int .i64 0, .int .i64 0, .int .i64 0, .int .u32 0, .bool false, .bool false, .bool false, .bool false, .bool false, .int .u8 0, .int .u8 0, .int .u32 0, .slice none 0 0] rfl (by kernel_rfl) (by kernel_rfl) info_status (by simp [Value.oneCell']) (by decide) { S with at_ := 1, kind := 0, err := 0, sf := zFr } { a with sA := none, sc := 0 } (by kernel_rfl) (fun w' h => ⟨h.mem, h.raw, h.l, h.own, h.rl, h.ro, h.lo, DatU.nil _ _, h.f, h.step, h.next, h.gho⟩) ?_; intro W3 H3 T3; have c32 : W3.cell? ⟨mp, 32, none⟩ = some (.bool false) := H3.out.cell 32 _ (by show some (Value.bool S.fits) = _; rw [hfits]); have c33 : W3.cell? ⟨mp, 33, none⟩ = some (.int .i64 1) := H3.out.cell 33 _ rfl))
  refine (mBad H3.out 5).mono ?_
  rintro e w4 ⟨rfl, hA⟩
  have hA2 := hA.after (fun _ hk => .inl hk) (T2.out.tr T3.out)
  go_wp2_with fail
  go_end0
  exact ⟨rfl, HT.out ▸ hA2⟩
set_option maxHeartbeats 2000000 in
theorem last0f1 (h : MR w s mp S a) (hk : S.at_ = 0) (hfits : S.fits = false) :
    Calls Tryz.prog 114 #[.pointer (some ⟨mp, 0, none⟩), .int .u8 1] w (MDone w s mp ({ S with at_ := 1, kind := 0, err := 0, sf := zFr })) := by
  obtain ⟨T, HT⟩ : ∃ T, Hid (({ S with at_ := 1, kind := 0, err := 0, sf := zFr } : MS) = T) := ⟨_, rfl⟩
  rw [HT.out]
  have c33a : w.cell? ⟨mp, 33, none⟩ = some (.int .i64 0) := h.cell 33 _ (by show some (Value.int .i64 (S.at_ : Int)) = _; rw [hk]; try rfl)
  have HH := Lib.hid h
  clear h hk
  go_enter Tryz.func114, Tryz.ntmps114
  go_wp2_with (first
    | (refine wpList_mput HH.out rfl 3 (.tmp 15) (.tmp 13) rfl 33 (.int .i64 1) (by kernel_rfl) (by kernel_rfl) rfl info_intS (by decide) { S with at_ := 1 } a (by kernel_rfl) (fun _ _ h => h) ?_; intro W2 H2 T2)
    | (refine wpList_mputs H2.out rfl 30 (.tmp 19) (.tmp 17) rfl 1 13 [.int .i64 0, .int .i64 0, .int .i64 0, .int .u32 0, .bool false, .bool false, .bool false, .bool false, .bool false, .int .u8 0, .int .u8 0, .int .u32 0, .slice none 0 0] rfl (by kernel_rfl) (by kernel_rfl) info_status (by simp [Value.oneCell']) (by decide) { S with at_ := 1, kind := 0, err := 0, sf := zFr } { a with sA := none, sc := 0 } (by kernel_rfl) (fun w' h => ⟨h.mem, h.raw, h.l, h.own, h.rl, h.ro, h.lo, DatU.nil _ _, h.f, h.step, h.next, h.gho⟩) ?_; intro W3 H3 T3; have c32 : W3.cell? ⟨mp, 32, none⟩ = some (.bool false) := H3.out.cell 32 _ (by show some (Value.bool S.fits) = _; rw [hfits]); have c33 : W3.cell? ⟨mp, 33, none⟩ = some (.int .i64 1) := H3.out.cell 33 _ rfl))
  go_end0
  exact ⟨rfl, HT.out ▸ MAct.same H3.out (T2.out.tr T3.out)⟩
set_option maxHeartbeats 2000000 in
theorem last0t0 (h : MR w s mp S a) (hk : S.at_ = 0) (hfits : S.fits = true) :
    Calls Tryz.prog 114 #[.pointer (some ⟨mp, 0, none⟩), .int .u8 0] w (MDone w s mp (badM { S with at_ := 1, kind := 0, err := 0, sf := zFr } 5)) := by
  obtain ⟨T, HT⟩ : ∃ T, Hid ((badM { S with at_ := 1, kind := 0, err := 0, sf := zFr } 5 : MS) = T) := ⟨_, rfl⟩
  rw [HT.out]
  have c33a : w.cell? ⟨mp, 33, none⟩ = some (.int .i64 0) := h.cell 33 _ (by show some (Value.int .i64 (S.at_ : Int)) = _; rw [hk]; try rfl)
  have HH := Lib.hid h
  clear h hk
  go_enter Tryz.func114, Tryz.ntmps114
  go_wp2_with (first
    | (refine wpList_mput HH.out rfl 3 (.tmp 15) (.tmp 13) rfl 33 (.int .i64 1) (by kernel_rfl) (by kernel_rfl) rfl info_intS (by decide) { S with at_ := 1 } a (by kernel_rfl) (fun _ _ h => h) ?_; intro W2 H2 T2)
    | (refine wpList_mputs H2.out rfl 30 (.tmp 19) (.tmp 17) rfl 1 13 [.int .i64 0, .int .i64 0, .int .i64 0, .int .u32 0, .bool false, .bool false, .bool false, .bool false, .bool false, .int .u8 0, .int .u8 0, .int .u32 0, .slice none 0 0] rfl (by kernel_rfl) (by kernel_rfl) info_status (by simp [Value.oneCell']) (by decide) { S with at_ := 1, kind := 0, err := 0, sf := zFr } { a with sA := none, sc := 0 } (by kernel_rfl) (fun w' h => ⟨h.mem, h.raw, h.l, h.own, h.rl, h.ro, h.lo, DatU.nil _ _, h.f, h.step, h.next, h.gho⟩) ?_; intro W3 H3 T3; have c32 : W3.cell? ⟨mp, 32, none⟩ = some (.bool true) := H3.out.cell 32 _ (by show some (Value.bool S.fits) = _; rw [hfits]); have c33 : W3.cell? ⟨mp, 33, none⟩ = some (.int .i64 1) := H3.out.cell 33 _ rfl))
  refine (mBad H3.out 5).mono ?_
  rintro e w4 ⟨rfl, hA⟩
  have hA2 := hA.after (fun _ hk => .inl hk) (T2.out.tr T3.out)
  go_wp2_with fail
  go_end0
  exact ⟨rfl, HT.out ▸ hA2⟩
set_option maxHeartbeats 2000000 in
theorem last0t1 (h : MR w s mp S a) (hk : S.at_ = 0) (hfits : S.fits = true) :
    Calls Tryz.prog 114 #[.pointer (some ⟨mp, 0, none⟩), .int .u8 1] w (MDone w s mp ({ S with at_ := 1, kind := 1, err := 0, sf := zFr })) := by
  obtain ⟨T, HT⟩ : ∃ T, Hid (({ S with at_ := 1, kind := 1, err := 0, sf := zFr } : MS) = T) := ⟨_, rfl⟩
  rw [HT.out]
  have c33a : w.cell? ⟨mp, 33, none⟩ = some (.int .i64 0) := h.cell 33 _ (by show some (Value.int .i64 (S.at_ : Int)) = _; rw [hk]; try rfl)
  have HH := Lib.hid h
  clear h hk
  go_enter Tryz.func114, Tryz.ntmps114
  go_wp2_with (first
    | (refine wpList_mput HH.out rfl 3 (.tmp 15) (.tmp 13) rfl 33 (.int .i64 1) (by kernel_rfl) (by kernel_rfl) rfl info_intS (by decide) { S with at_ := 1 } a (by kernel_rfl) (fun _ _ h => h) ?_; intro W2 H2 T2)
    | (refine wpList_mputs H2.out rfl 30 (.tmp 19) (.tmp 17) rfl 1 13 [.int .i64 0, .int .i64 0, .int .i64 0, .int .u32 0, .bool false, .bool false, .bool false, .bool false, .bool false, .int .u8 0, .int .u8 0, .int .u32 0, .slice none 0 0] rfl (by kernel_rfl) (by kernel_rfl) info_status (by simp [Value.oneCell']) (by decide) { S with at_ := 1, kind := 0, err := 0, sf := zFr } { a with sA := none, sc := 0 } (by kernel_rfl) (fun w' h => ⟨h.mem, h.raw, h.l, h.own, h.rl, h.ro, h.lo, DatU.nil _ _, h.f, h.step, h.next, h.gho⟩) ?_; intro W3 H3 T3; have c32 : W3.cell? ⟨mp, 32, none⟩ = some (.bool true) := H3.out.cell 32 _ (by show some (Value.bool S.fits) = _; rw [hfits]); have c33 : W3.cell? ⟨mp, 33, none⟩ = some (.int .i64 1) := H3.out.cell 33 _ rfl)
    | (refine wpList_mputs H3.out rfl 30 (.tmp 53) (.tmp 51) rfl 1 13 [.int .i64 1, .int .i64 0, .int .i64 0, .int .u32 0, .bool false, .bool false, .bool false, .bool false, .bool false, .int .u8 0, .int .u8 0, .int .u32 0, .slice none 0 0] rfl (by kernel_rfl) (by kernel_rfl) info_status (by simp [Value.oneCell']) (by decide) { S with at_ := 1, kind := 1, err := 0, sf := zFr } { a with sA := none, sc := 0 } (by kernel_rfl) (fun w' h => ⟨h.mem, h.raw, h.l, h.own, h.rl, h.ro, h.lo, DatU.nil _ _, h.f, h.step, h.next, h.gho⟩) ?_; intro W4 H4 T4))
  go_end0
  exact ⟨rfl, HT.out ▸ MAct.same H4.out (T2.out.tr (T3.out.tr T4.out))⟩
set_option maxHeartbeats 2000000 in
theorem last1 (h : MR w s mp S a) (hk : S.at_ = 1) (b : Nat) :
    Calls Tryz.prog 114 #[.pointer (some ⟨mp, 0, none⟩), .int .u8 b] w (MDone w s mp ({ S with at_ := 2, kind := 0, err := 0, sf := zFr })) := by
  obtain ⟨T, HT⟩ : ∃ T, Hid (({ S with at_ := 2, kind := 0, err := 0, sf := zFr } : MS) = T) := ⟨_, rfl⟩
  rw [HT.out]
  have c33a : w.cell? ⟨mp, 33, none⟩ = some (.int .i64 1) := h.cell 33 _ (by show some (Value.int .i64 (S.at_ : Int)) = _; rw [hk]; try rfl)
  have HH := Lib.hid h
  clear h hk
  go_enter Tryz.func114, Tryz.ntmps114
  go_wp2_with (first
    | (refine wpList_mput HH.out rfl 3 (.tmp 15) (.tmp 13) rfl 33 (.int .i64 2) (by kernel_rfl) (by kernel_rfl) rfl info_intS (by decide) { S with at_ := 2 } a (by kernel_rfl) (fun _ _ h => h) ?_; intro W2 H2 T2)
    | (refine wpList_mputs H2.out rfl 30 (.tmp 19) (.tmp 17) rfl 1 13 [.int .i64 0, .int .i64 0, .int .i64 0, .int .u32 0, .bool false, .bool false, .bool false, .bool false, .bool false, .int .u8 0, .int .u8 0, .int .u32 0, .slice none 0 0] rfl (by kernel_rfl) (by kernel_rfl) info_status (by simp [Value.oneCell']) (by decide) { S with at_ := 2, kind := 0, err := 0, sf := zFr } { a with sA := none, sc := 0 } (by kernel_rfl) (fun w' h => ⟨h.mem, h.raw, h.l, h.own, h.rl, h.ro, h.lo, DatU.nil _ _, h.f, h.step, h.next, h.gho⟩) ?_; intro W3 H3 T3; have c32 : W3.cell? ⟨mp, 32, none⟩ = some (.bool S.fits) := H3.out.cell 32 _ rfl; have c33 : W3.cell? ⟨mp, 33, none⟩ = some (.int .i64 2) := H3.out.cell 33 _ rfl))
  go_end0
  exact ⟨rfl, HT.out ▸ MAct.same H3.out (T2.out.tr T3.out)⟩
set_option maxHeartbeats 2000000 in
theorem last2f (h : MR w s mp S a) (hk : S.at_ = 2) (hfits : S.fits = false) (b : Nat) :
    Calls Tryz.prog 114 #[.pointer (some ⟨mp, 0, none⟩), .int .u8 b] w (MDone w s mp (badM { S with at_ := 3, kind := 0, err := 0, sf := zFr } 6)) := by
  obtain ⟨T, HT⟩ : ∃ T, Hid ((badM { S with at_ := 3, kind := 0, err := 0, sf := zFr } 6 : MS) = T) := ⟨_, rfl⟩
  rw [HT.out]
  have c33a : w.cell? ⟨mp, 33, none⟩ = some (.int .i64 2) := h.cell 33 _ (by show some (Value.int .i64 (S.at_ : Int)) = _; rw [hk]; try rfl)
  have HH := Lib.hid h
  clear h hk
  go_enter Tryz.func114, Tryz.ntmps114
  go_wp2_with (first
    | (refine wpList_mput HH.out rfl 3 (.tmp 15) (.tmp 13) rfl 33 (.int .i64 3) (by kernel_rfl) (by kernel_rfl) rfl info_intS (by decide) { S with at_ := 3 } a (by kernel_rfl) (fun _ _ h => h) ?_; intro W2 H2 T2)
    | (refine wpList_mputs H2.out rfl 30 (.tmp 19) (.tmp 17) rfl 1 13 [.int .i64 0, .int .i64 0, .int .i64 0, .int .u32 0, .bool false, .bool false, .bool false, .bool false, .bool false, .int .u8 0, .int .u8 0, .int .u32 0, .slice none 0 0] rfl (by kernel_rfl) (by kernel_rfl) info_status (by simp [Value.oneCell']) (by decide) { S with at_ := 3, kind := 0, err := 0, sf := zFr } { a with sA := none, sc := 0 } (by kernel_rfl) (fun w' h => ⟨h.mem, h.raw, h.l, h.own, h.rl, h.ro, h.lo, DatU.nil _ _, h.f, h.step, h.next, h.gho⟩) ?_; intro W3 H3 T3; have c32 : W3.cell? ⟨mp, 32, none⟩ = some (.bool false) := H3.out.cell 32 _ (by show some (Value.bool S.fits) = _; rw [hfits]); have c33 : W3.cell? ⟨mp, 33, none⟩ = some (.int .i64 3) := H3.out.cell 33 _ rfl))
  refine (mBad H3.out 6).mono ?_
  rintro e w4 ⟨rfl, hA⟩
  have hA2 := hA.after (fun _ hk => .inl hk) (T2.out.tr T3.out)
  go_wp2_with fail
  go_end0
  exact ⟨rfl, HT.out ▸ hA2⟩
set_option maxHeartbeats 2000000 in
theorem last2t0 (h : MR w s mp S a) (hk : S.at_ = 2) (hfits : S.fits = true) :
    Calls Tryz.prog 114 #[.pointer (some ⟨mp, 0, none⟩), .int .u8 0] w (MDone w s mp (badM { S with at_ := 3, kind := 0, err := 0, sf := zFr } 5)) := by
  obtain ⟨T, HT⟩ : ∃ T, Hid ((badM { S with at_ := 3, kind := 0, err := 0, sf := zFr } 5 : MS) = T) := ⟨_, rfl⟩
  rw [HT.out]
  have c33a : w.cell? ⟨mp, 33, none⟩ = some (.int .i64 2) := h.cell 33 _ (by show some (Value.int .i64 (S.at_ : Int)) = _; rw [hk]; try rfl)
  have HH := Lib.hid h
  clear h hk
  go_enter Tryz.func114, Tryz.ntmps114
  go_wp2_with (first
    | (refine wpList_mput HH.out rfl 3 (.tmp 15) (.tmp 13) rfl 33 (.int .i64 3) (by kernel_rfl) (by kernel_rfl) rfl info_intS (by decide) { S with at_ := 3 } a (by kernel_rfl) (fun _ _ h => h) ?_; intro W2 H2 T2)
    | (refine wpList_mputs H2.out rfl 30 (.tmp 19) (.tmp 17) rfl 1 13 [.int .i64 0, .int .i64 0, .int .i64 0, .int .u32 0, .bool false, .bool false, .bool false, .bool false, .bool false, .int .u8 0, .int .u8 0, .int .u32 0, .slice none 0 0] rfl (by kernel_rfl) (by kernel_rfl) info_status (by simp [Value.oneCell']) (by decide) { S with at_ := 3, kind := 0, err := 0, sf := zFr } { a with sA := none, sc := 0 } (by kernel_rfl) (fun w' h => ⟨h.mem, h.raw, h.l, h.own, h.rl, h.ro, h.lo, DatU.nil _ _, h.f, h.step, h.next, h.gho⟩) ?_; intro W3 H3 T3; have c32 : W3.cell? ⟨mp, 32, none⟩ = some (.bool true) := H3.out.cell 32 _ (by show some (Value.bool S.fits) = _; rw [hfits]); have c33 : W3.cell? ⟨mp, 33, none⟩ = some (.int .i64 3) := H3.out.cell 33 _ rfl))
  refine (mBad H3.out 5).mono ?_
  rintro e w4 ⟨rfl, hA⟩
  have hA2 := hA.after (fun _ hk => .inl hk) (T2.out.tr T3.out)
  go_wp2_with fail
  go_end0
  exact ⟨rfl, HT.out ▸ hA2⟩
set_option maxHeartbeats 2000000 in
theorem last2t1 (h : MR w s mp S a) (hk : S.at_ = 2) (hfits : S.fits = true) :
    Calls Tryz.prog 114 #[.pointer (some ⟨mp, 0, none⟩), .int .u8 1] w (MDone w s mp ({ S with at_ := 3, kind := 0, err := 0, sf := zFr })) := by
  obtain ⟨T, HT⟩ : ∃ T, Hid (({ S with at_ := 3, kind := 0, err := 0, sf := zFr } : MS) = T) := ⟨_, rfl⟩
  rw [HT.out]
  have c33a : w.cell? ⟨mp, 33, none⟩ = some (.int .i64 2) := h.cell 33 _ (by show some (Value.int .i64 (S.at_ : Int)) = _; rw [hk]; try rfl)
  have HH := Lib.hid h
  clear h hk
  go_enter Tryz.func114, Tryz.ntmps114
  go_wp2_with (first
    | (refine wpList_mput HH.out rfl 3 (.tmp 15) (.tmp 13) rfl 33 (.int .i64 3) (by kernel_rfl) (by kernel_rfl) rfl info_intS (by decide) { S with at_ := 3 } a (by kernel_rfl) (fun _ _ h => h) ?_; intro W2 H2 T2)
    | (refine wpList_mputs H2.out rfl 30 (.tmp 19) (.tmp 17) rfl 1 13 [.int .i64 0, .int .i64 0, .int .i64 0, .int .u32 0, .bool false, .bool false, .bool false, .bool false, .bool false, .int .u8 0, .int .u8 0, .int .u32 0, .slice none 0 0] rfl (by kernel_rfl) (by kernel_rfl) info_status (by simp [Value.oneCell']) (by decide) { S with at_ := 3, kind := 0, err := 0, sf := zFr } { a with sA := none, sc := 0 } (by kernel_rfl) (fun w' h => ⟨h.mem, h.raw, h.l, h.own, h.rl, h.ro, h.lo, DatU.nil _ _, h.f, h.step, h.next, h.gho⟩) ?_; intro W3 H3 T3; have c32 : W3.cell? ⟨mp, 32, none⟩ = some (.bool true) := H3.out.cell 32 _ (by show some (Value.bool S.fits) = _; rw [hfits]); have c33 : W3.cell? ⟨mp, 33, none⟩ = some (.int .i64 3) := H3.out.cell 33 _ rfl))
  go_end0
  exact ⟨rfl, HT.out ▸ MAct.same H3.out (T2.out.tr T3.out)⟩
set_option maxHeartbeats 2000000 in
theorem lastk0 (h : MR w s mp S a) (k : Nat) (hk : S.at_ = k) (h3 : 3 ≤ k) (hk9 : k < 20) :
    Calls Tryz.prog 114 #[.pointer (some ⟨mp, 0, none⟩), .int .u8 0] w (MDone w s mp (badM { S with at_ := (k + 1), kind := 0, err := 0, sf := zFr } 5)) := by
  obtain ⟨T, HT⟩ : ∃ T, Hid ((badM { S with at_ := (k + 1), kind := 0, err := 0, sf := zFr } 5 : MS) = T) := ⟨_, rfl⟩
  rw [HT.out]
  have c33a : w.cell? ⟨mp, 33, none⟩ = some (.int .i64 k) := h.cell 33 _ (by show some (Value.int .i64 (S.at_ : Int)) = _; rw [hk]; try rfl)
  have HH := Lib.hid h
  have e0 : ((k : Int) == 0) = false := by rw [beq_eq_false_iff_ne]; omega
  have e1 : ((k : Int) == 1) = false := by rw [beq_eq_false_iff_ne]; omega
  have e2 : ((k : Int) == 2) = false := by rw [beq_eq_false_iff_ne]; omega
  have n0 : ¬ k = 0 := by omega
  have n1 : ¬ k = 1 := by omega
  have n2 : ¬ k = 2 := by omega
  clear h3
  clear h hk
  go_enter Tryz.func114, Tryz.ntmps114
  go_wp2_with (first
    | (refine wpList_mput HH.out rfl 3 (.tmp 15) (.tmp 13) rfl 33 (.int .i64 ((k : Int) + 1)) (by kernel_rfl) (by kernel_rfl) rfl info_intS (by decide) { S with at_ := (k + 1) } a (by kernel_rfl) (fun _ _ h => h) ?_; intro W2 H2 T2)
    | (refine wpList_mputs H2.out rfl 30 (.tmp 19) (.tmp 17) rfl 1 13 [.int .i64 0, .int .i64 0, .int .i64 0, .int .u32 0, .bool false, .bool false, .bool false, .bool false, .bool false, .int .u8 0, .int .u8 0, .int .u32 0, .slice none 0 0] rfl (by kernel_rfl) (by kernel_rfl) info_status (by simp [Value.oneCell']) (by decide) { S with at_ := (k + 1), kind := 0, err := 0, sf := zFr } { a with sA := none, sc := 0 } (by kernel_rfl) (fun w' h => ⟨h.mem, h.raw, h.l, h.own, h.rl, h.ro, h.lo, DatU.nil _ _, h.f, h.step, h.next, h.gho⟩) ?_; intro W3 H3 T3; have c32 : W3.cell? ⟨mp, 32, none⟩ = some (.bool S.fits) := H3.out.cell 32 _ rfl; have c33 : W3.cell? ⟨mp, 33, none⟩ = some (.int .i64 ((k : Int) + 1)) := H3.out.cell 33 _ rfl))
  refine (mBad H3.out 5).mono ?_
  rintro e w4 ⟨rfl, hA⟩
  have hA2 := hA.after (fun _ hk => .inl hk) (T2.out.tr T3.out)
  go_wp2_with fail
  go_end0
  exact ⟨rfl, HT.out ▸ hA2⟩
set_option maxHeartbeats 2000000 in
theorem lastk1 (h : MR w s mp S a) (k : Nat) (hk : S.at_ = k) (h3 : 3 ≤ k) (hk9 : k < 20) (h8 : k ≠ 8) :
    Calls Tryz.prog 114 #[.pointer (some ⟨mp, 0, none⟩), .int .u8 1] w (MDone w s mp ({ S with at_ := (k + 1), kind := 0, err := 0, sf := zFr })) := by
  obtain ⟨T, HT⟩ : ∃ T, Hid (({ S with at_ := (k + 1), kind := 0, err := 0, sf := zFr } : MS) = T) := ⟨_, rfl⟩
  rw [HT.out]
  have c33a : w.cell? ⟨mp, 33, none⟩ = some (.int .i64 k) := h.cell 33 _ (by show some (Value.int .i64 (S.at_ : Int)) = _; rw [hk]; try rfl)
  have HH := Lib.hid h
  have e0 : ((k : Int) == 0) = false := by rw [beq_eq_false_iff_ne]; omega
  have e1 : ((k : Int) == 1) = false := by rw [beq_eq_false_iff_ne]; omega
  have e2 : ((k : Int) == 2) = false := by rw [beq_eq_false_iff_ne]; omega
  have e9 : ((k : Int) + 1 == 9) = false := by rw [beq_eq_false_iff_ne]; omega
  have n0 : ¬ k = 0 := by omega
  have n1 : ¬ k = 1 := by omega
  have n2 : ¬ k = 2 := by omega
  clear h3
  clear h hk
  go_enter Tryz.func114, Tryz.ntmps114
  go_wp2_with (first
    | (refine wpList_mput HH.out rfl 3 (.tmp 15) (.tmp 13) rfl 33 (.int .i64 ((k : Int) + 1)) (by kernel_rfl) (by kernel_rfl) rfl info_intS (by decide) { S with at_ := (k + 1) } a (by kernel_rfl) (fun _ _ h => h) ?_; intro W2 H2 T2)
    | (refine wpList_mputs H2.out rfl 30 (.tmp 19) (.tmp 17) rfl 1 13 [.int .i64 0, .int .i64 0, .int .i64 0, .int .u32 0, .bool false, .bool false, .bool false, .bool false, .bool false, .int .u8 0, .int .u8 0, .int .u32 0, .slice none 0 0] rfl (by kernel_rfl) (by kernel_rfl) info_status (by simp [Value.oneCell']) (by decide) { S with at_ := (k + 1), kind := 0, err := 0, sf := zFr } { a with sA := none, sc := 0 } (by kernel_rfl) (fun w' h => ⟨h.mem, h.raw, h.l, h.own, h.rl, h.ro, h.lo, DatU.nil _ _, h.f, h.step, h.next, h.gho⟩) ?_; intro W3 H3 T3; have c32 : W3.cell? ⟨mp, 32, none⟩ = some (.bool S.fits) := H3.out.cell 32 _ rfl; have c33 : W3.cell? ⟨mp, 33, none⟩ = some (.int .i64 ((k : Int) + 1)) := H3.out.cell 33 _ rfl))
  go_end0
  exact ⟨rfl, HT.out ▸ MAct.same H3.out (T2.out.tr T3.out)⟩
set_option maxHeartbeats 2000000 in
theorem last81 (h : MR w s mp S a) (hk : S.at_ = 8) :
    Calls Tryz.prog 114 #[.pointer (some ⟨mp, 0, none⟩), .int .u8 1] w (MDone w s mp ({ S with at_ := 9, kind := 2, err := 0, sf := S.f })) := by
  obtain ⟨T, HT⟩ : ∃ T, Hid (({ S with at_ := 9, kind := 2, err := 0, sf := S.f } : MS) = T) := ⟨_, rfl⟩
  rw [HT.out]
  have c33a : w.cell? ⟨mp, 33, none⟩ = some (.int .i64 8) := h.cell 33 _ (by show some (Value.int .i64 (S.at_ : Int)) = _; rw [hk]; try rfl)
  have HH := Lib.hid h
  clear h hk
  go_enter Tryz.func114, Tryz.ntmps114
  go_wp2_with (first
    | (refine wpList_mput HH.out rfl 3 (.tmp 15) (.tmp 13) rfl 33 (.int .i64 9) (by kernel_rfl) (by kernel_rfl) rfl info_intS (by decide) { S with at_ := 9 } a (by kernel_rfl) (fun _ _ h => h) ?_; intro W2 H2 T2)
    | (refine wpList_mputs H2.out rfl 30 (.tmp 19) (.tmp 17) rfl 1 13 [.int .i64 0, .int .i64 0, .int .i64 0, .int .u32 0, .bool false, .bool false, .bool false, .bool false, .bool false, .int .u8 0, .int .u8 0, .int .u32 0, .slice none 0 0] rfl (by kernel_rfl) (by kernel_rfl) info_status (by simp [Value.oneCell']) (by decide) { S with at_ := 9, kind := 0, err := 0, sf := zFr } { a with sA := none, sc := 0 } (by kernel_rfl) (fun w' h => ⟨h.mem, h.raw, h.l, h.own, h.rl, h.ro, h.lo, DatU.nil _ _, h.f, h.step, h.next, h.gho⟩) ?_; intro W3 H3 T3; have c32 : W3.cell? ⟨mp, 32, none⟩ = some (.bool S.fits) := H3.out.cell 32 _ rfl; have c33 : W3.cell? ⟨mp, 33, none⟩ = some (.int .i64 9) := H3.out.cell 33 _ rfl; have c21 : W3.cell? ⟨mp, 21, none⟩ = some (.int .i64 S.f.kind) := H3.out.cell 21 _ rfl; have c22 : W3.cell? ⟨mp, 22, none⟩ = some (.int .u32 S.f.id) := H3.out.cell 22 _ rfl; have c23 : W3.cell? ⟨mp, 23, none⟩ = some (.bool S.f.ext) := H3.out.cell 23 _ rfl; have c24 : W3.cell? ⟨mp, 24, none⟩ = some (.bool S.f.rtr) := H3.out.cell 24 _ rfl; have c25 : W3.cell? ⟨mp, 25, none⟩ = some (.bool S.f.brs) := H3.out.cell 25 _ rfl; have c26 : W3.cell? ⟨mp, 26, none⟩ = some (.bool S.f.esi) := H3.out.cell 26 _ rfl; have c27 : W3.cell? ⟨mp, 27, none⟩ = some (.bool S.f.sec) := H3.out.cell 27 _ rfl; have c28 : W3.cell? ⟨mp, 28, none⟩ = some (.int .u8 S.f.sdt) := H3.out.cell 28 _ rfl; have c29 : W3.cell? ⟨mp, 29, none⟩ = some (.int .u8 S.f.vcid) := H3.out.cell 29 _ rfl; have c30 : W3.cell? ⟨mp, 30, none⟩ = some (.int .u32 S.f.af) := H3.out.cell 30 _ rfl; have c31 : W3.cell? ⟨mp, 31, none⟩ = some (.slice a.fA S.f.data.length a.fc) := H3.out.cell 31 _ rfl)
    | (refine wpList_mputs H3.out rfl 30 (.tmp 67) (.tmp 65) rfl 1 13 [.int .i64 2, .int .i64 0, .int .i64 S.f.kind, .int .u32 S.f.id, .bool S.f.ext, .bool S.f.rtr, .bool S.f.brs, .bool S.f.esi, .bool S.f.sec, .int .u8 S.f.sdt, .int .u8 S.f.vcid, .int .u32 S.f.af, .slice a.fA S.f.data.length a.fc] rfl (by kernel_rfl) (by kernel_rfl) info_status (by simp [Value.oneCell']) (by decide) { S with at_ := 9, kind := 2, err := 0, sf := S.f } { a with sA := a.fA, sc := a.fc } (by kernel_rfl) (fun w' h => ⟨h.mem, h.raw, h.l, h.own, h.rl, h.ro, h.lo, h.f, h.f, h.step, h.next, h.gho⟩) ?_; intro W4 H4 T4))
  go_end0
  exact ⟨rfl, HT.out ▸ MAct.same H4.out (T2.out.tr (T3.out.tr T4.out))⟩
theorem mLast (h : MR w s mp S a) (b : Nat) (hb : b ≤ 1) (hk : S.at_ < 20) :
    Calls Tryz.prog 114 #[.pointer (some ⟨mp, 0, none⟩), .int .u8 b] w (MDone w s mp (lastM S b)) := by
  obtain ⟨k, hk2⟩ : ∃ k, S.at_ = k := ⟨_, rfl⟩
  have hb2 : b = 0 ∨ b = 1 := by omega
  unfold lastM
  simp only [hk2]
  by_cases h0 : k = 0
  · subst h0
    cases hf : S.fits <;> rcases hb2 with rfl | rfl
    · simpa [hf] using last0f0 h hk2 hf
    · simpa [hf] using last0f1 h hk2 hf
    · simpa [hf] using last0t0 h hk2 hf
    · simpa [hf] using last0t1 h hk2 hf
  by_cases h1 : k = 1
  · subst h1
    simpa using last1 h hk2 b
  by_cases h2 : k = 2
  · subst h2
    cases hf : S.fits
    · simpa [hf] using last2f h hk2 hf b
    · rcases hb2 with rfl | rfl
      · simpa [hf] using last2t0 h hk2 hf
      · simpa [hf] using last2t1 h hk2 hf
  rcases hb2 with rfl | rfl
  · have := lastk0 h k hk2 (by omega) (by omega)
    simpa [h0, h1, h2] using this
  · by_cases h8 : k = 8
    · subst h8
      simpa using last81 h hk2
    · have := lastk1 h k hk2 (by omega) (by omega) h8
      simpa [h0, h1, h2, h8] using this
end Go.Proofs.YtlmdkmflbhnlgaaGreat
-- ScanE: scan's Status and Seen: what the machine tells. No condition.
namespace Go.Proofs.YtlmdkmflbhnlgaaGreat
open Go.RowKit
variable {w : World} {s : List Nat} {mp : Nat} {S : MS} {a : MA}
/-- A struct's store into a block. -/
theorem wpList_bputs {P : Program} {ops : Array Oper} {rest : List Oper} {op : Oper} {f : Act} {Q : Exit → Act → World → Prop} {g : Nat} {cs : Array Value} {t : TypeId} (hg : w.heap[g]? = some (.cells cs t (0, 0))) (hgd : op.guard = none) (ty : TypeId) (x y : Operand) (ho : op.op = .store ty x y)
    (i n : Nat) (vs : List Value) (hn : vs.length = n) (hx : f.eval x = .pointer (some ⟨g, i, none⟩)) (hy : f.eval y = .agg vs.toArray) (hi : (P.info? ty).map (·.size) = some n) (h1 : vs.toArray.all (·.oneCell') = true) (hin : i + n ≤ cs.size)
    (ds : Array Value) (hd : setAll vs i cs = ds)
    (K : ∀ W', Hid (W'.heap[g]? = some (.cells ds t (0, 0))) → Hid (Turn [g] w W') → wpList P ops Q rest (f.put op.dst undef) W') : wpList P ops Q (op :: rest) f w := by
  subst hn hd
  refine wpList_store_mid hgd ty x y ho g i vs.toArray hx hy (there_at hg _ _ (by simpa using hin)) (by simpa using hi) h1 (K _ (heap_setAll vs i hg) (Turn.setCells (.inl (by simp)) _ _ (Turn.refl _ _)))
theorem cells13 {w : World} {g : Nat} {v0 v1 v2 v3 v4 v5 v6 v7 v8 v9 v10 v11 v12 : Value} {t : TypeId} {fr : Nat × Nat} (h : w.heap[g]? = some (.cells #[v0, v1, v2, v3, v4, v5, v6, v7, v8, v9, v10, v11, v12] t fr)) :
    w.cell? ⟨g, 0, none⟩ = some v0 ∧ w.cell? ⟨g, 1, none⟩ = some v1 ∧ w.cell? ⟨g, 2, none⟩ = some v2 ∧ w.cell? ⟨g, 3, none⟩ = some v3 ∧ w.cell? ⟨g, 4, none⟩ = some v4 ∧ w.cell? ⟨g, 5, none⟩ = some v5 ∧ w.cell? ⟨g, 6, none⟩ = some v6 ∧ w.cell? ⟨g, 7, none⟩ = some v7 ∧ w.cell? ⟨g, 8, none⟩ = some v8 ∧ w.cell? ⟨g, 9, none⟩ = some v9 ∧ w.cell? ⟨g, 10, none⟩ = some v10 ∧ w.cell? ⟨g, 11, none⟩ = some v11 ∧ w.cell? ⟨g, 12, none⟩ = some v12 :=
  ⟨cell_of_heap h 0 _ rfl, cell_of_heap h 1 _ rfl, cell_of_heap h 2 _ rfl, cell_of_heap h 3 _ rfl, cell_of_heap h 4 _ rfl, cell_of_heap h 5 _ rfl, cell_of_heap h 6 _ rfl, cell_of_heap h 7 _ rfl, cell_of_heap h 8 _ rfl, cell_of_heap h 9 _ rfl, cell_of_heap h 10 _ rfl, cell_of_heap h 11 _ rfl, cell_of_heap h 12 _ rfl⟩
/-- What a row is, as a value: the kind, the error, the frame. -/
def stL (k e : Nat) (f : Fr) (A : Option Addr) (c : Nat) : List Value := [.int .i64 k, .int .i64 e, .int .i64 f.kind, .int .u32 f.id, .bool f.ext, .bool f.rtr, .bool f.brs, .bool f.esi, .bool f.sec, .int .u8 f.sdt, .int .u8 f.vcid, .int .u32 f.af, .slice A f.data.length c]
/-- What Status answers. -/
def StatOf (w : World) (k e : Nat) (f : Fr) (x : Ending) (w' : World) : Prop := ∃ A c, x = .returned (.tuple #[.agg (stL k e f A c).toArray, .int .i64 0]) ∧ Row w' w.heap.size 5 A c (bys f.data) ∧ Below w.heap.size w w'
theorem info_statusE : (Tryz.prog.info? 30).map (·.size) = some 13 := by kernel_rfl
set_option maxRecDepth 100000 in
set_option maxHeartbeats 8000000 in
theorem mStatus (h : MR w s mp S a) (hn : S.sf.data.length ≤ 1000000) :
    Calls Tryz.prog 15 #[.pointer (some ⟨mp, 0, none⟩)] w (StatOf w S.kind S.err S.sf) := by
  have HC := Lib.hid (fun W (hW : Rd W a.sA (bys S.sf.data)) => Copy_any W S.sf a.sA a.sc hW hn h.rest.sf.2.2)
  have HR := Lib.hid h.rest.sf.1
  have c1 : w.cell? ⟨mp, 1, none⟩ = some (.int .i64 S.kind) := h.cell 1 _ rfl
  have c2 : w.cell? ⟨mp, 2, none⟩ = some (.int .i64 S.err) := h.cell 2 _ rfl
  have c3 : w.cell? ⟨mp, 3, none⟩ = some (.int .i64 S.sf.kind) := h.cell 3 _ rfl
  have c4 : w.cell? ⟨mp, 4, none⟩ = some (.int .u32 S.sf.id) := h.cell 4 _ rfl
  have c5 : w.cell? ⟨mp, 5, none⟩ = some (.bool S.sf.ext) := h.cell 5 _ rfl
  have c6 : w.cell? ⟨mp, 6, none⟩ = some (.bool S.sf.rtr) := h.cell 6 _ rfl
  have c7 : w.cell? ⟨mp, 7, none⟩ = some (.bool S.sf.brs) := h.cell 7 _ rfl
  have c8 : w.cell? ⟨mp, 8, none⟩ = some (.bool S.sf.esi) := h.cell 8 _ rfl
  have c9 : w.cell? ⟨mp, 9, none⟩ = some (.bool S.sf.sec) := h.cell 9 _ rfl
  have c10 : w.cell? ⟨mp, 10, none⟩ = some (.int .u8 S.sf.sdt) := h.cell 10 _ rfl
  have c11 : w.cell? ⟨mp, 11, none⟩ = some (.int .u8 S.sf.vcid) := h.cell 11 _ rfl
  have c12 : w.cell? ⟨mp, 12, none⟩ = some (.int .u32 S.sf.af) := h.cell 12 _ rfl
  have c13 : w.cell? ⟨mp, 13, none⟩ = some (.slice a.sA S.sf.data.length a.sc) := h.cell 13 _ rfl
  have hlt := h.lt
  unfold StatOf
  generalize S.kind = k at *
  generalize S.err = er at *
  generalize S.sf = f at *
  generalize a.sA = A at *
  generalize a.sc = c at *
  clear h hn
  obtain ⟨fk, fi, fe, fr, f4, f5, f6, f7, f8, f9, l⟩ := f
  dsimp only [frv] at *
  obtain ⟨n, hn⟩ : ∃ n, l.length = n := ⟨_, rfl⟩
  rw [hn] at HC c13
  have HN := Lib.hid hn
  clear hn
  go_enter Tryz.func15, Tryz.ntmps15
  go_wp2_with fail
  refine calls_blk2 fun W1 q1 q2 hb1 => ?_
  have HB1 := Lib.hid hb1
  have hz := heap_lt q2
  refine (HC.out _ (HR.out.below hb1)).mono ?_
  rintro e w6 ⟨⟨A', c', rfl, hrow⟩, hb⟩
  have HROW := Lib.hid hrow
  have HB6 := Lib.hid (below_trans HB1.out hb)
  have Q1 := Lib.hid (heap_below hb q1)
  have Q2 := Lib.hid (heap_below hb q2)
  clear hb hb1 hrow c1 c2 c3 c4 c5 c6 c7 c8 c9 c10 c11 c12 c13 q1 q2
  go_wp2_with (first
    | (refine wpList_bputs (g := w.heap.size + 1) Q2.out rfl 28 (.tmp 15) (.tmp 14) rfl 2 11 [.int .i64 fk, .int .u32 fi, .bool fe, .bool fr, .bool f4, .bool f5, .bool f6, .int .u8 f7, .int .u8 f8, .int .u32 f9, .slice A' n c'] rfl (by kernel_rfl) (by kernel_rfl) info_frameS (by simp [Value.oneCell']) (by simp) #[.int .i64 k, .int .i64 er, .int .i64 fk, .int .u32 fi, .bool fe, .bool fr, .bool f4, .bool f5, .bool f6, .int .u8 f7, .int .u8 f8, .int .u32 f9, .slice A' n c'] (by kernel_rfl) ?_; intro W7 H7 T7; obtain ⟨b0, b1, b2, b3, b4, b5, b6, b7, b8, b9, b10, b11, b12⟩ := cells13 H7.out)
    | (refine wpList_bputs (g := w.heap.size) (T7.out.heap Q1.out (by simp)) rfl 30 (.tmp 2) (.tmp 16) rfl 0 13 [.int .i64 k, .int .i64 er, .int .i64 fk, .int .u32 fi, .bool fe, .bool fr, .bool f4, .bool f5, .bool f6, .int .u8 f7, .int .u8 f8, .int .u32 f9, .slice A' n c'] rfl (by kernel_rfl) (by kernel_rfl) info_statusE (by simp [Value.oneCell']) (by simp) #[.int .i64 k, .int .i64 er, .int .i64 fk, .int .u32 fi, .bool fe, .bool fr, .bool f4, .bool f5, .bool f6, .int .u8 f7, .int .u8 f8, .int .u32 f9, .slice A' n c'] (by kernel_rfl) ?_; intro W8 H8 T8; clear b0 b1 b2 b3 b4 b5 b6 b7 b8 b9 b10 b11 b12; obtain ⟨d0, d1, d2, d3, d4, d5, d6, d7, d8, d9, d10, d11, d12⟩ := cells13 H8.out))
  have T := (T7.out.mono (s' := [w.heap.size, w.heap.size + 1]) (fun x hx => .inl (by simp at hx; simp [hx]))).tr (T8.out.mono (fun x hx => .inl (by simp at hx; simp [hx])))
  refine bodyPost_ret (v := .tuple #[.agg #[.int .i64 k, .int .i64 er, .int .i64 fk, .int .u32 fi, .bool fe, .bool fr, .bool f4, .bool f5, .bool f6, .int .u8 f7, .int .u8 f8, .int .u32 f9, .slice A' n c'], .int .i64 0]) (by simp [results, Tryz.results15, go_sem, *]) rfl ⟨A', c', by rw [← HN.out]; rfl, ?_, ?_⟩
  · refine Row.turn (HROW.out.mono (by omega)) T (fun ad e hm => ?_)
    have := HROW.out.geq ad e
    simp at hm
    omega
  · exact Below.trans HB6.out (T.below (fun x hx => by simp at hx; omega) (by have := HB6.out.size; omega))
theorem mSeen (h : MR w s mp S a) : Calls Tryz.prog 14 #[.pointer (some ⟨mp, 0, none⟩)] w fun e w' => e = .returned (.int .i64 S.seen) ∧ w = w' := by
  have c14 : w.cell? ⟨mp, 14, none⟩ = some (.int .i64 S.seen) := h.cell 14 _ rfl
  clear h
  go_enter Tryz.func14, Tryz.ntmps14
  go_wp2
  go_ret
  exact ⟨rfl, rfl⟩
theorem RowU.nil (w : World) (s : List Nat) : RowU w s none 0 [] := ⟨Row.nil _ _ _, fun k hk => by simp [blkA] at hk⟩
theorem fr_eta (f : Fr) (w : World) (s : List Nat) (h : f = zFr) : DatU w s none 0 f.data := by subst h; exact DatU.nil _ _
set_option maxRecDepth 100000 in
set_option maxHeartbeats 4000000 in
theorem mNew (xl : Bool) (w : World) :
    Calls Tryz.prog 12 #[.bool xl] w fun e w' => e = .returned (.pointer (some ⟨w.heap.size, 0, none⟩)) ∧ (∃ s a, MR w' s w.heap.size (newM xl) a ∧ ∀ k ∈ s, w.heap.size ≤ k) ∧ Below w.heap.size w w' := by
  go_enter Tryz.func12, Tryz.ntmps12
  go_wp2_with fail
  obtain ⟨W1, hW1⟩ : ∃ W1, w.alloc (.cells (mca { newM xl with need := 0, next := .nil } ⟨none, 0, .func (.func 25) #[ptr w.heap.size] #[], .nilFunc, none, 0, none, 0, none, 0, none, 0⟩) 59) = W1 := ⟨_, rfl⟩
  have h1 : MR W1 [w.heap.size] w.heap.size { newM xl with need := 0, next := .nil } ⟨none, 0, .func (.func 25) #[ptr w.heap.size] #[], .nilFunc, none, 0, none, 0, none, 0, none, 0⟩ :=
    ⟨by rw [← hW1]; exact heap_new_at rfl, ⟨⟨by simp, fun k hk => by simp at hk; rw [← hW1]; simp; omega⟩, RowU.nil _ _, RowU.nil _ _, RowU.nil _ _, fun k hk => by simp [blkA] at hk, fun k hk => by simp [blkA] at hk, fun k hk => by simp [blkA] at hk, DatU.nil _ _, DatU.nil _ _, rfl, rfl, ⟨RowU.nil _ _, fun k hk => by simp [blkA, newM] at hk, fun k hk => by simp [blkA, newM] at hk, fun k hk => by simp [blkA, newM] at hk⟩⟩⟩
  have hb1 : Below w.heap.size w W1 := by rw [← hW1]; exact below_alloc (Below.refl _ _) _
  refine calls_name (T := fun W => W = W1) hW1 ?_
  rintro _ rfl
  refine (mAsk h1 1 .start _ rfl).mono ?_
  rintro e w2 ⟨rfl, s2, a2, h2, n2, t2⟩
  go_wp2_with fail
  go_ret
  exact ⟨rfl, ⟨s2, a2, h2, fun k hk => (n2 k hk).elim (fun h => by simp at h; omega) (fun h => by have := hb1.size; omega)⟩, hb1.trans (t2.below (fun x hx => by simp at hx; omega) hb1.size)⟩
end Go.Proofs.YtlmdkmflbhnlgaaGreat
namespace Go.Proofs.YtlmdkmflbhnlgaaGreat
open Go.RowKit
variable {w : World} {s : List Nat} {mp : Nat} {S : MS} {a : MA}
theorem info_funcB : (Tryz.prog.info? 57).map (·.size) = some 1 := by kernel_rfl
theorem BoxV.new {w W : World} {s : List Nat} {p : Nat} {cs : Array Value} {t : TypeId} (h : W.heap[p]? = some (.cells cs t (0, 0))) (hs : ∀ k ∈ s, k < w.heap.size) (hp : w.heap.size ≤ p) : BoxV W s p cs t := ⟨h, fun hm => by have := hs p hm; omega⟩
set_option maxHeartbeats 2000000 in
theorem mMark (h : MR w s mp S a) (A : Option Addr) (c n : Nat) (l : List Nat) (hn : l.length = n) (hd : DatU w s A c l) (x : Aft) (f0 : Fn) (hv : AftOk mp x (.func f0 #[ptr mp] #[])) :
    Calls Tryz.prog 120 #[.pointer (some ⟨mp, 0, none⟩), .slice A n c, .func f0 #[.pointer (some ⟨mp, 0, none⟩)] #[]] w (MDone w s mp (markM S l x)) := by
  have HH := Lib.hid h
  have HD := Lib.hid hd
  have HV := Lib.hid hv
  have HS : Hid (∀ k ∈ s, k < w.heap.size) := h.rest.mem.2
  have HN := Lib.hid hn
  clear h hd hv hn
  go_enter Tryz.func120, Tryz.ntmps120
  go_upto_region 1 with (fail)
  obtain ⟨W1, hW1, q1, q2, q3, hb1⟩ : ∃ W1, ((w.alloc (.cells #[.pointer (some ⟨mp, 0, none⟩)] 36)).alloc (.cells #[.slice A n c] 22)).alloc (.cells #[.func f0 #[.pointer (some ⟨mp, 0, none⟩)] #[]] 1) = W1 ∧ W1.heap[w.heap.size]? = some (.cells #[.pointer (some ⟨mp, 0, none⟩)] 36 (0, 0)) ∧ W1.heap[w.heap.size + 1]? = some (.cells #[.slice A n c] 22 (0, 0)) ∧ W1.heap[w.heap.size + 1 + 1]? = some (.cells #[.func f0 #[.pointer (some ⟨mp, 0, none⟩)] #[]] 1 (0, 0)) ∧ Below w.heap.size w W1 :=
    ⟨_, rfl, heap_push (heap_push (heap_new_at rfl)), heap_push (heap_new_at (by simp)), heap_new_at (by simp), below_alloc (below_alloc (below_alloc (Below.refl _ _) _) _) _⟩
  rw [hW1]
  have c0 := cell_of_heap q1 0 _ rfl
  have H1 := Lib.hid (HH.out.below hb1)
  have B1 := Lib.hid (BoxV.new q1 HS.out (Nat.le_refl _))
  have B2 := Lib.hid (BoxV.new q2 HS.out (by omega))
  have B3 := Lib.hid (BoxV.new q3 HS.out (by omega))
  have D1 := Lib.hid (HD.out.turn (Turn.of hb1) (fun k hk => .inl hk))
  have HB := Lib.hid hb1
  have hmpl := HH.out.lt
  have hne : w.heap.size ≠ mp := by omega
  have Q1 := Lib.hid q1
  clear hW1 q1 q2 q3 hb1
  go_wp2_with (first
    | (refine wpList_mput H1.out rfl 3 (.tmp 8) (.const (.int .i64 0)) rfl 33 (.int .i64 0) (by kernel_rfl) (by kernel_rfl) rfl info_intS (by decide) { S with at_ := 0 } a (by kernel_rfl) (fun _ _ h => h) ?_; intro W2 H2 T2; have c0 := cell_of_heap (T2.out.heap Q1.out B1.out.2) 0 _ rfl)
    | (refine wpList_mput H2.out rfl 57 (.tmp 12) (.tmp 10) rfl 15 (.func (.func 131) #[] #[.pointer (some ⟨w.heap.size, 0, none⟩), .pointer (some ⟨w.heap.size + 1, 0, none⟩), .pointer (some ⟨w.heap.size + 1 + 1, 0, none⟩)]) (by kernel_rfl) (by kernel_rfl) rfl info_funcB (by decide) (markM S l x) { a with sv := .func (.func 131) #[] #[.pointer (some ⟨w.heap.size, 0, none⟩), .pointer (some ⟨w.heap.size + 1, 0, none⟩), .pointer (some ⟨w.heap.size + 1 + 1, 0, none⟩)] } (by kernel_rfl) (fun w' ht h => ⟨h.mem, h.raw, h.l, h.own, h.rl, h.ro, h.lo, h.sf, h.f, ⟨_, _, _, A, c, .func f0 #[ptr mp] #[], rfl, (B1.out.turn T2.out (fun k hk => .inl hk)).turn ht (fun k hk => .inl hk), by rw [HN.out]; exact (B2.out.turn T2.out (fun k hk => .inl hk)).turn ht (fun k hk => .inl hk), (B3.out.turn T2.out (fun k hk => .inl hk)).turn ht (fun k hk => .inl hk), (D1.out.turn T2.out (fun k hk => .inl hk)).turn ht (fun k hk => .inl hk), HV.out⟩, h.next, h.gho⟩) ?_; intro W3 H3 T3))
  go_end0
  exact ⟨rfl, (MAct.same H3.out (T2.out.tr T3.out)).pre HB.out⟩
set_option maxHeartbeats 2000000 in
theorem mXlHead (h : MR w s mp S a) (hl : 16 < S.l.length) :
    Calls Tryz.prog 110 #[.pointer (some ⟨mp, 0, none⟩)] w (MDone w s mp (xlHeadM S)) := by
  have HF := Lib.hid (mFlag h 16 hl)
  have HH := Lib.hid h
  have hs : xlHeadM S = if flagM S 16 then badM S 5 else markM S [1, 0, 0, 1] .xlCode := rfl
  rw [hs]
  generalize flagM S 16 = q at *
  clear h hs hl
  cases q
  · go_enter Tryz.func110, Tryz.ntmps110
    go_wp2_with fail
    refine HF.out.mono ?_
    rintro e w1 ⟨rfl, hb⟩
    go_wp2_with fail
    refine (mMust (HH.out.below hb) _).mono ?_
    rintro e w2 ⟨rfl, hA⟩
    obtain ⟨s2, a2, h2, n2, t2⟩ := hA.pre hb
    go_wp2_with fail
    have hb3 := below_alloc (Below.refl w2.heap.size w2) (.cells #[.int .u8 1, .int .u8 0, .int .u8 0, .int .u8 1] 5)
    have hd : DatU (w2.alloc (.cells #[.int .u8 1, .int .u8 0, .int .u8 0, .int .u8 1] 5)) s2 (some ⟨w2.heap.size, 0, none⟩) 4 [1, 0, 0, 1] :=
      ⟨Rd.blk (heap_new_at rfl), fun k hk => by simp [blkA] at hk; subst hk; exact ⟨fun hm => by have := h2.rest.mem.2 _ hm; omega, by simp, _, _, heap_new_at rfl⟩, fun e => by cases e⟩
    refine (mMark (h2.below hb3) _ 4 4 [1, 0, 0, 1] rfl hd .xlCode _ rfl).mono ?_
    rintro e w3 ⟨rfl, hA3⟩
    go_wp2_with fail
    go_end0
    exact ⟨rfl, (hA3.pre hb3).after n2 t2⟩
  · go_enter Tryz.func110, Tryz.ntmps110
    go_wp2_with fail
    refine HF.out.mono ?_
    rintro e w1 ⟨rfl, hb⟩
    go_wp2_with fail
    refine (mMust (HH.out.below hb) _).mono ?_
    rintro e w2 ⟨rfl, hA⟩
    have hA2 := hA.pre hb
    go_wp2_with fail
    go_end0
    exact ⟨rfl, hA2⟩
set_option maxHeartbeats 2000000 in
theorem mTells (h : MR w s mp S a) (A : Option Addr) (c : Nat) (l : List Nat) (hr : Rd w A (bys l)) (hl : l.length = 4) (h01 : ∀ x ∈ l, x ≤ 1) (hraw : S.raw.length ≤ 65536) (hraw1 : ∀ x ∈ S.raw, x ≤ 1) :
    Calls Tryz.prog 119 #[.pointer (some ⟨mp, 0, none⟩), .slice A 4 c] w fun e w' => e = .returned (.bool (tellsM S.raw l)) ∧ Below w.heap.size w w' := by
  have HT := Lib.hid (Tells_any A c l w hr hl h01)
  obtain ⟨n, hn⟩ : ∃ n, S.raw.length = n := ⟨_, rfl⟩
  rw [hn] at hraw
  have HC := Lib.hid (fun W (hW : MR W s mp S a) => Count_any W a.rA a.rc n S.raw hW.rest.raw.1.rd hn hraw hraw1)
  have HH := Lib.hid h
  have HN := Lib.hid hn
  have ht : tellsM S.raw l = (tellsOk (numN l) && decide (tellsG (numN l) = (if (splE 0 0 0 [] S.raw).1 then (splE 0 0 0 [] S.raw).2.1 else 0) % 8)) := rfl
  obtain ⟨T, hT⟩ : ∃ T, tellsM S.raw l = T := ⟨_, rfl⟩
  rw [hT] at ht ⊢
  generalize (if (splE 0 0 0 [] S.raw).1 = true then (splE 0 0 0 [] S.raw).2.1 else 0) = k at *
  generalize (if (splE 0 0 0 [] S.raw).1 = true then (0 : Int) else 4) = ke at *
  generalize tellsG (numN l) = g at *
  generalize tellsOk (numN l) = q at *
  have HTT := Lib.hid ht
  clear h hr hl h01 hraw1 hn ht hT
  have hrem : ((k : Int)).tmod 8 = ((k % 8 : Nat) : Int) := by rw [Int.tmod_eq_emod_of_nonneg (by omega)]; omega
  cases q
  · simp only [Bool.false_eq_true, if_false, Bool.false_and] at HT HTT
    go_enter Tryz.func119, Tryz.ntmps119
    go_wp2_with fail
    refine HT.out.mono ?_
    rintro e w1 ⟨rfl, hb⟩
    have H1 := Lib.hid (HH.out.below hb)
    have c17 : w1.cell? ⟨mp, 17, none⟩ = some (.slice a.rA n a.rc) := H1.out.cell 17 _ (by show some (Value.slice a.rA S.raw.length a.rc) = _; rw [HN.out])
    have HB := Lib.hid hb
    clear hb
    go_wp2_with fail
    refine (HC.out _ H1.out).mono ?_
    rintro e w2 ⟨rfl, hb⟩
    have HB2 := Lib.hid (below_trans HB.out hb)
    clear hb
    go_wp2_with fail
    go_ret
    exact ⟨by rw [HTT.out]; rfl, HB2.out⟩
  · simp only [if_true, Bool.true_and] at HT HTT
    go_enter Tryz.func119, Tryz.ntmps119
    go_wp2_with fail
    refine HT.out.mono ?_
    rintro e w1 ⟨rfl, hb⟩
    have H1 := Lib.hid (HH.out.below hb)
    have c17 : w1.cell? ⟨mp, 17, none⟩ = some (.slice a.rA n a.rc) := H1.out.cell 17 _ (by show some (Value.slice a.rA S.raw.length a.rc) = _; rw [HN.out])
    have HB := Lib.hid hb
    clear hb
    go_wp2_with fail
    refine (HC.out _ H1.out).mono ?_
    rintro e w2 ⟨rfl, hb⟩
    have HB2 := Lib.hid (below_trans HB.out hb)
    clear hb
    go_wp2_with fail
    go_ret
    exact ⟨ret_bool (by rw [HTT.out, Bool.eq_iff_iff]; simp only [beq_iff_eq, decide_eq_true_eq]; omega), HB2.out⟩
end Go.Proofs.YtlmdkmflbhnlgaaGreat
