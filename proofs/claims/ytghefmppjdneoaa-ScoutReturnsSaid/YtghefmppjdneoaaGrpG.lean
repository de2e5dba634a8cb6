/- Layer 12, the texts ScP to ScE joined: what the functions that a scout reaches do with memory, each told once. -/
import Derived.Test.YtghefmppjdneoaaGrpF
import Derived.Test.YtghefmppjdneoaaGrpC
namespace Go.Proofs.Ytghefmppjdneoaa
open Go.RowKit Go.Maps

/-- a ping that was asked for -/
structure Rel where
  seq : Int
  to_ : Int
  org : Int
  was : Int
deriving DecidableEq
/-- a frame, as scouts make and read it -/
structure Fr where
  to_ : Int
  kind : Int
  frm : Int
  seq : Int
  node : Int
  rum : List Mem
/-- a scout -/
structure Sct where
  v : Known
  f : Hm.St
  tgt : Int
  seq : Int
  got : Bool
  help : List Int
  me : Int
  nodes : Int
  ticks : Int
  last : Int
  line : List Int
  since : Int → Option Int
  rel : List Rel
  left : Bool
namespace Sct
def getM (s : Sct) (n : Int) : Mem := (s.v n).getD Mem.zero
/-- a word is known, and told on -/
def learn (s : Sct) (m : Mem) : Sct :=
  if takes s.v m = true then { s with v := upd s.v m, f := Hm.push1 5 s.f m, since := if m.s = 1 then Sk.upd s.since m.n s.ticks else s.since } else s
def turn (s : Sct) (n k : Int) : Sct := s.learn ⟨(s.getM n).n, (s.getM n).i, k⟩
def stateOf (s : Sct) (n : Int) : Int := match s.v n with | some m => m.s | none => 3
def peers (s : Sct) : List Int := (present s.v).filter fun n => !decide (n = s.me)
def line1 (s : Sct) : List Int := s.line.filter fun n => decide (n ∈ s.peers)
def nextLine (s : Sct) (d : Int) : List Int := if s.line1 = [] then mixR s.peers d else s.line1
def next (s : Sct) (d : Int) : Int × Sct := match s.nextLine d with
  | [] => (0, { s with line := [] })
  | x :: r => (x, { s with line := r })
def far (s : Sct) : List Int := ((all s.v).filter fun m => !decide (m.n = s.me) && decide (1 < m.s)).map fun m => m.n
def round (s : Sct) : Int := s.ticks.tdiv 4 + 1
def farAt (s : Sct) : Int := s.far.getD ((s.round.tdiv 4).tmod s.far.length).toNat 0
def choose (s : Sct) (d : Int) : Int × Sct :=
  if s.round.tmod 4 ≠ 0 ∨ s.far = [] then s.next d else (s.farAt, { s with f := Hm.push1 5 s.f (s.getM s.farAt) })
def nearAt (s : Sct) : Nat := (s.peers.filter fun n => decide (n < s.tgt)).length
def around (s : Sct) : List Int := s.peers.drop s.nearAt ++ s.peers.take s.nearAt
def near (s : Sct) : List Int := (if s.tgt ∈ s.peers then s.around.tail else s.around).take 2
def waits (s : Sct) : Bool := decide (0 < s.tgt) && !s.got
/-- frames with rumours -/
def tell1 (a : Sct × List Fr) (x : Fr) : Sct × List Fr := ({ a.1 with f := Hm.rest 6 a.1.f }, a.2 ++ [{ x with frm := a.1.me, rum := (Hm.told 6 a.1.f).map fun r => r.m }])
def tell (s : Sct) (l : List Fr) : Sct × List Fr := l.foldl tell1 (s, [])
def age1 (s : Sct) (m : Mem) : Sct := if m.n ≠ s.me ∧ m.s = 1 ∧ 8 ≤ s.ticks - (s.since m.n).getD 0 then s.turn m.n 2 else s
def age (s : Sct) : Sct := (all s.v).foldl age1 s
def ask1 (s : Sct) (d : Int) : Sct × List Fr :=
  let a := s.choose d
  let t : Sct := { a.2 with tgt := a.1, seq := 0, got := false, help := [] }
  if 0 < t.tgt then ({ t with last := t.last + 1, seq := t.last + 1 }, [⟨t.tgt, 1, 0, t.last + 1, 0, []⟩]) else (t, [])
def ask3 (s : Sct) : Sct × List Fr :=
  let t : Sct := if s.waits = true then { s with help := s.near } else s
  (t, t.help.map fun n => ⟨n, 3, 0, t.seq, t.tgt, []⟩)
def ask0 (s : Sct) : Sct := if s.waits = true ∧ s.stateOf s.tgt = 0 then s.turn s.tgt 1 else s
def tick (s : Sct) (d : Int) : Sct × List Fr :=
  let t : Sct := { s with ticks := s.ticks + 1 }
  if t.left = true then (t, []) else
    let a : Sct × List Fr := if t.ticks.tmod 4 = 1 then t.ask1 d else if t.ticks.tmod 4 = 3 then t.ask3 else if t.ticks.tmod 4 = 0 then (t.ask0, []) else (t, [])
    a.1.age.tell a.2
def own (s : Sct) : Mem := s.getM s.me
def rumour (s : Sct) (m : Mem) : Sct :=
  if s.nodes < m.n then s
  else if m.n ≠ s.me then s.learn m
  else if s.left = true ∨ m.good = false ∨ m = s.own then s
  else if s.own.above m = true then { s with f := Hm.push1 5 s.f s.own }
  else if m.i < 1073741824 then s.learn ⟨s.me, m.i + 1, 0⟩
  else s
def isNode (s : Sct) (n : Int) : Bool := decide (1 ≤ n) && decide (n ≤ s.nodes) && !decide (n = s.me)
def ask (s : Sct) (x : Fr) : Sct × List Fr :=
  if s.isNode x.node = false ∨ x.node = x.frm then (s, []) else
    let r := s.rel ++ [⟨s.last + 1, x.node, x.frm, x.seq⟩]
    ({ s with last := s.last + 1, rel := r.drop (r.length - 16) }, [⟨x.node, 1, 0, s.last + 1, 0, []⟩])
def mine (x : Fr) (r : Rel) : Bool := decide (r.seq = x.seq) && decide (r.to_ = x.frm)
def ack (s : Sct) (x : Fr) : Sct × List Fr :=
  let asked := x.frm = s.tgt ∨ x.frm ∈ s.help
  let t : Sct := if 0 < s.tgt ∧ x.seq = s.seq ∧ x.node = s.tgt ∧ asked then { s with got := true } else s
  ({ t with rel := t.rel.filter fun r => !mine x r }, (t.rel.filter (mine x)).map fun r => ⟨r.org, 2, 0, r.was, x.frm, []⟩)
def hear (s : Sct) (x : Fr) : Sct × List Fr :=
  if s.isNode x.frm = false then (s, []) else
    let t : Sct := if (s.getM x.frm).s ≠ 0 then { s with f := Hm.push1 5 s.f (s.getM x.frm) } else s
    let u := x.rum.foldl rumour t
    if u.left = true then (u, [])
    else if x.kind = 1 then u.tell [⟨x.frm, 2, 0, x.seq, u.me, []⟩]
    else if x.kind = 3 then (u.ask x).1.tell (u.ask x).2
    else if x.kind = 2 then (u.ack x).1.tell (u.ack x).2
    else (u, [])
def leave (s : Sct) : Sct × List Fr :=
  if s.left = true then (s, []) else
    let t : Sct := { s.turn s.me 3 with left := true }
    t.tell (t.peers.map fun n => ⟨n, 2, 0, 0, t.me, []⟩)
/-- a new one: all nodes are alive -/
def fresh (me nodes : Int) : Sct :=
  { v := fun n => if 1 ≤ n ∧ n ≤ nodes then some ⟨n, 0, 0⟩ else none, f := fun _ => none, tgt := 0, seq := 0, got := false, help := [], me := me, nodes := nodes, ticks := 0, last := 0, line := [], since := fun _ => none, rel := [], left := false }
end Sct
end Go.Proofs.Ytghefmppjdneoaa

namespace Go.Proofs.Ytghefmppjdneoaa
open Go.RowKit Go.Maps

def relC (r : Rel) : List Value := [.int .i64 r.seq, .int .i64 r.to_, .int .i64 r.org, .int .i64 r.was]
def relsV (l : List Rel) : List Value := l.flatMap relC
/-- a row of asked pings -/
def RRow (w : World) (A : Option Addr) (c : Nat) (l : List Rel) : Prop :=
  (A = none ∧ l = [] ∧ c = 0) ∨ ∃ g off cs, A = some ⟨g, off, none⟩ ∧ At w g 113 cs ∧ (cs.drop off).take (l.length * 4) = relsV l ∧ off + c * 4 = cs.length ∧ l.length ≤ c ∧ c ≤ maxLen
theorem RRow.keep {w w' : World} {A : Option Addr} {c : Nat} {l : List Rel} (h : RRow w A c l) (hk : ∀ g off, A = some ⟨g, off, none⟩ → w'.heap[g]? = w.heap[g]?) : RRow w' A c l := by
  rcases h with h | ⟨g, off, cs, rfl, h1, h2⟩
  · exact .inl h
  · exact .inr ⟨g, off, cs, rfl, (hk g off rfl).trans h1, h2⟩
theorem RRow.lt {w : World} {A : Option Addr} {c : Nat} {l : List Rel} (h : RRow w A c l) {g off : Nat} (hA : A = some ⟨g, off, none⟩) : g < w.heap.size := by
  rcases h with ⟨h, _⟩ | ⟨g', off', cs, h0, h1, _⟩
  · rw [hA] at h; cases h
  · rw [hA] at h0
    injection h0 with h0
    injection h0 with h0 _
    subst h0
    exact h1.lt
theorem RRow.nil (w : World) : RRow w none 0 [] := .inl ⟨rfl, rfl, rfl⟩
theorem IRow.nil (w : World) : IRow w none 0 [] := .inl ⟨rfl, rfl, rfl⟩
def intD {H : Type} (n : Int) : DataW H := .lit (.int .i64 n)
theorem intD_inj {H : Type} {a b : Int} (h : (intD a : DataW H) = intD b) : a = b := by
  injection h with h1
  injection h1
/-- a number in a map, read -/
def readN {H : Type} (v : Value) : Option (DataW H × List MemPlace) :=
  match v with
  | .int .i64 n => some (intD n, [])
  | _ => none
theorem readN_int {H : Type} (n : Int) : readN (H := H) (.int .i64 n) = some (intD n, []) := rfl
theorem readN_inv {H : Type} {v : Value} {z : DataW H × List MemPlace} (h : readN v = some z) : ∃ n, v = .int .i64 n ∧ z = (intD n, []) := by
  unfold readN at h
  split at h
  · rename_i n
    exact ⟨n, rfl, (Option.some.inj h).symm⟩
  · cases h
/-- where a scout lies -/
structure Blk where
  s : Nat
  pv : Nat
  bv : Nat
  nv : Nat
  ph : Nat
  bh : Nat
  nh : Nat
  bs : Nat
  ns : Nat
  hA : Option Addr
  hc : Nat
  lA : Option Addr
  lc : Nat
  rA : Option Addr
  rc : Nat
def blkOf (A : Option Addr) : Option Nat := A.map fun a => a.block
/-- the blocks beside hum's -/
def Blk.list (b : Blk) : List (Option Nat) := [some b.s, some b.pv, some b.bv, some b.bs, blkOf b.hA, blkOf b.lA, blkOf b.rA]
def scC (b : Blk) (t : Sct) : List Value :=
  [ptrV b.pv, ptrV b.ph, .int .i64 t.tgt, .int .i64 t.seq, .bool t.got, .slice b.hA t.help.length b.hc, .int .i64 t.me, .int .i64 t.nodes, .int .i64 t.ticks, .int .i64 t.last, .slice b.lA t.line.length b.lc, .map (some b.bs), .slice b.rA t.rel.length b.rc, .bool t.left]
/-- how far counters may have come -/
structure Sct.Lim (t : Sct) (M : Nat) : Prop where
  me : 1 ≤ t.me ∧ t.me ≤ t.nodes ∧ t.nodes ≤ 6
  ticks : 0 ≤ t.ticks ∧ t.ticks ≤ M
  last : 0 ≤ t.last ∧ t.last ≤ M
  seq : 0 ≤ t.seq ∧ t.seq ≤ M
  tgt : 0 ≤ t.tgt ∧ t.tgt ≤ 6
  help : t.help.length ≤ 2
  line : t.line.length ≤ 6
  rel : t.rel.length ≤ 16
  since : ∀ n k, t.since n = some k → 1 ≤ n ∧ n ≤ 6 ∧ 0 ≤ k ∧ k ≤ M
/-- a scout in memory: all its blocks are in O -/
structure ScAt (H : Type) (w : World) (O : Nat → Prop) (M : Nat) (b : Blk) (t : Sct) : Prop where
  hd : At w b.s 79 (scC b t)
  view : ViewAt H w b.pv b.bv b.nv t.v
  hum : ∃ A, HumSt H w A b.ph b.bh b.nh 5 t.f ∧ (∀ i, some i ∈ b.list → A i) ∧ ∀ i, i < w.heap.size → ¬ O i → A i
  since : w.ownsMap Try.prog 3 readN b.bs b.ns (Sk.mapD (H := H) intD t.since)
  line : IRow w b.lA b.lc t.line
  help : IRow w b.hA b.hc t.help
  rel : RRow w b.rA b.rc t.rel
  dis : b.list.Pairwise fun x y => x = y → x = none
  own : ∀ i, some i ∈ b.list → O i
  lim : t.Lim M
  cnt : b.nv ≤ 100000 + M ∧ b.nh ≤ 100000 + M ∧ b.ns ≤ 100000 + M
/-- blocks that stand apart are written, new ones are laid: these stand apart, too -/
theorem HumSt.apartMore {H : Type} {w w' : World} {A A' : Nat → Prop} {p b N : Nat} {t : Int} {f : Hm.St} {row : Option Nat} (h : HumSt H w A p b N t f) (hg : w.grownBy w' row) (hr : ∀ k, row = some k → A k) (hA : ∀ i, A' i → A i ∨ (w.heap.size ≤ i ∧ i < w'.heap.size)) : HumSt H w' A' p b N t f := by
  obtain ⟨⟨F, h1, h2, h3⟩, h4, h5, h6⟩ := h
  refine ⟨⟨F, h1.kept hg (fun e => h4 (hr _ e.symm)) (fun e => h5 (hr _ e.symm)) (fun x g r hF e => h3 x g r hF (hr _ e.symm)), h2, fun x g r hF hg' => ?_⟩, fun hp => ?_, fun hp => ?_, fun i hi => ?_⟩
  · rcases hA g hg' with h | h
    · exact h3 x g r hF h
    · have := (h1.at_ x g r hF).lt; omega
  · rcases hA p hp with h | h
    · exact h4 h
    · have := h1.hd.lt; omega
  · rcases hA b hp with h | h
    · exact h5 h
    · have := h1.blt; omega
  · rcases hA i hi with h | h
    · exact Nat.lt_of_lt_of_le (h6 i h) hg.size
    · exact h.2
section
variable {H : Type} {w w' : World} {O : Nat → Prop} {M : Nat} {b : Blk} {t : Sct}
theorem mem_list {b : Blk} {i : Nat} : some i ∈ b.list ↔ i = b.s ∨ i = b.pv ∨ i = b.bv ∨ i = b.bs ∨ blkOf b.hA = some i ∨ blkOf b.lA = some i ∨ blkOf b.rA = some i := by
  unfold Blk.list
  simp only [List.mem_cons, List.not_mem_nil, or_false, Option.some.injEq]
  constructor
  · rintro (h | h | h | h | h | h | h)
    · exact .inl h
    · exact .inr (.inl h)
    · exact .inr (.inr (.inl h))
    · exact .inr (.inr (.inr (.inl h)))
    · exact .inr (.inr (.inr (.inr (.inl h.symm))))
    · exact .inr (.inr (.inr (.inr (.inr (.inl h.symm)))))
    · exact .inr (.inr (.inr (.inr (.inr (.inr h.symm)))))
  · rintro (h | h | h | h | h | h | h)
    · exact .inl h
    · exact .inr (.inl h)
    · exact .inr (.inr (.inl h))
    · exact .inr (.inr (.inr (.inl h)))
    · exact .inr (.inr (.inr (.inr (.inl h.symm))))
    · exact .inr (.inr (.inr (.inr (.inr (.inl h.symm)))))
    · exact .inr (.inr (.inr (.inr (.inr (.inr h.symm)))))
theorem blk_some {A : Option Addr} {g off : Nat} (h : A = some ⟨g, off, none⟩) : blkOf A = some g := by rw [h]; rfl
theorem ScAt.lt (h : ScAt H w O M b t) {i : Nat} (hi : some i ∈ b.list) : i < w.heap.size := by
  obtain ⟨A, h1, h2, _⟩ := h.hum
  exact h1.lt i (h2 i hi)
theorem ScAt.below (h : ScAt H w O M b t) (hb : Below w.heap.size w w') : ScAt H w' O M b t := by
  have hl := fun i hi => h.lt (i := i) hi
  obtain ⟨A, h1, h2, h3⟩ := h.hum
  refine ⟨h.hd.below hb h.hd.lt, view_below h.view hb, ⟨fun i => A i ∨ (w.heap.size ≤ i ∧ i < w'.heap.size), h1.more hb fun i hi => hi, fun i hi => .inl (h2 i hi), fun i hi ho => ?_⟩, h.since.kept (row := none) ⟨hb.os, hb.tape, hb.output, hb.size, fun i hi _ => hb.block i hi⟩ (by simp), h.line.keep fun g off e => hb.block g (h.line.lt e), h.help.keep fun g off e => hb.block g (h.help.lt e), h.rel.keep fun g off e => hb.block g (h.rel.lt e), h.dis, h.own, h.lim, h.cnt⟩
  by_cases hlt : i < w.heap.size
  · exact .inl (h3 i hlt ho)
  · exact .inr ⟨by omega, hi⟩
/-- a field of its own is written -/
theorem ScAt.head {t' : Sct} {M' : Nat} (h : ScAt H w O M b t) (hg : w.grownBy w' (some b.s)) (ha : At w' b.s 79 (scC b t'))
    (e : t'.v = t.v ∧ t'.f = t.f ∧ t'.since = t.since ∧ t'.line = t.line ∧ t'.help = t.help ∧ t'.rel = t.rel) (hlim : t'.Lim M') (hM : M ≤ M') : ScAt H w' O M' b t' := by
  obtain ⟨e1, e2, e3, e4, e5, e6⟩ := e
  have hd := h.dis
  unfold Blk.list at hd
  simp only [List.pairwise_cons, List.mem_cons, List.not_mem_nil, or_false, forall_eq_or_imp, forall_eq, Option.some.injEq] at hd
  obtain ⟨⟨d1, d2, d3, d4, d5, d6⟩, _⟩ := hd
  obtain ⟨A, h1, h2, h3⟩ := h.hum
  refine ⟨ha, ?_, ⟨fun i => A i ∨ (w.heap.size ≤ i ∧ i < w'.heap.size), ?_, fun i hi => .inl (h2 i hi), fun i hi ho => ?_⟩, ?_, ?_, ?_, ?_, h.dis, h.own, hlim, by have := h.cnt; omega⟩
  · rw [e1]
    exact view_grown h.view hg (fun e => by have := d1 (Option.some.inj e).symm; cases this) (fun e => by have := d2 (Option.some.inj e).symm; cases this)
  · rw [e2]
    exact h1.apartMore hg (fun k hk => by cases hk; exact h2 _ (mem_list.2 (.inl rfl))) fun i hi => hi
  · by_cases hlt : i < w.heap.size
    · exact .inl (h3 i hlt ho)
    · exact .inr ⟨by omega, hi⟩
  · rw [e3]
    exact h.since.kept hg (fun e => by have := d3 (Option.some.inj e).symm; cases this)
  · rw [e4]
    exact h.line.keep fun g off e => hg.block g (h.line.lt e) (fun e2 => by have := d5 (by rw [blk_some e, e2]); cases this)
  · rw [e5]
    exact h.help.keep fun g off e => hg.block g (h.help.lt e) (fun e2 => by have := d4 (by rw [blk_some e, e2]); cases this)
  · rw [e6]
    exact h.rel.keep fun g off e => hg.block g (h.rel.lt e) (fun e2 => by have := d6 (by rw [blk_some e, e2]); cases this)
end
end Go.Proofs.Ytghefmppjdneoaa

namespace Go.Proofs.Ytghefmppjdneoaa
open Go.RowKit Go.Maps

section
variable {H : Type} {w : World} {O : Nat → Prop} {M : Nat} {b : Blk} {t : Sct}
theorem ScAt.cell (h : ScAt H w O M b t) {i : Nat} {v : Value} (hv : (scC b t)[i]? = some v) : w.cell? ⟨b.s, i, none⟩ = some v := h.hd.cell' hv
theorem waits_any (h : ScAt H w O M b t) : Calls Try.prog 26 #[.pointer (some ⟨b.s, 0, none⟩)] w fun e w' => e = .returned (.bool t.waits) ∧ w' = w := by
  have c2 := h.cell (i := 2) (v := .int .i64 t.tgt) rfl
  have c4 := h.cell (i := 4) (v := .bool t.got) rfl
  obtain ⟨x, hx⟩ : ∃ x, x = t.tgt := ⟨_, rfl⟩
  obtain ⟨g, hg⟩ : ∃ g, g = t.got := ⟨_, rfl⟩
  obtain ⟨s, hs⟩ : ∃ s, s = b.s := ⟨_, rfl⟩
  have e : t.waits = (decide (0 < x) && !g) := by rw [hx, hg]; rfl
  rw [e]
  rw [← hx, ← hs] at c2
  rw [← hg, ← hs] at c4
  rw [← hs]
  clear h hx hg hs e
  by_cases hp : 0 < x
  · cases g
    · go_enter Try.func26, Try.ntmps26
      go_wp2_with fail
      go_ret
      exact ⟨by simp [hp], rfl⟩
    · go_enter Try.func26, Try.ntmps26
      go_wp2_with fail
      go_ret
      exact ⟨by simp, rfl⟩
  · go_enter Try.func26, Try.ntmps26
    go_wp2_with fail
    go_ret
    exact ⟨by simp; intro h; omega, rfl⟩
theorem isnode_any (h : ScAt H w O M b t) (n : Int) : Calls Try.prog 31 #[.pointer (some ⟨b.s, 0, none⟩), .int .i64 n] w fun e w' => e = .returned (.bool (t.isNode n)) ∧ w' = w := by
  have c6 := h.cell (i := 6) (v := .int .i64 t.me) rfl
  have c7 := h.cell (i := 7) (v := .int .i64 t.nodes) rfl
  obtain ⟨x, hx⟩ : ∃ x, x = t.me := ⟨_, rfl⟩
  obtain ⟨g, hg⟩ : ∃ g, g = t.nodes := ⟨_, rfl⟩
  obtain ⟨s, hs⟩ : ∃ s, s = b.s := ⟨_, rfl⟩
  have e : t.isNode n = (decide (1 ≤ n) && decide (n ≤ g) && !decide (n = x)) := by rw [hx, hg]; rfl
  rw [e]
  rw [← hx, ← hs] at c6
  rw [← hg, ← hs] at c7
  rw [← hs]
  clear h hx hg hs e
  by_cases h1 : 1 ≤ n
  · by_cases h2 : n ≤ g
    · by_cases h3 : n = x
      · subst h3
        go_enter Try.func31, Try.ntmps31
        go_wp2_with fail
        go_ret
        exact ⟨by simp, rfl⟩
      · go_enter Try.func31, Try.ntmps31
        go_wp2_with fail
        go_ret
        exact ⟨by simp [h1, h2, h3], rfl⟩
    · go_enter Try.func31, Try.ntmps31
      go_wp2_with fail
      go_ret
      exact ⟨by simp; intro h; omega, rfl⟩
  · go_enter Try.func31, Try.ntmps31
    go_wp2_with fail
    go_ret
    exact ⟨by simp; intro h; omega, rfl⟩
theorem found_cases (f : Known) (n : Int) : ∃ (m : Mem) (is : Bool), found f n = .tuple #[memV m, .bool is] ∧ m = (f n).getD Mem.zero ∧ is = (f n).isSome := by
  unfold found
  cases f n with
  | none => exact ⟨Mem.zero, false, rfl, rfl, rfl⟩
  | some m => exact ⟨m, true, rfl, rfl, rfl⟩
theorem state_any (h : ScAt H w O M b t) (n : Int) (h1 : -9223372036854775808 ≤ n) (h2 : n ≤ 9223372036854775807) : Calls Try.prog 28 #[.pointer (some ⟨b.s, 0, none⟩), .int .i64 n] w fun e w' => e = .returned (.int .i64 (t.stateOf n)) ∧ Below w.heap.size w w' := by
  have c0 := h.cell (i := 0) (v := ptrV b.pv) rfl
  obtain ⟨s, hs⟩ : ∃ s, s = b.s := ⟨_, rfl⟩
  obtain ⟨pv, hpv⟩ : ∃ pv, pv = b.pv := ⟨_, rfl⟩
  have HG := Lib.hid (get_any h.view n h1 h2)
  obtain ⟨m, is, hf, hm, his⟩ := found_cases t.v n
  have hr : t.stateOf n = if is = true then m.s else 3 := by
    unfold Sct.stateOf
    rw [hm, his]
    cases t.v n <;> rfl
  rw [hf, ← hpv] at HG
  rw [hr, ← hs]
  rw [← hs, ← hpv] at c0
  unfold ptrV at c0
  unfold memV at HG
  clear h hs hpv hf hm his hr
  go_enter Try.func28, Try.ntmps28
  go_wp2_with fail
  refine HG.out.mono ?_
  rintro e w1 ⟨rfl, hb1⟩
  have HB := Lib.hid hb1
  clear hb1 HG c0
  cases is
  · go_wp2_with fail
    go_ret
    exact ⟨by simp, HB.out.alloc HB.out.size _⟩
  · go_wp2_with fail
    go_ret
    exact ⟨by simp, HB.out.alloc HB.out.size _⟩
/-- the next number -/
theorem number_any (h : ScAt H w O M b t) (hM : M < 1000000) : Calls Try.prog 24 #[.pointer (some ⟨b.s, 0, none⟩)] w fun e w' => e = .returned (.int .i64 (t.last + 1)) ∧ ScAt H w' O (M + 1) b { t with last := t.last + 1 } ∧ w.grownBy w' (some b.s) := by
  have c9 := h.cell (i := 9) (v := .int .i64 t.last) rfl
  have f9 := h.hd.frozen 9
  obtain ⟨x, hx⟩ : ∃ x, x = t.last := ⟨_, rfl⟩
  obtain ⟨s, hs⟩ : ∃ s, s = b.s := ⟨_, rfl⟩
  have hl := h.lim.last
  have hg : w.grownBy (w.setCell ⟨b.s, 9, none⟩ (.int .i64 (t.last + 1))) (some b.s) := grown_setCell (World.grownBy.refl _ _) (.inl rfl) _
  have hA := h.hd.set 9 (.int .i64 (t.last + 1))
  have hS : ScAt H (w.setCell ⟨b.s, 9, none⟩ (.int .i64 (t.last + 1))) O (M + 1) b { t with last := t.last + 1 } := h.head hg hA ⟨rfl, rfl, rfl, rfl, rfl, rfl⟩ ⟨h.lim.me, ⟨h.lim.ticks.1, by have := h.lim.ticks.2; simp only; omega⟩, ⟨by simp only; omega, by simp only; omega⟩, ⟨h.lim.seq.1, by have := h.lim.seq.2; simp only; omega⟩, h.lim.tgt, h.lim.help, h.lim.line, h.lim.rel, fun n k hk => by have := h.lim.since n k hk; omega⟩ (Nat.le_succ _)
  have HS := Lib.hid hS
  have HG := Lib.hid hg
  rw [← hx, ← hs] at c9
  rw [← hs] at f9
  rw [← hx, ← hs] at HS HG
  rw [← hx] at hl
  rw [← hs, ← hx]
  clear h hA hS hg hx hs
  go_enter Try.func24, Try.ntmps24
  go_wp2_with fail
  go_ret
  exact ⟨rfl, HS.out, HG.out⟩
end
end Go.Proofs.Ytghefmppjdneoaa

namespace Go.Proofs.Ytghefmppjdneoaa
open Go.RowKit

/-- the order is one in which quiet operations may be taken first, the others come up alone; the operation A, apart from all of them, may come up at any time; behind all of them it comes up alone -/
def mixAB (md : Region.Mode) (ops : Array Oper) (A : Nat) (oA : Oper) : List (Nat × Bool) → Array Bool → Bool
  | [], L => Region.ready md ops L == [A]
  | (i, true) :: r, L => (match ops[i]? with | some o => oA.apart ops o | none => false) && i != A && Region.free md ops L i && (Region.ready md ops L).contains i && Region.free md ops (L.setIfInBounds A true) i && (Region.ready md ops (L.setIfInBounds A true)).contains i && mixAB md ops A oA r (L.setIfInBounds i true)
  | (i, false) :: r, L => (match ops[i]? with | some o => oA.apart ops o | none => false) && i != A && (Region.ready md ops L).all (fun j => j == i || j == A) && (Region.ready md ops L).contains i && (Region.ready md ops (L.setIfInBounds A true) == [i]) && mixAB md ops A oA r (L.setIfInBounds i true)
def listAll : List (Nat × Bool) → Array Bool → Array Bool
  | [], L => L
  | (i, _) :: r, L => listAll r (L.setIfInBounds i true)
section
variable {P : Program} {ops : Array Oper} {Q : Exit → Act → World → Prop} {S : World → Prop}
/-- what an operation that isn't quiet yields, where it ends -/
def Eff (P : Program) (a : Act) (o : Oper) (w : World) (R : Value → World → Prop) : Prop :=
  (∃ v w', (execOp a.eval o).run P w = .ok (.value v) w' ∧ R v w') ∨ ∃ f args, (execOp a.eval o).run P w = .ok (.enter f args) w ∧ Calls P f args w fun e w' => ∃ v, e = .returned v ∧ R v w'
theorem Eff.wpOp {i : Nat} {o : Oper} {a : Act} {w : World} {R : Value → World → Prop} {K : Act → World → Prop} (ho : ops[i]? = some o) (hw : Region.wanted o (yielded ops a.tmps) = true) (h : Eff P a o w R) (hK : ∀ v w', R v w' → K (a.put o.dst v) w') : Go.wpOp P ops Q i K a w := by
  refine wpOp_step ho fun K' hKK => ?_
  rw [if_pos hw]
  unfold Oper.wp
  rcases h with ⟨v, w', hr, hR⟩ | ⟨f, args, hr, hc⟩
  · rw [hr]
    exact hKK _ _ (hK v w' hR)
  · rw [hr]
    exact hc.mono fun e w' ⟨v, he, hR⟩ => by
      subst he
      exact hKK _ _ (hK v w' hR)
/-- the variable that is made at any time: at its block, as it was made -/
def Made (g0 : Nat) (t : TypeId) (Z : List Value) (u : Value) (w : World) : Prop := ∃ g, u = .pointer (some ⟨g, 0, none⟩) ∧ g0 ≤ g ∧ At w g t Z
theorem Made.below {g0 : Nat} {t : TypeId} {Z : List Value} {u : Value} {w w' : World} (h : Made g0 t Z u w) (hb : Below w.heap.size w w') : Made g0 t Z u w' := by
  obtain ⟨g, h1, h2, h3⟩ := h
  exact ⟨g, h1, h2, h3.below hb h3.lt⟩
def wpMixU (P : Program) (ops : Array Oper) (S : World → Prop) (E : (World → Prop) → Act → Prop) : List (Nat × Bool) → (World → Prop) → Act → Prop
  | [], F, a => E F a
  | (i, true) :: r, F, a => ∃ o v, ops[i]? = some o ∧ YieldsIf P ops S o v a ∧ wpMixU P ops S E r F (a.put o.dst v)
  | (i, false) :: r, F, a => ∃ o, ∃ R : Value → World → Prop, ops[i]? = some o ∧ Region.wanted o (yielded ops a.tmps) = true ∧ (∀ v w w', R v w → Below w.heap.size w w' → R v w') ∧
      (∀ w, S w → F w → Eff P a o w fun v w' => Below w.heap.size w w' ∧ R v w') ∧ ∀ v, (∃ w, R v w) → wpMixU P ops S E r (fun w => F w ∧ R v w) (a.put o.dst v)
variable {g0 : Nat} {t : TypeId} {Z : List Value} {A : Nat} {oA : Oper} {md : Region.Mode} {ord2 : List (Nat × Bool)}
def MixE (P : Program) (ops : Array Oper) (S : World → Prop) (Q : Exit → Act → World → Prop) (g0 : Nat) (t : TypeId) (Z : List Value) (dA : Option Tmp) (ord2 : List (Nat × Bool)) (F : World → Prop) (a : Act) : Prop :=
  ∀ u w, S w → F w → Made g0 t Z u w → wpMix P ops S Q ord2 (a.put dA u) w
theorem mix_done (hs : Region.noSelect ops = true) (hQ : ∀ c a d v w, Q (.panic c) (Act.put a d v) w → Q (.panic c) a w) (hA : ops[A]? = some oA) (hUp : ∀ w w', S w → Below w.heap.size w w' → S w') (u : Value) : ∀ (ord : List (Nat × Bool)) (fuel : Nat) (L : Array Bool) (F : World → Prop) (a : Act) (w : World),
    mixAB md ops A oA ord L = true → mixB md ops ord2 ((listAll ord L).setIfInBounds A true) = true → ord.length + ord2.length ≤ fuel → (∀ w w', F w → Below w.heap.size w w' → F w') → S w → F w → Made g0 t Z u w →
    wpMixU P ops S (MixE P ops S Q g0 t Z oA.dst ord2) ord F a → wpAnyH P md ops Q S fuel (L.setIfInBounds A true) (a.put oA.dst u) w
  | [], fuel, L, F, a, w, _, hm2, hf, _, hS, hF, hM, h => wpAnyH_of_mix hs hQ ord2 fuel _ _ _ hm2 (by simpa using hf) hS (h u w hS hF hM)
  | (i, true) :: r, 0, L, F, a, w, _, _, hf, _, _, _, _, _ => absurd hf (by simp)
  | (i, false) :: r, 0, L, F, a, w, _, _, hf, _, _, _, _, _ => absurd hf (by simp)
  | (i, true) :: r, fuel + 1, L, F, a, w, hm, hm2, hf, hFu, hS, hF, hM, h => by
    obtain ⟨o, v, ho, hy, hr⟩ := h
    simp only [mixAB, ho, Bool.and_eq_true, bne_iff_ne] at hm
    obtain ⟨⟨⟨⟨⟨⟨hap, hne⟩, h1⟩, h2⟩, h3⟩, h4⟩, h5⟩ := hm
    obtain ⟨p1, p2, p3⟩ := Oper.apart_spec hap
    have hsel := Region.noSelect_spec hs i o
    refine wpAnyH_take ho hs h3 h4 (fun c a w h => hQ c a _ _ w h) (hy.of_same (execOp_put o (fun cs b => hsel cs b ho) a oA.dst u p1) (wanted_put o a oA.dst u p1)) hS ?_
    rw [Array.setIfInBounds_comm _ _ (Ne.symm hne), Act.put_comm a u v p2]
    exact mix_done hs hQ hA hUp u r fuel (L.setIfInBounds i true) F _ w h5 hm2 (by simp at hf; omega) hFu hS hF hM hr
  | (i, false) :: r, fuel + 1, L, F, a, w, hm, hm2, hf, hFu, hS, hF, hM, h => by
    obtain ⟨o, R, ho, hw, hRu, he, hr⟩ := h
    simp only [mixAB, ho, Bool.and_eq_true, bne_iff_ne, beq_iff_eq] at hm
    obtain ⟨⟨⟨⟨⟨hap, hne⟩, h1⟩, h2⟩, h3⟩, h5⟩ := hm
    obtain ⟨p1, p2, p3⟩ := Oper.apart_spec hap
    have hsel := Region.noSelect_spec hs i o
    refine wpAnyH_all (rs := [i]) h3 (by simp) (fun j hj => ?_)
    obtain rfl := List.mem_singleton.1 hj
    have hE : Eff P (a.put oA.dst u) o w fun v w' => Below w.heap.size w w' ∧ R v w' := by
      have := he w hS hF
      unfold Eff at this ⊢
      rw [execOp_put o (fun cs b => hsel cs b ho) a oA.dst u p1]
      exact this
    refine hE.wpOp ho (by rw [wanted_put o a oA.dst u p1]; exact hw) (fun v w' ⟨hb, hR⟩ => ⟨hUp _ _ hS hb, ?_⟩)
    rw [Array.setIfInBounds_comm _ _ (Ne.symm hne), Act.put_comm a u v p2]
    exact mix_done hs hQ hA hUp u r fuel (L.setIfInBounds j true) _ _ w' h5 hm2 (by simp at hf; omega) (fun w w' hx hb => ⟨hFu _ _ hx.1 hb, hRu _ _ _ hx.2 hb⟩) (hUp _ _ hS hb) ⟨hFu _ _ hF hb, hR⟩ (hM.below hb) (hr v ⟨w', hR⟩)
theorem mix_pending (hs : Region.noSelect ops = true) (hQ : ∀ c a d v w, Q (.panic c) (Act.put a d v) w → Q (.panic c) a w) (hA : ops[A]? = some oA) (hUp : ∀ w w', S w → Below w.heap.size w w' → S w') (hwA : ∀ T, Region.wanted oA (yielded ops T) = true)
    (hrA : ∀ a w, (execOp (Act.eval a) oA).run P w = .ok (.value (.pointer (some ⟨w.heap.size, 0, none⟩))) (w.alloc (.cells Z.toArray t))) (hg0 : ∀ w, S w → g0 ≤ w.heap.size) : ∀ (ord : List (Nat × Bool)) (fuel : Nat) (L : Array Bool) (F : World → Prop) (a : Act) (w : World),
    mixAB md ops A oA ord L = true → mixB md ops ord2 ((listAll ord L).setIfInBounds A true) = true → ord.length + ord2.length + 1 ≤ fuel → (∀ w w', F w → Below w.heap.size w w' → F w') → S w → F w →
    wpMixU P ops S (MixE P ops S Q g0 t Z oA.dst ord2) ord F a → wpAnyH P md ops Q S fuel L a w
  | [], 0, L, F, a, w, _, _, hf, _, _, _, _ => absurd hf (by simp)
  | (i, true) :: r, 0, L, F, a, w, _, _, hf, _, _, _, _ => absurd hf (by simp)
  | (i, false) :: r, 0, L, F, a, w, _, _, hf, _, _, _, _ => absurd hf (by simp)
  | [], fuel + 1, L, F, a, w, hm, hm2, hf, hFu, hS, hF, h => by
    have hm1 := hm
    simp only [mixAB, beq_iff_eq] at hm
    refine wpAnyH_all (rs := [A]) hm (by simp) (fun j hj => ?_)
    obtain rfl := List.mem_singleton.1 hj
    have hb : Below w.heap.size w (w.alloc (.cells Z.toArray t)) := (Below.refl _ _).alloc (Nat.le_refl _) _
    refine Eff.wpOp (R := fun v w' => v = .pointer (some ⟨w.heap.size, 0, none⟩) ∧ w' = w.alloc (.cells Z.toArray t)) hA (hwA _) (.inl ⟨_, _, hrA a w, rfl, rfl⟩) ?_
    rintro v w' ⟨rfl, rfl⟩
    exact ⟨hUp _ _ hS hb, mix_done hs hQ hA hUp _ [] fuel L F a _ hm1 hm2 (by simp at hf ⊢; omega) hFu (hUp _ _ hS hb) (hFu _ _ hF hb) ⟨_, rfl, hg0 w hS, At.newA w t rfl⟩ h⟩
  | (i, true) :: r, fuel + 1, L, F, a, w, hm, hm2, hf, hFu, hS, hF, h => by
    obtain ⟨o, v, ho, hy, hr⟩ := h
    simp only [mixAB, ho, Bool.and_eq_true, bne_iff_ne] at hm
    obtain ⟨⟨⟨⟨⟨⟨hap, hne⟩, h1⟩, h2⟩, h3⟩, h4⟩, h5⟩ := hm
    exact wpAnyH_take ho hs h1 h2 (fun c a w h => hQ c a _ _ w h) hy hS (mix_pending hs hQ hA hUp hwA hrA hg0 r fuel (L.setIfInBounds i true) F _ w h5 hm2 (by simp at hf; omega) hFu hS hF hr)
  | (i, false) :: r, fuel + 1, L, F, a, w, hm, hm2, hf, hFu, hS, hF, h => by
    have h' := h
    have hm1 := hm
    obtain ⟨o, R, ho, hw, hRu, he, hr⟩ := h
    simp only [mixAB, ho, Bool.and_eq_true, bne_iff_ne, beq_iff_eq] at hm
    obtain ⟨⟨⟨⟨⟨hap, hne⟩, h1⟩, h2⟩, h3⟩, h5⟩ := hm
    refine wpAnyH_all rfl (fun e => by rw [e] at h2; simp at h2) (fun j hj => ?_)
    have hj' := List.all_eq_true.1 h1 j hj
    simp only [Bool.or_eq_true, beq_iff_eq] at hj'
    by_cases hji : j = i
    · subst hji
      refine (he w hS hF).wpOp ho hw (fun v w' ⟨hb, hR⟩ => ⟨hUp _ _ hS hb, ?_⟩)
      exact mix_pending hs hQ hA hUp hwA hrA hg0 r fuel (L.setIfInBounds j true) _ _ w' h5 hm2 (by simp at hf; omega) (fun w w' hx hb => ⟨hFu _ _ hx.1 hb, hRu _ _ _ hx.2 hb⟩) (hUp _ _ hS hb) ⟨hFu _ _ hF hb, hR⟩ (hr v ⟨w', hR⟩)
    · obtain rfl : j = A := by rcases hj' with h | h; exact absurd h hji; exact h
      have hb : Below w.heap.size w (w.alloc (.cells Z.toArray t)) := (Below.refl _ _).alloc (Nat.le_refl _) _
      refine Eff.wpOp (R := fun v w' => v = .pointer (some ⟨w.heap.size, 0, none⟩) ∧ w' = w.alloc (.cells Z.toArray t)) hA (hwA _) (.inl ⟨_, _, hrA a w, rfl, rfl⟩) ?_
      rintro v w' ⟨rfl, rfl⟩
      exact ⟨hUp _ _ hS hb, mix_done hs hQ hA hUp _ ((i, false) :: r) fuel L F a _ hm1 hm2 (by simp at hf ⊢; omega) hFu (hUp _ _ hS hb) (hFu _ _ hF hb) ⟨_, rfl, hg0 w hS, At.newA w t rfl⟩ h'⟩
theorem wp_region_mixA {id : Nat} {a : Act} {w : World} (A : Nat) (oA : Oper) (ord ord2 : List (Nat × Bool)) (S : World → Prop) (g0 : Nat) (t : TypeId) (Z : List Value) (hA : ops.toList[A]? = some oA) (hwA : ∀ T, Region.wanted oA (yielded ops T) = true)
    (hrA : ∀ a w, (execOp (Act.eval a) oA).run P w = .ok (.value (.pointer (some ⟨w.heap.size, 0, none⟩))) (w.alloc (.cells Z.toArray t))) (hUp : ∀ w w', S w → Below w.heap.size w w' → S w') (hg0 : ∀ w, S w → g0 ≤ w.heap.size)
    (hm : P.follows .mixedOrders = true) (hs : Region.noSelect ops = true) (hQ : ∀ c a d v w, Q (.panic c) (Act.put a d v) w → Q (.panic c) a w)
    (ho : mixAB .any ops A oA ord (Array.replicate ops.size false) = true) (ho2 : mixB .any ops ord2 ((listAll ord (Array.replicate ops.size false)).setIfInBounds A true) = true) (hl : ord.length + ord2.length + 1 ≤ ops.size) (hS : S w.drew)
    (h : wpMixU P ops S (MixE P ops S Q g0 t Z oA.dst ord2) ord (fun _ => True) a) : (Code.region id ops true).wp P Q a w :=
  wp_region_held_drew (S := S) hm hS (fun _ => mix_pending hs hQ (nth hA) hUp hwA hrA hg0 ord _ _ (fun _ => True) _ _ ho ho2 hl (fun _ _ _ _ => trivial) hS trivial h)
variable {i : Nat} {r : List (Nat × Bool)} {a : Act} {w : World} {o : Oper} {E : (World → Prop) → Act → Prop} {F : World → Prop}
theorem wpMixU_val (v : Value) (ho : ops.toList[i]? = some o) (hw : Region.wanted o (yielded ops a.tmps) = true) (hv : ∀ w, S w → (execOp a.eval o).run P w = .ok (.value v) w) (h : wpMixU P ops S E r F (a.put o.dst v)) : wpMixU P ops S E ((i, true) :: r) F a :=
  ⟨o, v, nth ho, .inl ⟨hw, hv⟩, h⟩
theorem wpMixU_loadAll (ho : ops.toList[i]? = some o) (hw : Region.wanted o (yielded ops a.tmps) = true) (ty : TypeId) (x : Operand) (hop : o.op = .load ty x) (b off : Nat) (hx : a.eval x = .pointer (some ⟨b, off, none⟩)) (cs : List Value) (d : TypeDesc)
    (hS : ∀ w, S w → w.rangeAt b off cs) (hu : P.underlying ty = some d) (hd : d.isRow = true) (hi : (P.info? ty).map (·.size) = some cs.length)
    (h : wpMixU P ops S E r F (a.put o.dst (.agg cs.toArray))) : wpMixU P ops S E ((i, true) :: r) F a :=
  ⟨o, _, nth ho, yieldsIf_load_mid hw ty x hop b off hx cs d hS hu hd hi, h⟩
/-- an operation that yields a value of a kind that depends on the world -/
theorem wpMixU_put (R : Value → World → Prop) (ho : ops.toList[i]? = some o) (hw : Region.wanted o (yielded ops a.tmps) = true) (hR : ∀ v w w', R v w → Below w.heap.size w w' → R v w')
    (hv : ∀ w, S w → F w → ∃ v w', (execOp a.eval o).run P w = .ok (.value v) w' ∧ Below w.heap.size w w' ∧ R v w') (h : ∀ v, (∃ w, R v w) → wpMixU P ops S E r (fun w => F w ∧ R v w) (a.put o.dst v)) : wpMixU P ops S E ((i, false) :: r) F a :=
  ⟨o, R, nth ho, hw, hR, fun w hS hF => by obtain ⟨v, w', h1, h2⟩ := hv w hS hF; exact .inl ⟨v, w', h1, h2⟩, h⟩
/-- a call that answers one value in every world of the class -/
theorem wpMixU_call (f : FuncId) (args : List Value) (v : Value) (ho : ops.toList[i]? = some o) (hw : Region.wanted o (yielded ops a.tmps) = true) (hv : ∀ w, (execOp a.eval o).run P w = .ok (.enter f args.toArray) w)
    (hc : ∀ w, S w → F w → Calls P f args.toArray w fun e w' => e = .returned v ∧ Below w.heap.size w w') (h : wpMixU P ops S E r (fun w => F w ∧ v = v) (a.put o.dst v)) : wpMixU P ops S E ((i, false) :: r) F a :=
  ⟨o, fun x _ => x = v, nth ho, hw, fun _ _ _ h _ => h, fun w hS hF => .inr ⟨f, args.toArray, hv w, (hc w hS hF).mono fun e w' ⟨h1, h2⟩ => ⟨v, h1, h2, rfl⟩⟩, fun x ⟨_, hx⟩ => by rw [hx]; exact h⟩
end
end Go.Proofs.Ytghefmppjdneoaa

namespace Go.Proofs.Ytghefmppjdneoaa
open Go.RowKit Go.Maps

section
variable {P : Program} {ops : Array Oper} {S : World → Prop} {E : (World → Prop) → Act → Prop} {F : World → Prop} {i : Nat} {a : Act} {o : Oper}
theorem wpMixU_q {r : List (Nat × Bool)} (ho : ops.toList[i]? = some o) (hp : plainOp o = true) (h : wpQuiet P ops S (fun a' => wpMixU P ops S E r F a') [o] a) : wpMixU P ops S E ((i, true) :: r) F a := by
  obtain ⟨v, hy, hK⟩ := yieldsIf_of_quiet hp h
  exact ⟨o, v, nth ho, hy, hK⟩
theorem wpMixU_qnil {r : List (Nat × Bool)} (h : wpMixU P ops S E r F a) : wpQuiet P ops S (fun a' => wpMixU P ops S E r F a') [] a := h
end
theorem made_grown16 {w w' : World} {w0 : World} {g : Nat} (hb : Behind w0 w) (hg : w0.heap.size ≤ g) (h : w.grownBy w' (some g)) : Behind w0 w' := Below.ofGrown hb h hb.size hg
theorem behind_up16 {w0 w w' : World} (h : Behind w0 w) (hb : Below w.heap.size w w') : Behind w0 w' := Below.trans h (hb.mono h.size)
theorem wpMix_storeAll16 {P : Program} {ops : Array Oper} {Q : Exit → Act → World → Prop} {S : World → Prop} {i : Nat} {a : Act} {w : World} {o : Oper} {r : List (Nat × Bool)} (ho : ops.toList[i]? = some o) (hw : Region.wanted o (yielded ops a.tmps) = true) (ty : TypeId) (x y : Operand) (hop : o.op = .store ty x y) (g : Nat) (hx : a.eval x = .pointer (some ⟨g, 0, none⟩)) (t : TypeId) (cs new : List Value)
    (hg : At w g t cs) (hy : a.eval y = .agg new.toArray) (hl : new.length = cs.length) (hi : (P.info? ty).map (·.size) = some new.length) (h1 : ∀ v ∈ new, v.oneCell' = true)
    (hSs : ∀ w', w.grownBy w' (some g) → S w') (h : ∀ w', At w' g t new → w.grownBy w' (some g) → S w' → wpMix P ops S Q r (a.put o.dst undef) w') : wpMix P ops S Q ((i, false) :: r) a w :=
  wpMix_step ho hw fun K hK => by
    have hgr : w.grownBy (w.setCells g 0 new) (some g) := grown_setCells g new 0 w w (World.grownBy.refl _ _)
    have hat : At (w.setCells g 0 new) g t new := hg.setAll hl
    refine wp_store_mid ty x y hop g 0 new.toArray hx hy (hg.there 0 _ (by simp; omega)) (by simpa using hi) (all_oneCell_toArray h1) ?_
    exact hK _ _ (hSs _ hgr) (h _ hat hgr (hSs _ hgr))

theorem exec_s0 {a : Act} {o : Oper} (x : Operand) (ho : o.op = .fieldAddr 79 x 0) (g : Nat) (hx : a.eval x = .pointer (some ⟨g, 0, none⟩)) (w : World) : (execOp a.eval o).run Try.prog w = .ok (.value (.pointer (some ⟨g, 0, none⟩))) w := by
  unfold execOp
  simp only [ho, hx]
  go_simp
theorem exec_s1 {a : Act} {o : Oper} (x : Operand) (ho : o.op = .fieldAddr 79 x 1) (g : Nat) (hx : a.eval x = .pointer (some ⟨g, 0, none⟩)) (w : World) : (execOp a.eval o).run Try.prog w = .ok (.value (.pointer (some ⟨g, 2, none⟩))) w := by
  unfold execOp
  simp only [ho, hx]
  go_simp
theorem exec_s2 {a : Act} {o : Oper} (x : Operand) (ho : o.op = .fieldAddr 79 x 2) (g : Nat) (hx : a.eval x = .pointer (some ⟨g, 0, none⟩)) (w : World) : (execOp a.eval o).run Try.prog w = .ok (.value (.pointer (some ⟨g, 6, none⟩))) w := by
  unfold execOp
  simp only [ho, hx]
  go_simp
theorem exec_s3 {a : Act} {o : Oper} (x : Operand) (ho : o.op = .fieldAddr 79 x 3) (g : Nat) (hx : a.eval x = .pointer (some ⟨g, 0, none⟩)) (w : World) : (execOp a.eval o).run Try.prog w = .ok (.value (.pointer (some ⟨g, 7, none⟩))) w := by
  unfold execOp
  simp only [ho, hx]
  go_simp
theorem exec_s4 {a : Act} {o : Oper} (x : Operand) (ho : o.op = .fieldAddr 79 x 4) (g : Nat) (hx : a.eval x = .pointer (some ⟨g, 0, none⟩)) (w : World) : (execOp a.eval o).run Try.prog w = .ok (.value (.pointer (some ⟨g, 8, none⟩))) w := by
  unfold execOp
  simp only [ho, hx]
  go_simp
theorem exec_s5 {a : Act} {o : Oper} (x : Operand) (ho : o.op = .fieldAddr 79 x 5) (g : Nat) (hx : a.eval x = .pointer (some ⟨g, 0, none⟩)) (w : World) : (execOp a.eval o).run Try.prog w = .ok (.value (.pointer (some ⟨g, 9, none⟩))) w := by
  unfold execOp
  simp only [ho, hx]
  go_simp
theorem exec_s6 {a : Act} {o : Oper} (x : Operand) (ho : o.op = .fieldAddr 79 x 6) (g : Nat) (hx : a.eval x = .pointer (some ⟨g, 0, none⟩)) (w : World) : (execOp a.eval o).run Try.prog w = .ok (.value (.pointer (some ⟨g, 10, none⟩))) w := by
  unfold execOp
  simp only [ho, hx]
  go_simp
theorem exec_s7 {a : Act} {o : Oper} (x : Operand) (ho : o.op = .fieldAddr 79 x 7) (g : Nat) (hx : a.eval x = .pointer (some ⟨g, 0, none⟩)) (w : World) : (execOp a.eval o).run Try.prog w = .ok (.value (.pointer (some ⟨g, 11, none⟩))) w := by
  unfold execOp
  simp only [ho, hx]
  go_simp
theorem exec_s8 {a : Act} {o : Oper} (x : Operand) (ho : o.op = .fieldAddr 79 x 8) (g : Nat) (hx : a.eval x = .pointer (some ⟨g, 0, none⟩)) (w : World) : (execOp a.eval o).run Try.prog w = .ok (.value (.pointer (some ⟨g, 12, none⟩))) w := by
  unfold execOp
  simp only [ho, hx]
  go_simp
theorem exec_s9 {a : Act} {o : Oper} (x : Operand) (ho : o.op = .fieldAddr 79 x 9) (g : Nat) (hx : a.eval x = .pointer (some ⟨g, 0, none⟩)) (w : World) : (execOp a.eval o).run Try.prog w = .ok (.value (.pointer (some ⟨g, 13, none⟩))) w := by
  unfold execOp
  simp only [ho, hx]
  go_simp
theorem run_load_ptr {P : Program} {ty e : TypeId} (hu : P.underlying ty = some (.pointer e)) {w : World} {b off : Nat} {v : Value} (hc : w.cell? ⟨b, off, none⟩ = some v) :
    (Instr.loadAt ty (.pointer (some ⟨b, off, none⟩))).run P w = .ok v w := by
  simp [Instr.loadAt, Instr.sureAddr, loadVar, isAgg, run_underlying hu, hc]
theorem wpQuiet_loadP {P : Program} {ops : Array Oper} {C : World → Prop} {Q : Act → Prop} {a : Act} {o : Oper} {rest : List Oper} (v : Value) (hw : Region.wanted o (yielded ops a.tmps) = true) (ty e : TypeId) (x : Operand) (ho : o.op = .load ty x) (hu : P.underlying ty = some (.pointer e)) (b off : Nat) (hx : a.eval x = .pointer (some ⟨b, off, none⟩))
    (hS : ∀ w, C w → w.cell? ⟨b, off, none⟩ = some v) (h : wpQuiet P ops C Q rest (a.put o.dst v)) : wpQuiet P ops C Q (o :: rest) a :=
  wpQuiet_val v hw (fun w hC => by
    unfold execOp
    simp only [ho, hx, Sem.run_bind, Sem.run_pure, run_load_ptr hu (hS w hC), Result.andThen_ok]) h
theorem zeroMem (w : World) : (zeroValue 38).run Try.prog w = .ok (.agg (cellsM Mem.zero).toArray) w := by kernel_rfl
theorem exec_mem {a : Act} {o : Oper} (ho : o.op = .alloc 38) (w : World) : (execOp a.eval o).run Try.prog w = .ok (.value (.pointer (some ⟨w.heap.size, 0, none⟩))) (w.alloc (.cells (cellsM Mem.zero).toArray 38)) :=
  exec_allocZ 38 (cellsM Mem.zero) ho zeroMem w
section
variable {H : Type} {w : World} {O : Nat → Prop} {M : Nat} {b : Blk} {t : Sct}
set_option maxRecDepth 100000 in
set_option maxHeartbeats 1000000 in
theorem me_any (h : ScAt H w O M b t) : Calls Try.prog 16 #[.pointer (some ⟨b.s, 0, none⟩)] w fun e w' => e = .returned (memV t.own) ∧ Below w.heap.size w w' := by
  have c0 := h.cell (i := 0) (v := ptrV b.pv) rfl
  have c6 := h.cell (i := 6) (v := .int .i64 t.me) rfl
  obtain ⟨s, hs⟩ : ∃ s, s = b.s := ⟨_, rfl⟩
  obtain ⟨pv, hpv⟩ : ∃ pv, pv = b.pv := ⟨_, rfl⟩
  obtain ⟨n, hn⟩ : ∃ n, n = t.me := ⟨_, rfl⟩
  have hl := h.lim.me
  obtain ⟨m, is, hf, hm, his⟩ := found_cases t.v t.me
  have HG := Lib.hid (show ∀ W, Below w.heap.size w W → Calls Try.prog 32 #[.pointer (some ⟨b.pv, 0, none⟩), .int .i64 t.me] W fun e w' => e = .returned (found t.v t.me) ∧ Below W.heap.size W w' from fun W hW => get_any (view_below h.view hW) t.me (by omega) (by omega))
  have hr : t.own = m := by unfold Sct.own Sct.getM; rw [hm]
  rw [hf, ← hpv, ← hn] at HG
  rw [hr, ← hs]
  rw [← hs, ← hpv] at c0
  rw [← hs, ← hn] at c6
  unfold ptrV at c0
  unfold memV at HG ⊢
  have hpl := h.hd.lt
  rw [← hs] at hpl
  clear h hs hpv hf hm his hr hn hl
  go_enter Try.func16, Try.ntmps16
  go_wp2_with fail
  obtain ⟨wa, hwa⟩ : ∃ wa, wa = w.alloc (.cells #[.int .i64 0, .int .i64 0, .int .i64 0] 38) := ⟨_, rfl⟩
  have HBa := Lib.hid (show Below w.heap.size w wa by rw [hwa]; exact (Below.refl _ _).alloc (Nat.le_refl _) _)
  have HAa := Lib.hid (show At wa w.heap.size 38 (cellsM Mem.zero) by rw [hwa]; exact memAt w Mem.zero)
  rw [← hwa]
  have HC0 := Lib.hid (show ∀ W, Behind wa W → W.cell? ⟨s, 0, none⟩ = some (.pointer (some ⟨pv, 0, none⟩)) from fun W h => ((HBa.out.trans (Below.mono h HBa.out.size)).cell (p := ⟨s, 0, none⟩) hpl).trans c0)
  have HC6 := Lib.hid (show ∀ W, Behind wa W → W.cell? ⟨s, 6, none⟩ = some (.int .i64 n) from fun W h => ((HBa.out.trans (Below.mono h HBa.out.size)).cell (p := ⟨s, 6, none⟩) hpl).trans c6)
  have HGW := Lib.hid (show ∀ W, Behind wa W → Calls Try.prog 32 #[.pointer (some ⟨pv, 0, none⟩), .int .i64 n] W fun e w' => e = .returned (.tuple #[.agg #[.int .i64 m.n, .int .i64 m.i, .int .i64 m.s], .bool is]) ∧ Below W.heap.size W w' from fun W h => HG.out W (HBa.out.trans (Below.mono h HBa.out.size)))
  clear hwa HG c0 c6
  refine wp_region_mixA 13 _ [(0, true), (1, true), (2, true), (3, true), (4, true), (5, true), (6, true), (7, true), (8, true), (9, false), (10, true), (11, true), (12, true)] [(14, false), (15, true)] (Behind wa) wa.heap.size 38 (cellsM Mem.zero) (by rfl) (fun _ => rfl) (fun _ w => exec_mem rfl w) (fun _ _ h hb => behind_up16 h hb) (fun _ h => h.size) (by kernel_rfl) (by kernel_rfl) (fun _ _ d _ _ h => by cases d <;> exact h) (by kernel_rfl) (by kernel_rfl) (by decide) (Below.refl _ _).drew ?_
  iterate 9 (
    first
      | (refine wpMixU_val (.pointer (some ⟨s, 0, none⟩)) (by with_unfolding_all rfl) (by with_unfolding_all rfl) (fun w _ => exec_nil _ (by with_unfolding_all rfl) s 0 (by with_unfolding_all rfl) w) ?_; simp only [Act.put, List.setIfInBounds_toArray, List.set_cons_zero, List.set_cons_succ])
      | (refine wpMixU_val (.pointer (some ⟨s, 0, none⟩)) (by with_unfolding_all rfl) (by with_unfolding_all rfl) (fun w _ => exec_s0 _ (by with_unfolding_all rfl) s (by with_unfolding_all rfl) w) ?_; simp only [Act.put, List.setIfInBounds_toArray, List.set_cons_zero, List.set_cons_succ])
      | (refine wpMixU_q (by with_unfolding_all rfl) (by kernel_rfl) ?_
         first
          | go_big_quiet_skip
          | ((with_reducible refine wpQuiet_loadP (.pointer (some ⟨pv, 0, none⟩)) (by with_unfolding_all rfl) 70 _ _ (by with_unfolding_all rfl) Try.underlying70 s 0 (by with_unfolding_all rfl) (fun w h => HC0.out w h) ?_); simp only [Act.put, List.setIfInBounds_toArray, List.set_cons_zero, List.set_cons_succ])
          | ((with_reducible refine wpQuiet_load1 (.int .i64 n) (by with_unfolding_all rfl) 3 _ (by with_unfolding_all rfl) .i64 Try.underlying3 s 6 (by with_unfolding_all rfl) (fun w h => HC6.out w h) ?_); simp only [Act.put, List.setIfInBounds_toArray, List.set_cons_zero, List.set_cons_succ])
          | (go_big_quiet_step (exact fun _ => rfl))
         refine wpMixU_qnil ?_))
  refine wpMixU_call 32 [.pointer (some ⟨pv, 0, none⟩), .int .i64 n] (.tuple #[.agg #[.int .i64 m.n, .int .i64 m.i, .int .i64 m.s], .bool is]) (by with_unfolding_all rfl) (by with_unfolding_all rfl) (fun _ => by with_unfolding_all rfl) (fun w hS _ => HGW.out w hS) ?_
  simp only [Act.put, List.setIfInBounds_toArray, List.set_cons_zero, List.set_cons_succ]
  iterate 3 (
    refine wpMixU_q (by with_unfolding_all rfl) (by kernel_rfl) ?_
    first
      | go_big_quiet_skip
      | (go_big_quiet_step (exact fun _ => rfl))
    refine wpMixU_qnil ?_)
  intro u wc hS' hF hM
  obtain ⟨g7, rfl, hq, hat⟩ := hM
  simp only [Act.put, List.setIfInBounds_toArray, List.set_cons_zero, List.set_cons_succ]
  refine wpMix_storeAll16 (by with_unfolding_all rfl) (by with_unfolding_all rfl) 38 _ _ (by with_unfolding_all rfl) g7 (by with_unfolding_all rfl) 38 (cellsM Mem.zero) (cellsM m) hat (by with_unfolding_all rfl) rfl info_memC (cellsM_oneCell m) (fun w' hg => made_grown16 hS' hq hg) ?_
  intro z1 hat1 hg1 hb1
  simp only [Act.put]
  refine wpMix_q (by with_unfolding_all rfl) (by kernel_rfl) ?_
  first
    | go_big_quiet_skip
    | (go_big_quiet_step (exact fun _ => rfl))
  refine wpMix_qnil ?_
  refine wpMix_nil ?_
  have HAz := Lib.hid hat1
  have HBz := Lib.hid (HBa.out.trans (Below.mono (show Behind wa z1 from hb1) HBa.out.size))
  have HAt := Lib.hid (HAa.out.below (show Behind wa z1 from hb1) HAa.out.lt)
  have m0 := hat1.cell' (i := 0) (v := .int .i64 m.n) rfl
  have m1 := hat1.cell' (i := 1) (v := .int .i64 m.i) rfl
  have m2 := hat1.cell' (i := 2) (v := .int .i64 m.s) rfl
  have hAt := HAt.out
  have r0 := hAt.cell' (i := 0) (v := .int .i64 0) rfl
  have r1 := hAt.cell' (i := 1) (v := .int .i64 0) rfl
  have r2 := hAt.cell' (i := 2) (v := .int .i64 0) rfl
  have q0 := hAt.frozen 0
  have q1 := hAt.frozen 1
  have q2 := hAt.frozen 2
  have HSt := Lib.hid (show At (((z1.setCell ⟨w.heap.size, 0, none⟩ (.int .i64 m.n)).setCell ⟨w.heap.size, 1, none⟩ (.int .i64 m.i)).setCell ⟨w.heap.size, 2, none⟩ (.int .i64 m.s)) w.heap.size 38 (cellsM m) from ((hAt.set 0 _).set 1 _).set 2 _)
  have HSb := Lib.hid (show Below w.heap.size w (((z1.setCell ⟨w.heap.size, 0, none⟩ (.int .i64 m.n)).setCell ⟨w.heap.size, 1, none⟩ (.int .i64 m.i)).setCell ⟨w.heap.size, 2, none⟩ (.int .i64 m.s)) from ((HBz.out.setCell (Nat.le_refl _) _).setCell (Nat.le_refl _) _).setCell (Nat.le_refl _) _)
  clear hS' hF hq hat hat1 hg1 hb1 wc HC0 HC6 HGW hAt
  go_wp2_with fail
  exact ret_cellAll (p := 2) (ty := 38) (by kernel_rfl) (by with_unfolding_all rfl) w.heap.size 38 (cellsM m) _ (by with_unfolding_all rfl) HSt.out Try.underlying38 rfl info_memC ⟨rfl, HSb.out⟩
end
end Go.Proofs.Ytghefmppjdneoaa

namespace Go.Proofs.Ytghefmppjdneoaa
open Go.RowKit Go.Maps

section
variable {H : Type} {w w' : World} {O : Nat → Prop} {M : Nat} {b : Blk} {t : Sct}
theorem Sct.Lim.mono {t : Sct} {M M' : Nat} (h : t.Lim M) (hM : M ≤ M') : t.Lim M' :=
  ⟨h.me, ⟨h.ticks.1, by have := h.ticks.2; omega⟩, ⟨h.last.1, by have := h.last.2; omega⟩, ⟨h.seq.1, by have := h.seq.2; omega⟩, h.tgt, h.help, h.line, h.rel, fun n k hk => by have := h.since n k hk; omega⟩
/-- how the blocks differ -/
theorem Blk.ne (hd : b.list.Pairwise fun x y => x = y → x = none) : b.s ≠ b.pv ∧ b.s ≠ b.bv ∧ b.s ≠ b.bs ∧ b.pv ≠ b.bv ∧ b.pv ≠ b.bs ∧ b.bv ≠ b.bs ∧
    (∀ g, blkOf b.hA = some g → g ≠ b.s ∧ g ≠ b.pv ∧ g ≠ b.bv ∧ g ≠ b.bs) ∧ (∀ g, blkOf b.lA = some g → g ≠ b.s ∧ g ≠ b.pv ∧ g ≠ b.bv ∧ g ≠ b.bs) ∧ ∀ g, blkOf b.rA = some g → g ≠ b.s ∧ g ≠ b.pv ∧ g ≠ b.bv ∧ g ≠ b.bs := by
  unfold Blk.list at hd
  simp only [List.pairwise_cons, List.mem_cons, List.not_mem_nil, or_false, forall_eq_or_imp, forall_eq, Option.some.injEq] at hd
  obtain ⟨⟨d1, d2, d3, d4, d5, d6⟩, ⟨e1, e2, e3, e4, e5⟩, ⟨f1, f2, f3, f4⟩, ⟨g1, g2, g3⟩, _⟩ := hd
  refine ⟨fun e => (by cases d1 e), fun e => (by cases d2 e), fun e => (by cases d3 e), fun e => (by cases e1 e), fun e => (by cases e2 e), fun e => (by cases f1 e), fun g hg => ⟨fun e => ?_, fun e => ?_, fun e => ?_, fun e => ?_⟩, fun g hg => ⟨fun e => ?_, fun e => ?_, fun e => ?_, fun e => ?_⟩, fun g hg => ⟨fun e => ?_, fun e => ?_, fun e => ?_, fun e => ?_⟩⟩
  · cases d4 (by rw [hg, e])
  · cases e3 (by rw [hg, e])
  · cases f2 (by rw [hg, e])
  · cases g1 (by rw [hg, e])
  · cases d5 (by rw [hg, e])
  · cases e4 (by rw [hg, e])
  · cases f3 (by rw [hg, e])
  · cases g2 (by rw [hg, e])
  · cases d6 (by rw [hg, e])
  · cases e5 (by rw [hg, e])
  · cases f4 (by rw [hg, e])
  · cases g3 (by rw [hg, e])
theorem ScAt.mono {M' : Nat} (h : ScAt H w O M b t) (hM : M ≤ M') : ScAt H w O M' b t :=
  ⟨h.hd, h.view, h.hum, h.since, h.line, h.help, h.rel, h.dis, h.own, h.lim.mono hM, by have := h.cnt; omega⟩
/-- hum beside a write -/
theorem ScAt.hum_kept (h : ScAt H w O M b t) {x : Nat} (hx : some x ∈ b.list) (hg : w.grownBy w' (some x)) : ∃ A, HumSt H w' A b.ph b.bh b.nh 5 t.f ∧ (∀ i, some i ∈ b.list → A i) ∧ ∀ i, i < w'.heap.size → ¬ O i → A i := by
  obtain ⟨A, h1, h2, h3⟩ := h.hum
  refine ⟨fun i => A i ∨ (w.heap.size ≤ i ∧ i < w'.heap.size), h1.apartMore hg (fun k hk => by cases hk; exact h2 _ hx) fun i hi => hi, fun i hi => .inl (h2 i hi), fun i hi ho => ?_⟩
  by_cases hlt : i < w.heap.size
  · exact .inl (h3 i hlt ho)
  · exact .inr ⟨by omega, hi⟩
/-- the view has heard -/
theorem ScAt.viewed {v' : Known} {nv' M' : Nat} (h : ScAt H w O M b t) (hg : w.grownBy w' (some b.bv)) (hv : ViewAt H w' b.pv b.bv nv' v') (hn : nv' ≤ 100000 + M') (hM : M ≤ M') : ScAt H w' O M' { b with nv := nv' } { t with v := v' } := by
  obtain ⟨n1, n2, n3, n4, n5, n6, n7, n8, n9⟩ := Blk.ne h.dis
  refine ⟨h.hd.grown hg (by intro e; injection e with e; exact n2 e), hv, h.hum_kept (mem_list.2 (.inr (.inr (.inl rfl)))) hg, h.since.kept hg (by intro e; injection e with e; exact n6 e.symm), h.line.keep fun g off e => hg.block g (h.line.lt e) (fun e2 => (n8 g (blk_some e)).2.2.1 (Option.some.inj e2)), h.help.keep fun g off e => hg.block g (h.help.lt e) (fun e2 => (n7 g (blk_some e)).2.2.1 (Option.some.inj e2)), h.rel.keep fun g off e => hg.block g (h.rel.lt e) (fun e2 => (n9 g (blk_some e)).2.2.1 (Option.some.inj e2)), h.dis, h.own, h.lim.mono hM |> fun l => ⟨l.me, l.ticks, l.last, l.seq, l.tgt, l.help, l.line, l.rel, l.since⟩, ⟨hn, Nat.le_trans h.cnt.2.1 (by omega), Nat.le_trans h.cnt.2.2 (by omega)⟩⟩
/-- who was doubted, and when, is written -/
theorem ScAt.sinced {s' : Int → Option Int} {ns' M' : Nat} (h : ScAt H w O M b t) (hg : w.grownBy w' (some b.bs)) (hs : w'.ownsMap Try.prog 3 readN b.bs ns' (Sk.mapD (H := H) intD s')) (hl : ∀ n k, s' n = some k → 1 ≤ n ∧ n ≤ 6 ∧ 0 ≤ k ∧ k ≤ M') (hn : ns' ≤ 100000 + M') (hM : M ≤ M') : ScAt H w' O M' { b with ns := ns' } { t with since := s' } := by
  obtain ⟨n1, n2, n3, n4, n5, n6, n7, n8, n9⟩ := Blk.ne h.dis
  refine ⟨h.hd.grown hg (by intro e; injection e with e; exact n3 e), view_grown h.view hg (by intro e; injection e with e; exact n5 e) (by intro e; injection e with e; exact n6 e), h.hum_kept (mem_list.2 (.inr (.inr (.inr (.inl rfl))))) hg, hs, h.line.keep fun g off e => hg.block g (h.line.lt e) (fun e2 => (n8 g (blk_some e)).2.2.2 (Option.some.inj e2)), h.help.keep fun g off e => hg.block g (h.help.lt e) (fun e2 => (n7 g (blk_some e)).2.2.2 (Option.some.inj e2)), h.rel.keep fun g off e => hg.block g (h.rel.lt e) (fun e2 => (n9 g (blk_some e)).2.2.2 (Option.some.inj e2)), h.dis, h.own, h.lim.mono hM |> fun l => ⟨l.me, l.ticks, l.last, l.seq, l.tgt, l.help, l.line, l.rel, hl⟩, ⟨Nat.le_trans h.cnt.1 (by omega), Nat.le_trans h.cnt.2.1 (by omega), hn⟩⟩
/-- blocks of a set that holds all but hum's are kept -/
theorem ScAt.parts {A : Nat → Prop} (h : ScAt H w O M b t) (h2 : ∀ i, some i ∈ b.list → A i) (hk : Keeps A w w') : At w' b.s 79 (scC b t) ∧ ViewAt H w' b.pv b.bv b.nv t.v ∧ w'.ownsMap Try.prog 3 readN b.bs b.ns (Sk.mapD (H := H) intD t.since) ∧ IRow w' b.lA b.lc t.line ∧ IRow w' b.hA b.hc t.help ∧ RRow w' b.rA b.rc t.rel := by
  have hb : ∀ i, some i ∈ b.list → w'.heap[i]? = w.heap[i]? := fun i hi => hk.block i (h2 i hi) (h.lt hi)
  have m1 : some b.s ∈ b.list := mem_list.2 (.inl rfl)
  have m2 : some b.pv ∈ b.list := mem_list.2 (.inr (.inl rfl))
  have m3 : some b.bv ∈ b.list := mem_list.2 (.inr (.inr (.inl rfl)))
  have m4 : some b.bs ∈ b.list := mem_list.2 (.inr (.inr (.inr (.inl rfl))))
  refine ⟨(hb _ m1).trans h.hd, ⟨(hb _ m2).trans h.view.1, ?_, h.view.2.2⟩, ?_, h.line.keep fun g off e => hb g (mem_list.2 (.inr (.inr (.inr (.inr (.inr (.inl (blk_some e)))))))), h.help.keep fun g off e => hb g (mem_list.2 (.inr (.inr (.inr (.inr (.inl (blk_some e))))))), h.rel.keep fun g off e => hb g (mem_list.2 (.inr (.inr (.inr (.inr (.inr (.inr (blk_some e))))))))⟩
  · obtain ⟨es, clock, hb2, F, hs, hD⟩ := h.view.2.1
    exact ⟨es, clock, (hb _ m3).trans hb2, F, hs, hD⟩
  · obtain ⟨es, clock, hb2, F, hs, hD⟩ := h.since
    exact ⟨es, clock, (hb _ m4).trans hb2, F, hs, hD⟩
/-- hum has been told: its blocks may be new ones -/
theorem ScAt.pushed {A : Nat → Prop} {f' : Hm.St} {nh' M' : Nat} (h : ScAt H w O M b t) (h2 : ∀ i, some i ∈ b.list → A i) (h3 : ∀ i, i < w.heap.size → ¬ O i → A i) (hs : HumSt H w' A b.ph b.bh nh' 5 f') (hk : Keeps A w w') (hn : nh' ≤ 100000 + M') (hM : M ≤ M') : ScAt H w' (fun i => O i ∨ (w.heap.size ≤ i ∧ i < w'.heap.size)) M' { b with nh := nh' } { t with f := f' } := by
  obtain ⟨p1, p2, p3, p4, p5, p6⟩ := h.parts h2 hk
  refine ⟨p1, p2, ⟨A, hs, h2, fun i hi ho => ?_⟩, p3, p4, p5, p6, h.dis, fun i hi => .inl (h.own i hi), h.lim.mono hM |> fun l => ⟨l.me, l.ticks, l.last, l.seq, l.tgt, l.help, l.line, l.rel, l.since⟩, ⟨Nat.le_trans h.cnt.1 (by omega), hn, Nat.le_trans h.cnt.2.2 (by omega)⟩⟩
  by_cases hlt : i < w.heap.size
  · exact h3 i hlt fun e => ho (.inl e)
  · exact absurd (.inr ⟨by omega, hi⟩) ho
/-- hum has told: no new blocks -/
theorem ScAt.took {A : Nat → Prop} {f' : Hm.St} (h : ScAt H w O M b t) (h2 : ∀ i, some i ∈ b.list → A i) (h3 : ∀ i, i < w.heap.size → ¬ O i → A i) (hs : HumSt H w' (fun i => A i ∨ (w.heap.size ≤ i ∧ i < w'.heap.size)) b.ph b.bh b.nh 5 f') (hk : Keeps A w w') : ScAt H w' O M b { t with f := f' } := by
  obtain ⟨p1, p2, p3, p4, p5, p6⟩ := h.parts h2 hk
  refine ⟨p1, p2, ⟨_, hs, fun i hi => .inl (h2 i hi), fun i hi ho => ?_⟩, p3, p4, p5, p6, h.dis, h.own, ⟨h.lim.me, h.lim.ticks, h.lim.last, h.lim.seq, h.lim.tgt, h.lim.help, h.lim.line, h.lim.rel, h.lim.since⟩, h.cnt⟩
  by_cases hlt : i < w.heap.size
  · exact .inl (h3 i hlt ho)
  · exact .inr ⟨by omega, hi⟩
end
theorem exec_one_mem {ρ : Operand → Value} {o : Oper} (x : Operand) (m : Mem) (ho : o.op = .buildSlice 30 1 #[(0, x)]) (hx : ρ x = .agg #[.int .i64 m.n, .int .i64 m.i, .int .i64 m.s]) (w : World) :
    (execOp ρ o).run Try.prog w = .ok (.value (.slice (some ⟨w.heap.size, 0, none⟩) 1 1)) (w.alloc (.cells #[.int .i64 m.n, .int .i64 m.i, .int .i64 m.s] 38)) := by
  unfold execOp
  simp only [ho, List.map_toArray, List.map_cons, List.map_nil, hx]
  go_simp
end Go.Proofs.Ytghefmppjdneoaa
