/- The server's locks of pages, in plain data. Conditions: none. -/
import Derived.Test.YthgfbnopbfiifaaMapBr
namespace Go.Proofs.Ythgfbnopbfiifaa
open Go Go.MapKept Go.RowKit Go.Proofs

/-- What a client has of a page. -/
structure Hd where
  x : Bool
  busy : Bool
  called : Int
/-- A request in a page's queue. -/
structure Rq where
  c : Int
  x : Bool
abbrev Hds := List (Int × Hd)
/-- A page's lock. -/
structure LkM where
  holds : Hds
  queue : List Rq
abbrev TabM := List (Int × LkM)
/-- A word. -/
structure Wd where
  call : Bool
  c : Int
  p : Int
  x : Bool
deriving DecidableEq
def hasX (h : Hds) (c : Int) : Bool := ((getL c h).map (·.x)).getD false
/-- Who is in the way. -/
def wayM (h : Hds) (r : Rq) : List Int := (sortK (h.map (·.1))).filter fun c => !decide (c = r.c) && (r.x || hasX h c)
def lvl (x : Bool) : Int := if x then 2 else 1
/-- One who is called. -/
def callStep (p : Int) (x : Bool) (s : Hds × List Wd) (c : Int) : Hds × List Wd := match getL c s.1 with
  | some d => if d.called < lvl x then (putL c { d with called := lvl x } s.1, s.2 ++ [⟨true, c, p, x⟩]) else s
  | none => s
def callM (p : Int) (x : Bool) (cs : List Int) (s : Hds × List Wd) : Hds × List Wd := cs.foldl (callStep p x) s
/-- The first requests are granted, as far as may be. -/
def settleM (p : Int) : List Rq → Hds → List Wd → LkM × List Wd
  | [], h, ws => (⟨h, []⟩, ws)
  | r :: q, h, ws => if wayM h r = [] then settleM p q (putL r.c ⟨r.x || hasX h r.c, false, 0⟩ h) (ws ++ [⟨false, r.c, p, r.x || hasX h r.c⟩])
    else ((⟨(callM p r.x (wayM h r) (h, ws)).1, r :: q⟩ : LkM), (callM p r.x (wayM h r) (h, ws)).2)
/-- What a table holds. -/
structure KtM where
  tab : TabM
  ws : List Wd
def lockOf (T : TabM) (p : Int) : LkM := (getL p T).getD ⟨[], []⟩
def holdOf (T : TabM) (c p : Int) : Option Hd := (getL p T).bind fun l => getL c l.holds
def settled (K : KtM) (p : Int) (h : Hds) (q : List Rq) : KtM := ⟨putL p (settleM p q h K.ws).1 K.tab, (settleM p q h K.ws).2⟩
def askM (K : KtM) (c p : Int) (x : Bool) : Int × KtM :=
  if (decide (1 ≤ c) && decide (c ≤ 8) && decide (0 ≤ p) && decide (p < 1024)) = true then
    (if (lockOf K.tab p).queue.any (fun r => decide (r.c = c)) = true then (31, ⟨putL p (lockOf K.tab p) K.tab, K.ws⟩)
    else match getL c (lockOf K.tab p).holds with
      | some d => if (d.x || !x) = true then (0, ⟨putL p (lockOf K.tab p) K.tab, K.ws ++ [⟨false, c, p, d.x⟩]⟩) else (0, settled K p (lockOf K.tab p).holds ((lockOf K.tab p).queue ++ [⟨c, x⟩]))
      | none => (0, settled K p (lockOf K.tab p).holds ((lockOf K.tab p).queue ++ [⟨c, x⟩])))
  else (1, K)
def freeM (K : KtM) (c p : Int) (keep : Bool) : Int × KtM := match getL p K.tab with
  | none => (12, K)
  | some l => match getL c l.holds with
    | none => (12, K)
    | some _ => (0, settled K p (if keep then putL c ⟨false, false, 0⟩ (delL c l.holds) else delL c l.holds) l.queue)
def busyM (K : KtM) (c p : Int) : Int × KtM := match getL p K.tab with
  | none => (12, K)
  | some l => match getL c l.holds with
    | none => (12, K)
    | some d => (0, ⟨putL p ⟨putL c { d with busy := true } l.holds, l.queue⟩ K.tab, K.ws⟩)
/-- What becomes of a lock when a client leaves. -/
def leftL (c : Int) (all : Bool) (l : LkM) : LkM := ⟨if all then delL c l.holds else l.holds, l.queue.filter fun r => !decide (r.c = c)⟩
def touchL (c : Int) (all : Bool) (l : LkM) : Bool := all && (getL c l.holds).isSome || decide ((l.queue.filter fun r => !decide (r.c = c)).length < l.queue.length)
def settleAt (K : KtM) (p : Int) : KtM := settled K p (lockOf K.tab p).holds (lockOf K.tab p).queue
def leaveM (K : KtM) (c : Int) (all : Bool) : KtM :=
  (sortK ((K.tab.filter fun q => touchL c all q.2).map (·.1))).foldl settleAt ⟨K.tab.map fun q => (q.1, leftL c all q.2), K.ws⟩
def holdsM (T : TabM) (c p : Int) : Int := match holdOf T c p with | none => 0 | some d => if d.x then 2 else 1
end Go.Proofs.Ythgfbnopbfiifaa
