/- The reference's lexer and parser, as plain functions; nodes. -/
import Derived.Test.YthphaolkihageaaM0
import Derived.Test.YthphaolkihageaaB3
set_option linter.unusedSimpArgs false
set_option linter.unusedVariables false
namespace Go.AL.Fun
open Go Go.AL

def nameC (b : UInt8) : Bool := letB b || decide (48 ≤ n8 b ∧ n8 b ≤ 57 ∨ n8 b = 95)
def headL (s : List UInt8) : Bool := match s with | [] => false | c :: _ => letB c
def nameB (s : List UInt8) : Bool := decide (s.length ≤ 32) && headL s && s.all nameC
/-- The parts of a path. -/
def splitG : List UInt8 → List UInt8 → List (List UInt8) → Option (List (List UInt8))
  | [], cur, out => if nameB cur = false ∨ out.length = 8 then none else some (out ++ [cur])
  | b :: r, cur, out => if n8 b = 46 then (if nameB cur = false ∨ out.length = 8 then none else splitG r [] (out ++ [cur])) else splitG r (cur ++ [b]) out
def splitR (p : List UInt8) : Option (List (List UInt8)) := if p = [] then some [] else splitG p [] []
/-- Where two equal bytes lie. -/
def findN (c : Int) : List UInt8 → Option Nat
  | [] => none
  | [_] => none
  | a :: b :: r => if n8 a = c ∧ n8 b = c then some 0 else (findN c (b :: r)).map (· + 1)
def findR (s : List UInt8) (c : Int) (fr : Nat) : Int := match findN c (s.drop fr) with | some k => ((fr + k : Nat) : Int) | none => -1
def wordsG : List UInt8 → List UInt8 → List (List UInt8)
  | [], cur => if cur = [] then [] else [cur]
  | b :: r, cur => if n8 b = 32 then (if cur = [] then wordsG r [] else cur :: wordsG r []) else wordsG r (cur ++ [b])
def pathB (w : List UInt8) : Bool := match w with | [] => false | c :: _ => decide (n8 c = 46)
structure Tk where
  kind : Int
  at_ : Int
  s : List UInt8
  path : List UInt8
  has : Bool
def kwd (w : List UInt8) : Int :=
  if w = [105, 102] then 2 else if w = [114, 97, 110, 103, 101] then 3 else if w = [99, 97, 108, 108] then 4 else if w = [102, 108, 117, 115, 104] then 5
  else if w = [100, 101, 102, 105, 110, 101] then 6 else if w = [101, 108, 115, 101] then 7 else if w = [101, 110, 100] then 8 else if pathB w = true then 1 else -1
def formN (k : Int) (rest : List (List UInt8)) : Option (List UInt8 × Bool × List (List UInt8)) :=
  if k = 4 ∨ k = 6 then (match rest with | [] => none | a :: r => if pathB a = true then none else some (a, nameB a, r)) else some ([], true, rest)
def formQ (k : Int) (v : Bool) (rest : List (List UInt8)) : Option (List UInt8 × Bool × Bool × List (List UInt8)) :=
  if (1 ≤ k ∧ k ≤ 3) ∨ (k = 4 ∧ rest ≠ []) then (match rest with | [] => none | a :: r => if pathB a = true then some (a.drop 1, true, v && (splitR (a.drop 1)).isSome, r) else none) else some ([], false, v, rest)
def formR (w : List (List UInt8)) : Tk × Bool × Bool :=
  match w with
  | [] => (⟨-1, 0, [], [], false⟩, false, false)
  | w0 :: r =>
    match formN (kwd w0) (if kwd w0 = 1 then w0 :: r else r) with
    | none => (⟨kwd w0, 0, [], [], false⟩, false, false)
    | some (s, v, rest) =>
      match formQ (kwd w0) v rest with
      | none => (⟨kwd w0, 0, s, [], false⟩, false, false)
      | some (p, h, v', rest') => (⟨kwd w0, 0, s, p, h⟩, decide (0 ≤ kwd w0) && decide (rest' = []), v')
def lexG (src : List UInt8) : Nat → Nat → List Tk → Option (List Tk) × Int × Int
  | 0, _, _ => (none, 0, 0)
  | f + 1, p, out =>
    if p < src.length then
      (if findR src 123 p ≠ p then
        lexG src f (if findR src 123 p < 0 then src.length else (findR src 123 p).toNat) (out ++ [⟨0, p, (src.take (if findR src 123 p < 0 then src.length else (findR src 123 p).toNat)).drop p, [], false⟩])
      else if findR src 125 (p + 2) < 0 then (none, p, 7)
      else
        match formR (wordsG ((src.take (findR src 125 (p + 2)).toNat).drop (p + 2)) []) with
        | (t, kn, va) => if kn = false then (none, p, 5) else if va = false then (none, p, 11) else lexG src f ((findR src 125 (p + 2)).toNat + 2) (out ++ [{ t with at_ := p }]))
    else (some out, src.length, 0)
def lexR (src : List UInt8) : Option (List Tk) × Int × Int := if 65536 < src.length then (none, 0, 6) else lexG src (src.length + 1) 0 []

/-- A node. -/
inductive Nd where
  | mk (kind at_ : Int) (s path : List UInt8) (hasPath hasElse : Bool) (body els : List Nd)
mutual
def Nd.cs : Nd → List AV
  | .mk k a s p hp he b e => [.int .i64 k, .int .i64 a, .str s, .str p, .bool hp, .bool he, .sl (Nd.avs b) (tokc b), .sl (Nd.avs e) (tokc e)]
def Nd.avs : List Nd → List AV
  | [] => []
  | n :: l => .agg n.cs :: Nd.avs l
end
mutual
/-- A count of nodes. -/
def Nd.cnt : Nd → Nat
  | .mk _ _ _ _ _ _ b e => 1 + Nd.cnts b + Nd.cnts e
def Nd.cnts : List Nd → Nat
  | [] => 0
  | n :: l => n.cnt + Nd.cnts l
end
mutual
/-- No text is longer. -/
def Nd.le (L : Nat) : Nd → Prop
  | .mk _ _ s p _ _ b e => s.length ≤ L ∧ p.length ≤ L ∧ Nd.les L b ∧ Nd.les L e
def Nd.les (L : Nat) : List Nd → Prop
  | [] => True
  | n :: l => n.le L ∧ Nd.les L l
end
def blockB (k : Int) : Bool := decide (k = 2 ∨ k = 3 ∨ k = 6)
abbrev PR (α : Type) := Option α × Int × Int × Nat × Nat
mutual
def listR (ts : List Tk) : Nat → Int → Bool → Int → Nat → Nat → List Nd → PR (List Nd)
  | 0, _, _, _, i, n, _ => (none, 0, 0, i, n)
  | f + 1, open_, els, d, i, n, out =>
    match ts[i]? with
    | none => (some out, 0, 0, i, n)
    | some t =>
      if t.kind = 7 then (if open_ ≠ 2 ∨ els = true then (none, t.at_, 13, i, n) else (some out, 0, 0, i, n))
      else if t.kind = 8 then (if open_ < 0 then (none, t.at_, 13, i, n) else (some out, 0, 0, i, n))
      else
        match nodeR ts f d i n t with
        | (none, a, e, i', n') => (none, a, e, i', n')
        | (some x, _, _, i', n') => listR ts f open_ els d i' n' (out ++ [x])
def nodeR (ts : List Tk) : Nat → Int → Nat → Nat → Tk → PR Nd
  | 0, _, i, n, _ => (none, 0, 0, i, n)
  | f + 1, d, i, n, t =>
    if (t.kind = 6 ∧ 0 < d) ∨ (blockB t.kind = true ∧ 32 ≤ d) then (none, t.at_, 13, i, n)
    else if 4096 ≤ n then (none, t.at_, 14, i, n)
    else if blockB t.kind = false then (some (.mk t.kind t.at_ t.s t.path t.has false [] []), 0, 0, i + 1, n + 1)
    else
      match listR ts f t.kind false (d + 1) (i + 1) (n + 1) [] with
      | (none, a, e, i', n') => (none, a, e, i', n')
      | (some body, _, _, i', n') =>
        if (ts[i']?).map Tk.kind = some 7 then
          (match listR ts f t.kind true (d + 1) (i' + 1) n' [] with
          | (none, a, e, i2, n2) => (none, a, e, i2, n2)
          | (some els, _, _, i2, n2) => if ts.length ≤ i2 then (none, t.at_, 7, i2, n2) else (some (.mk t.kind t.at_ t.s t.path t.has true body els), 0, 0, i2 + 1, n2))
        else if ts.length ≤ i' then (none, t.at_, 7, i', n') else (some (.mk t.kind t.at_ t.s t.path t.has false body []), 0, 0, i' + 1, n')
end
def parseR (src : List UInt8) : Option (List Nd) × Int × Int :=
  match lexR src with
  | (none, a, e) => (none, a, e)
  | (some ts, _, _) =>
    match listR ts (2 * ts.length + 2) (-1) false 0 0 0 [] with
    | (none, a, e, _, _) => (none, a, e)
    | (some l, _, _, _, _) => (some l, src.length, 0)
/-- The nodes of a source, or none. -/
def parsedR (src : List UInt8) : List Nd := if 5000 < src.length then [] else ((parseR src).1).getD []
end Go.AL.Fun
