/-
  No cell of these rows narrows 'for every input' (looked for: loops, veiled, ifaces, maps, wideKeys, modest, calm, conditions, laid).
  DERIVED. THE GIVEN ROWS OF THIS SEAT. 5 by the template 'for every input the law returns true; each argument reads behind the call as it read before'; 0 by the template 'total and deterministic' (their statements: YtiihhpbobebliaaTotals.lean).
  GIVEN WITH THE SEED: the statements are not yours to turn. If you find one false, say at which input.
  Laid BY PROGRAM, IN A SANDBOX (cutbox-rows.mjs): the forced cells as the released guide's own fill.sh prints them over the translation 15eef7c0546f1077… (all of the seat's roots in one cut). By AI agents, Wed Nov 11 2026. No macro, syntax, notation, axiom, sorry.
-/
import Derived.Test.YtiihhpbobebliaaChecked
import GoSem.Claim
import GoSem.ClaimJoined
import GoSem.ClaimMapViews
import Derived.JoinedTies
import Derived.KernelRfl
namespace Go.Proofs.Ytiihhpbobebliaa
/- THE CELL 'sum', in the pinned program and in every row, IS THE sha256 OF THE DUMP (.gsa) THAT YtiihhpbobebliaaProg.lean LOADS. Nothing in Lean hashes anything: it is a label: what it is worth is what the hold of that sum in a sandbox is worth. -/
noncomputable def Try.pinned : Pinned := { name := "ytiihhpbobebliaa", sum := "15eef7c0546f10772559a207612c3bb4de1913013511657441a6f24a707f8239", checked := Try.checked }
namespace Rows
def none {H : Type} : Left H := { results := [], args := [] }

/-- 'hermitcrablaw07.CacheNumbers': WHATEVER THE INPUT: true; the input reads as it did. -/
def cacheNumbersSpec : ChangeSpec := { name := "cacheNumbers", fn := fun _ => fun
  | [d1, d2, d3, d4, d5] => { results := [.lit (.bool true)], args := [d1, d2, d3, d4, d5] }
  | _ => none }
def cacheNumbersRow : OpenClaim := { program := "ytiihhpbobebliaa", sum := "15eef7c0546f10772559a207612c3bb4de1913013511657441a6f24a707f8239", func := "hermitcrab/hermitcrablaw07.CacheNumbers", spec := "cacheNumbers", unfollowed := true, recurses := true, apart := false }
def CacheNumbersSaid : Prop := cacheNumbersRow.holds Try.pinned (OpenSpec.ofChange cacheNumbersSpec)

/-- ITS FALSE NEIGHBOUR: 'it returns false'. Refute it at one input. -/
def cacheNumbersWrong : ChangeSpec := { name := "cacheNumbers", fn := fun _ => fun
  | [d1, d2, d3, d4, d5] => { results := [.lit (.bool false)], args := [d1, d2, d3, d4, d5] }
  | _ => none }
def CacheNumbersWrongFalsely : Prop := cacheNumbersRow.holds Try.pinned (OpenSpec.ofChange cacheNumbersWrong)

/-- 'hermitcrablaw07.CacheEldest': WHATEVER THE INPUT: true; the input reads as it did. -/
def cacheEldestSpec : ChangeSpec := { name := "cacheEldest", fn := fun _ => fun
  | [d1, d2] => { results := [.lit (.bool true)], args := [d1, d2] }
  | _ => none }
def cacheEldestRow : OpenClaim := { program := "ytiihhpbobebliaa", sum := "15eef7c0546f10772559a207612c3bb4de1913013511657441a6f24a707f8239", func := "hermitcrab/hermitcrablaw07.CacheEldest", spec := "cacheEldest", unfollowed := true, recurses := true, apart := false }
def CacheEldestSaid : Prop := cacheEldestRow.holds Try.pinned (OpenSpec.ofChange cacheEldestSpec)

/-- ITS FALSE NEIGHBOUR: 'it returns false'. Refute it at one input. -/
def cacheEldestWrong : ChangeSpec := { name := "cacheEldest", fn := fun _ => fun
  | [d1, d2] => { results := [.lit (.bool false)], args := [d1, d2] }
  | _ => none }
def CacheEldestWrongFalsely : Prop := cacheEldestRow.holds Try.pinned (OpenSpec.ofChange cacheEldestWrong)

/-- 'hermitcrablaw07.CacheAnew': WHATEVER THE INPUT: true; the input reads as it did. -/
def cacheAnewSpec : ChangeSpec := { name := "cacheAnew", fn := fun _ => fun
  | [d1, d2, d3] => { results := [.lit (.bool true)], args := [d1, d2, d3] }
  | _ => none }
def cacheAnewRow : OpenClaim := { program := "ytiihhpbobebliaa", sum := "15eef7c0546f10772559a207612c3bb4de1913013511657441a6f24a707f8239", func := "hermitcrab/hermitcrablaw07.CacheAnew", spec := "cacheAnew", unfollowed := true, recurses := true, apart := false }
def CacheAnewSaid : Prop := cacheAnewRow.holds Try.pinned (OpenSpec.ofChange cacheAnewSpec)

/-- ITS FALSE NEIGHBOUR: 'it returns false'. Refute it at one input. -/
def cacheAnewWrong : ChangeSpec := { name := "cacheAnew", fn := fun _ => fun
  | [d1, d2, d3] => { results := [.lit (.bool false)], args := [d1, d2, d3] }
  | _ => none }
def CacheAnewWrongFalsely : Prop := cacheAnewRow.holds Try.pinned (OpenSpec.ofChange cacheAnewWrong)

/-- 'hermitcrablaw07.CachePlays': WHATEVER THE INPUT: true; the input reads as it did. -/
def cachePlaysSpec : ChangeSpec := { name := "cachePlays", fn := fun _ => fun
  | [d] => { results := [.lit (.bool true)], args := [d] }
  | _ => none }
def cachePlaysRow : OpenClaim := { program := "ytiihhpbobebliaa", sum := "15eef7c0546f10772559a207612c3bb4de1913013511657441a6f24a707f8239", func := "hermitcrab/hermitcrablaw07.CachePlays", spec := "cachePlays", unfollowed := true, recurses := true, apart := false }
def CachePlaysSaid : Prop := cachePlaysRow.holds Try.pinned (OpenSpec.ofChange cachePlaysSpec)

/-- ITS FALSE NEIGHBOUR: 'it returns false'. Refute it at one input. -/
def cachePlaysWrong : ChangeSpec := { name := "cachePlays", fn := fun _ => fun
  | [d] => { results := [.lit (.bool false)], args := [d] }
  | _ => none }
def CachePlaysWrongFalsely : Prop := cachePlaysRow.holds Try.pinned (OpenSpec.ofChange cachePlaysWrong)

/-- 'hermitcrablaw07.CacheNil': WHATEVER THE INPUT: true; the input reads as it did. -/
def cacheNilSpec : ChangeSpec := { name := "cacheNil", fn := fun _ => fun
  | [d1, d2, d3] => { results := [.lit (.bool true)], args := [d1, d2, d3] }
  | _ => none }
def cacheNilRow : OpenClaim := { program := "ytiihhpbobebliaa", sum := "15eef7c0546f10772559a207612c3bb4de1913013511657441a6f24a707f8239", func := "hermitcrab/hermitcrablaw07.CacheNil", spec := "cacheNil", unfollowed := true, recurses := true, apart := false }
def CacheNilSaid : Prop := cacheNilRow.holds Try.pinned (OpenSpec.ofChange cacheNilSpec)

/-- ITS FALSE NEIGHBOUR: 'it returns false'. Refute it at one input. -/
def cacheNilWrong : ChangeSpec := { name := "cacheNil", fn := fun _ => fun
  | [d1, d2, d3] => { results := [.lit (.bool false)], args := [d1, d2, d3] }
  | _ => none }
def CacheNilWrongFalsely : Prop := cacheNilRow.holds Try.pinned (OpenSpec.ofChange cacheNilWrong)

/- THE SECOND FORM. 'bulk': how many values and letters a reading holds, each counted each time it is reached (what is shared counts as often as it is met; a slice's spare places count too). A statement '..UptoSaid' is the law's where the arguments, and the package variables that the reading takes, are together of bulk at most 1048576: NARROWER than '..Said'. Prove '..Said' where nothing that the law and all that it calls make is longer than what came in: it says more and counts as full. Else prove '..UptoSaid'. A law counts once. -/
mutual
def uptoBulk {H : Type} : DataW H → Nat
  | .lit (.string bytes) => bytes.length + 1
  | .lit _ => 1
  | .nil => 1
  | .ptr d => uptoBulk d + 1
  | .slice elems spare => uptoBulkAll elems + uptoBulkAll spare + 1
  | .agg parts => uptoBulkAll parts + 1
  | .iface _ d => uptoBulk d + 1
  | .map entries => uptoBulkEntries entries + 1
  | .held _ => 1
def uptoBulkAll {H : Type} : List (DataW H) → Nat
  | [] => 0
  | d :: r => uptoBulk d + uptoBulkAll r
def uptoBulkEntries {H : Type} : List (Lit × DataW H) → Nat
  | [] => 0
  | x :: r => uptoBulkEntry x + uptoBulkEntries r
def uptoBulkEntry {H : Type} : Lit × DataW H → Nat
  | (.string bytes, d) => bytes.length + uptoBulk d + 1
  | (_, d) => uptoBulk d + 1
 end
def uptoSmall : (H : Type) → List (DataW H) → Bool := fun _ ds => decide (uptoBulkAll ds ≤ 1048576)
def OpenSpec.upto (s : _root_.Go.ChangeSpec) : _root_.Go.OpenSpec := { _root_.Go.OpenSpec.ofChange s with cond := some uptoSmall }

/-- 'hermitcrablaw07.CacheNumbers', WHERE WHAT IT READS IS OF BULK AT MOST 1048576: true; the input reads as it did. -/
def cacheNumbersUptoRow : OpenClaim := { program := "ytiihhpbobebliaa", sum := "15eef7c0546f10772559a207612c3bb4de1913013511657441a6f24a707f8239", func := "hermitcrab/hermitcrablaw07.CacheNumbers", spec := "cacheNumbers", unfollowed := true, recurses := true, apart := false, narrowed := true }
def CacheNumbersUptoSaid : Prop := cacheNumbersUptoRow.holds Try.pinned (OpenSpec.upto cacheNumbersSpec)

/-- 'hermitcrablaw07.CacheEldest', WHERE WHAT IT READS IS OF BULK AT MOST 1048576: true; the input reads as it did. -/
def cacheEldestUptoRow : OpenClaim := { program := "ytiihhpbobebliaa", sum := "15eef7c0546f10772559a207612c3bb4de1913013511657441a6f24a707f8239", func := "hermitcrab/hermitcrablaw07.CacheEldest", spec := "cacheEldest", unfollowed := true, recurses := true, apart := false, narrowed := true }
def CacheEldestUptoSaid : Prop := cacheEldestUptoRow.holds Try.pinned (OpenSpec.upto cacheEldestSpec)

/-- 'hermitcrablaw07.CacheAnew', WHERE WHAT IT READS IS OF BULK AT MOST 1048576: true; the input reads as it did. -/
def cacheAnewUptoRow : OpenClaim := { program := "ytiihhpbobebliaa", sum := "15eef7c0546f10772559a207612c3bb4de1913013511657441a6f24a707f8239", func := "hermitcrab/hermitcrablaw07.CacheAnew", spec := "cacheAnew", unfollowed := true, recurses := true, apart := false, narrowed := true }
def CacheAnewUptoSaid : Prop := cacheAnewUptoRow.holds Try.pinned (OpenSpec.upto cacheAnewSpec)

/-- 'hermitcrablaw07.CachePlays', WHERE WHAT IT READS IS OF BULK AT MOST 1048576: true; the input reads as it did. -/
def cachePlaysUptoRow : OpenClaim := { program := "ytiihhpbobebliaa", sum := "15eef7c0546f10772559a207612c3bb4de1913013511657441a6f24a707f8239", func := "hermitcrab/hermitcrablaw07.CachePlays", spec := "cachePlays", unfollowed := true, recurses := true, apart := false, narrowed := true }
def CachePlaysUptoSaid : Prop := cachePlaysUptoRow.holds Try.pinned (OpenSpec.upto cachePlaysSpec)

/-- 'hermitcrablaw07.CacheNil', WHERE WHAT IT READS IS OF BULK AT MOST 1048576: true; the input reads as it did. -/
def cacheNilUptoRow : OpenClaim := { program := "ytiihhpbobebliaa", sum := "15eef7c0546f10772559a207612c3bb4de1913013511657441a6f24a707f8239", func := "hermitcrab/hermitcrablaw07.CacheNil", spec := "cacheNil", unfollowed := true, recurses := true, apart := false, narrowed := true }
def CacheNilUptoSaid : Prop := cacheNilUptoRow.holds Try.pinned (OpenSpec.upto cacheNilSpec)

end Rows
end Go.Proofs.Ytiihhpbobebliaa
