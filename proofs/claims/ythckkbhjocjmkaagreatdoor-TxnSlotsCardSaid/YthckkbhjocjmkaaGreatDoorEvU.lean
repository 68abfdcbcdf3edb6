/- Calls of the run whose outcome is known: txn.New, the two Do, the two Commit: their blocks in numbers of their own. Printed by a program. -/
import Derived.Test.YthckkbhjocjmkaaGreatDoorEvT
namespace Go.Proofs.YthckkbhjocjmkaaGreatDoor
namespace Ev

def np : Value := .pointer none
def ns : Value := .slice none 0 0
def pp (i : Nat) : Value := .pointer (some ⟨i, 0, none⟩)
def memoNew : Memo := ⟨5, [],
  [],
  [⟨pp 0, [],
  [
  .row [(.slice (some ⟨1, 0, none⟩) 1 1), pp 3, np, np, np, np, np, np, np, np, np, np, np, np, np, np, np, np, np, np, np, np, np, np, np, np, np, np, np, np, np, np, np, np, np, np, np, np, np, np, np, np, np, np, np, np, np, np, np, np, np, np, np, np, np, np, np, np, np, np, np, np, np, np, np, np, (.int .i64 (Int.ofNat 2))] 56 0, 
  .row [(.slice (some ⟨2, 0, none⟩) 1 4611686018427387905), ns] 49 0, 
  .row [u 0, u 0, u 0, u 1, u 1, u 0, u 0, u 0, u 0, u 0, u 0, u 0, u 0, u 0, u 0, u 0, u 0, u 0, u 0, u 0, u 0, u 0, u 0, u 0, (bs [1])] 119 25, 
  .row [ns, (.int .i64 (Int.ofNat 0)), (.int .i64 (Int.ofNat 0))] 96 0]⟩]⟩
def memoDoA : Memo := ⟨10, [pp 0, (.int .i64 (Int.ofNat 0)), (.agg #[(.int .i64 (Int.ofNat 5)), (bs [47, 97]), (bs []), (.int .i64 (Int.ofNat 0)), (.int .i64 (Int.ofNat 0)), (bs [])])],
  [
  .row [(.slice (some ⟨1, 0, none⟩) 1 1), pp 3, pp 4, pp 9, np, np, np, np, np, np, np, np, np, np, np, np, np, np, np, np, np, np, np, np, np, np, np, np, np, np, np, np, np, np, np, np, np, np, np, np, np, np, np, np, np, np, np, np, np, np, np, np, np, np, np, np, np, np, np, np, np, np, np, np, np, np, (.int .i64 (Int.ofNat 2))] 56 0, 
  .row [(.slice (some ⟨2, 0, none⟩) 1 4611686018427387905), ns] 49 0, 
  .row [u 0, u 0, u 0, u 1, u 1, u 0, u 0, u 0, u 0, u 0, u 0, u 0, u 0, u 0, u 0, u 0, u 0, u 0, u 0, u 0, u 0, u 0, u 0, u 0, (bs [1])] 119 25, 
  .row [ns, (.int .i64 (Int.ofNat 0)), (.int .i64 (Int.ofNat 0))] 96 0, 
  .row [pp 5, (.int .i64 (Int.ofNat 0)), ns] 64 0, 
  .row [(.iface 60 (pp 6)), (.map (some 8)), ns, ns] 82 0, 
  .row [(.slice (some ⟨7, 0, none⟩) 1 4611686018427387905)] 98 0, 
  .row [u 0, u 0, u 0, u 1, u 1, u 0, u 0, u 0, u 0, u 0, u 0, u 0, u 0, u 0, u 0, u 0, u 0, u 0, u 0, u 0, u 0, u 0, u 0, u 0, (bs [1])] 119 25, .map [] 0, 
  .row [pp 10, (.int .i64 (Int.ofNat 0)), ns] 64 0, 
  .row [(.iface 60 (pp 11)), (.map (some 13)), ns, ns] 82 0, 
  .row [(.slice (some ⟨12, 0, none⟩) 1 4611686018427387905)] 98 0, 
  .row [u 0, u 0, u 0, u 1, u 1, u 0, u 0, u 0, u 0, u 0, u 0, u 0, u 0, u 0, u 0, u 0, u 0, u 0, u 0, u 0, u 0, u 0, u 0, u 0, (bs [1])] 119 25, .map [] 0],
  [⟨(.agg #[(.int .i64 (Int.ofNat 0)), (bs []), ns, (.bool false), (.int .i64 (Int.ofNat 0)), (.int .i64 (Int.ofNat 0))]), [some (
  .row [(.slice (some ⟨1, 0, none⟩) 1 1), pp 3, pp 4, pp 9, np, np, np, np, np, np, np, np, np, np, np, np, np, np, np, np, np, np, np, np, np, np, np, np, np, np, np, np, np, np, np, np, np, np, np, np, np, np, np, np, np, np, np, np, np, np, np, np, np, np, np, np, np, np, np, np, np, np, np, np, np, np, (.int .i64 (Int.ofNat 3))] 56 0), some (
  .row [(.slice (some ⟨2, 0, none⟩) 1 4611686018427387905), ns] 49 0), some (
  .row [u 0, u 0, u 0, u 1, u 1, u 0, u 0, u 0, u 0, u 0, u 0, u 0, u 0, u 0, u 0, u 0, u 0, u 0, u 0, u 0, u 0, u 0, u 0, u 0, (bs [1])] 119 25), some (
  .row [ns, (.int .i64 (Int.ofNat 0)), (.int .i64 (Int.ofNat 0))] 96 0), some (
  .row [pp 5, (.int .i64 (Int.ofNat 0)), ns] 64 0), some (
  .row [(.iface 60 (pp 6)), (.map (some 8)), (.slice (some ⟨14, 0, none⟩) 1 4611686018427387905), (.slice (some ⟨15, 0, none⟩) 1 4611686018427387905)] 82 0), some (
  .row [(.slice (some ⟨7, 0, none⟩) 1 4611686018427387905)] 98 0), some (
  .row [u 0, u 0, u 0, u 1, u 1, u 0, u 0, u 0, u 0, u 0, u 0, u 0, u 0, u 0, u 0, u 0, u 0, u 0, u 0, u 0, u 0, u 0, u 0, u 0, (bs [1])] 119 25), some (.map [{ key := (.agg #[u 0, u 0, u 0, u 2, u 1, u 0, u 0, u 0, u 0, u 0, u 0, u 0, u 0, u 0, u 0, u 0, u 0, u 0, u 0, u 0, u 0, u 0, u 0, u 0]), val := (.agg #[u 0, u 0, u 0, u 2, u 1, u 0, u 0, u 0, u 0, u 0, u 0, u 0, u 0, u 0, u 0, u 0, u 0, u 0, u 0, u 0, u 0, u 0, u 0, u 0, (bs [2, 0, 0, 0, 1, 0, 0, 0, 0]), (.bool false)]), born := 0 },
  { key := (.agg #[u 0, u 0, u 0, u 1, u 2, u 97, u 0, u 0, u 0, u 0, u 0, u 0, u 0, u 0, u 0, u 0, u 0, u 0, u 0, u 0, u 0, u 0, u 0, u 1]), val := (.agg #[u 0, u 0, u 0, u 1, u 2, u 97, u 0, u 0, u 0, u 0, u 0, u 0, u 0, u 0, u 0, u 0, u 0, u 0, u 0, u 0, u 0, u 0, u 0, u 1, (bs [0, 0, 0, 2]), (.bool false)]), born := 1 }] 2), some (
  .row [pp 10, (.int .i64 (Int.ofNat 0)), ns] 64 0), some (
  .row [(.iface 60 (pp 11)), (.map (some 13)), ns, ns] 82 0), some (
  .row [(.slice (some ⟨12, 0, none⟩) 1 4611686018427387905)] 98 0), some (
  .row [u 0, u 0, u 0, u 1, u 1, u 0, u 0, u 0, u 0, u 0, u 0, u 0, u 0, u 0, u 0, u 0, u 0, u 0, u 0, u 0, u 0, u 0, u 0, u 0, (bs [1])] 119 25), some (.map [] 0)],
  [
  .row [u 0, u 0, u 0, u 1, u 2, u 97, u 0, u 0, u 0, u 0, u 0, u 0, u 0, u 0, u 0, u 0, u 0, u 0, u 0, u 0, u 0, u 0, u 0, u 1, u 0, u 0, u 0, u 1, u 2, u 97, u 0, u 0, u 0, u 0, u 0, u 0, u 0, u 0, u 0, u 0, u 0, u 0, u 0, u 0, u 0, u 0, u 0, u 2, (.bool false)] 102 49, 
  .row [(.map (some 16))] 79 1, .map [] 0]⟩]⟩
def memoDoB : Memo := ⟨10, [pp 0, (.int .i64 (Int.ofNat 1)), (.agg #[(.int .i64 (Int.ofNat 5)), (bs [47, 98]), (bs []), (.int .i64 (Int.ofNat 0)), (.int .i64 (Int.ofNat 0)), (bs [])])],
  [
  .row [(.slice (some ⟨1, 0, none⟩) 1 1), pp 3, pp 4, pp 12, np, np, np, np, np, np, np, np, np, np, np, np, np, np, np, np, np, np, np, np, np, np, np, np, np, np, np, np, np, np, np, np, np, np, np, np, np, np, np, np, np, np, np, np, np, np, np, np, np, np, np, np, np, np, np, np, np, np, np, np, np, np, (.int .i64 (Int.ofNat 3))] 56 0, 
  .row [(.slice (some ⟨2, 0, none⟩) 1 4611686018427387905), ns] 49 0, 
  .row [u 0, u 0, u 0, u 1, u 1, u 0, u 0, u 0, u 0, u 0, u 0, u 0, u 0, u 0, u 0, u 0, u 0, u 0, u 0, u 0, u 0, u 0, u 0, u 0, (bs [1])] 119 25, 
  .row [ns, (.int .i64 (Int.ofNat 0)), (.int .i64 (Int.ofNat 0))] 96 0, 
  .row [pp 5, (.int .i64 (Int.ofNat 0)), ns] 64 0, 
  .row [(.iface 60 (pp 6)), (.map (some 8)), (.slice (some ⟨9, 0, none⟩) 1 4611686018427387905), (.slice (some ⟨10, 0, none⟩) 1 4611686018427387905)] 82 0, 
  .row [(.slice (some ⟨7, 0, none⟩) 1 4611686018427387905)] 98 0, 
  .row [u 0, u 0, u 0, u 1, u 1, u 0, u 0, u 0, u 0, u 0, u 0, u 0, u 0, u 0, u 0, u 0, u 0, u 0, u 0, u 0, u 0, u 0, u 0, u 0, (bs [1])] 119 25, .map [{ key := (.agg #[u 0, u 0, u 0, u 2, u 1, u 0, u 0, u 0, u 0, u 0, u 0, u 0, u 0, u 0, u 0, u 0, u 0, u 0, u 0, u 0, u 0, u 0, u 0, u 0]), val := (.agg #[u 0, u 0, u 0, u 2, u 1, u 0, u 0, u 0, u 0, u 0, u 0, u 0, u 0, u 0, u 0, u 0, u 0, u 0, u 0, u 0, u 0, u 0, u 0, u 0, (bs [2, 0, 0, 0, 1, 0, 0, 0, 0]), (.bool false)]), born := 0 },
  { key := (.agg #[u 0, u 0, u 0, u 1, u 2, u 97, u 0, u 0, u 0, u 0, u 0, u 0, u 0, u 0, u 0, u 0, u 0, u 0, u 0, u 0, u 0, u 0, u 0, u 1]), val := (.agg #[u 0, u 0, u 0, u 1, u 2, u 97, u 0, u 0, u 0, u 0, u 0, u 0, u 0, u 0, u 0, u 0, u 0, u 0, u 0, u 0, u 0, u 0, u 0, u 1, (bs [0, 0, 0, 2]), (.bool false)]), born := 1 }] 2, 
  .row [u 0, u 0, u 0, u 1, u 2, u 97, u 0, u 0, u 0, u 0, u 0, u 0, u 0, u 0, u 0, u 0, u 0, u 0, u 0, u 0, u 0, u 0, u 0, u 1, u 0, u 0, u 0, u 1, u 2, u 97, u 0, u 0, u 0, u 0, u 0, u 0, u 0, u 0, u 0, u 0, u 0, u 0, u 0, u 0, u 0, u 0, u 0, u 2, (.bool false)] 102 49, 
  .row [(.map (some 11))] 79 1, .map [] 0, 
  .row [pp 13, (.int .i64 (Int.ofNat 0)), ns] 64 0, 
  .row [(.iface 60 (pp 14)), (.map (some 16)), ns, ns] 82 0, 
  .row [(.slice (some ⟨15, 0, none⟩) 1 4611686018427387905)] 98 0, 
  .row [u 0, u 0, u 0, u 1, u 1, u 0, u 0, u 0, u 0, u 0, u 0, u 0, u 0, u 0, u 0, u 0, u 0, u 0, u 0, u 0, u 0, u 0, u 0, u 0, (bs [1])] 119 25, .map [] 0],
  [⟨(.agg #[(.int .i64 (Int.ofNat 0)), (bs []), ns, (.bool false), (.int .i64 (Int.ofNat 0)), (.int .i64 (Int.ofNat 0))]), [some (
  .row [(.slice (some ⟨1, 0, none⟩) 1 1), pp 3, pp 4, pp 12, np, np, np, np, np, np, np, np, np, np, np, np, np, np, np, np, np, np, np, np, np, np, np, np, np, np, np, np, np, np, np, np, np, np, np, np, np, np, np, np, np, np, np, np, np, np, np, np, np, np, np, np, np, np, np, np, np, np, np, np, np, np, (.int .i64 (Int.ofNat 4))] 56 0), some (
  .row [(.slice (some ⟨2, 0, none⟩) 1 4611686018427387905), ns] 49 0), some (
  .row [u 0, u 0, u 0, u 1, u 1, u 0, u 0, u 0, u 0, u 0, u 0, u 0, u 0, u 0, u 0, u 0, u 0, u 0, u 0, u 0, u 0, u 0, u 0, u 0, (bs [1])] 119 25), some (
  .row [ns, (.int .i64 (Int.ofNat 0)), (.int .i64 (Int.ofNat 0))] 96 0), some (
  .row [pp 5, (.int .i64 (Int.ofNat 0)), ns] 64 0), some (
  .row [(.iface 60 (pp 6)), (.map (some 8)), (.slice (some ⟨9, 0, none⟩) 1 4611686018427387905), (.slice (some ⟨10, 0, none⟩) 1 4611686018427387905)] 82 0), some (
  .row [(.slice (some ⟨7, 0, none⟩) 1 4611686018427387905)] 98 0), some (
  .row [u 0, u 0, u 0, u 1, u 1, u 0, u 0, u 0, u 0, u 0, u 0, u 0, u 0, u 0, u 0, u 0, u 0, u 0, u 0, u 0, u 0, u 0, u 0, u 0, (bs [1])] 119 25), some (.map [{ key := (.agg #[u 0, u 0, u 0, u 2, u 1, u 0, u 0, u 0, u 0, u 0, u 0, u 0, u 0, u 0, u 0, u 0, u 0, u 0, u 0, u 0, u 0, u 0, u 0, u 0]), val := (.agg #[u 0, u 0, u 0, u 2, u 1, u 0, u 0, u 0, u 0, u 0, u 0, u 0, u 0, u 0, u 0, u 0, u 0, u 0, u 0, u 0, u 0, u 0, u 0, u 0, (bs [2, 0, 0, 0, 1, 0, 0, 0, 0]), (.bool false)]), born := 0 },
  { key := (.agg #[u 0, u 0, u 0, u 1, u 2, u 97, u 0, u 0, u 0, u 0, u 0, u 0, u 0, u 0, u 0, u 0, u 0, u 0, u 0, u 0, u 0, u 0, u 0, u 1]), val := (.agg #[u 0, u 0, u 0, u 1, u 2, u 97, u 0, u 0, u 0, u 0, u 0, u 0, u 0, u 0, u 0, u 0, u 0, u 0, u 0, u 0, u 0, u 0, u 0, u 1, (bs [0, 0, 0, 2]), (.bool false)]), born := 1 }] 2), some (
  .row [u 0, u 0, u 0, u 1, u 2, u 97, u 0, u 0, u 0, u 0, u 0, u 0, u 0, u 0, u 0, u 0, u 0, u 0, u 0, u 0, u 0, u 0, u 0, u 1, u 0, u 0, u 0, u 1, u 2, u 97, u 0, u 0, u 0, u 0, u 0, u 0, u 0, u 0, u 0, u 0, u 0, u 0, u 0, u 0, u 0, u 0, u 0, u 2, (.bool false)] 102 49), some (
  .row [(.map (some 11))] 79 1), some (.map [] 0), some (
  .row [pp 13, (.int .i64 (Int.ofNat 0)), ns] 64 0), some (
  .row [(.iface 60 (pp 14)), (.map (some 16)), (.slice (some ⟨17, 0, none⟩) 1 4611686018427387905), (.slice (some ⟨18, 0, none⟩) 1 4611686018427387905)] 82 0), some (
  .row [(.slice (some ⟨15, 0, none⟩) 1 4611686018427387905)] 98 0), some (
  .row [u 0, u 0, u 0, u 1, u 1, u 0, u 0, u 0, u 0, u 0, u 0, u 0, u 0, u 0, u 0, u 0, u 0, u 0, u 0, u 0, u 0, u 0, u 0, u 0, (bs [1])] 119 25), some (.map [{ key := (.agg #[u 0, u 0, u 0, u 3, u 1, u 0, u 0, u 0, u 0, u 0, u 0, u 0, u 0, u 0, u 0, u 0, u 0, u 0, u 0, u 0, u 0, u 0, u 0, u 0]), val := (.agg #[u 0, u 0, u 0, u 3, u 1, u 0, u 0, u 0, u 0, u 0, u 0, u 0, u 0, u 0, u 0, u 0, u 0, u 0, u 0, u 0, u 0, u 0, u 0, u 0, (bs [2, 0, 0, 0, 1, 0, 0, 0, 0]), (.bool false)]), born := 0 },
  { key := (.agg #[u 0, u 0, u 0, u 1, u 2, u 98, u 0, u 0, u 0, u 0, u 0, u 0, u 0, u 0, u 0, u 0, u 0, u 0, u 0, u 0, u 0, u 0, u 0, u 1]), val := (.agg #[u 0, u 0, u 0, u 1, u 2, u 98, u 0, u 0, u 0, u 0, u 0, u 0, u 0, u 0, u 0, u 0, u 0, u 0, u 0, u 0, u 0, u 0, u 0, u 1, (bs [0, 0, 0, 3]), (.bool false)]), born := 1 }] 2)],
  [
  .row [u 0, u 0, u 0, u 1, u 2, u 98, u 0, u 0, u 0, u 0, u 0, u 0, u 0, u 0, u 0, u 0, u 0, u 0, u 0, u 0, u 0, u 0, u 0, u 1, u 0, u 0, u 0, u 1, u 2, u 98, u 0, u 0, u 0, u 0, u 0, u 0, u 0, u 0, u 0, u 0, u 0, u 0, u 0, u 0, u 0, u 0, u 0, u 2, (.bool false)] 102 49, 
  .row [(.map (some 19))] 79 1, .map [] 0]⟩]⟩
def memoC1 : Memo := ⟨9, [pp 0, (.int .i64 (Int.ofNat 0))],
  [
  .row [(.slice (some ⟨1, 0, none⟩) 1 1), pp 3, pp 4, pp 12, np, np, np, np, np, np, np, np, np, np, np, np, np, np, np, np, np, np, np, np, np, np, np, np, np, np, np, np, np, np, np, np, np, np, np, np, np, np, np, np, np, np, np, np, np, np, np, np, np, np, np, np, np, np, np, np, np, np, np, np, np, np, (.int .i64 (Int.ofNat 4))] 56 0, 
  .row [(.slice (some ⟨2, 0, none⟩) 1 4611686018427387905), ns] 49 0, 
  .row [u 0, u 0, u 0, u 1, u 1, u 0, u 0, u 0, u 0, u 0, u 0, u 0, u 0, u 0, u 0, u 0, u 0, u 0, u 0, u 0, u 0, u 0, u 0, u 0, (bs [1])] 119 25, 
  .row [ns, (.int .i64 (Int.ofNat 0)), (.int .i64 (Int.ofNat 0))] 96 0, 
  .row [pp 5, (.int .i64 (Int.ofNat 0)), ns] 64 0, 
  .row [(.iface 60 (pp 6)), (.map (some 8)), (.slice (some ⟨9, 0, none⟩) 1 4611686018427387905), (.slice (some ⟨10, 0, none⟩) 1 4611686018427387905)] 82 0, 
  .row [(.slice (some ⟨7, 0, none⟩) 1 4611686018427387905)] 98 0, 
  .row [u 0, u 0, u 0, u 1, u 1, u 0, u 0, u 0, u 0, u 0, u 0, u 0, u 0, u 0, u 0, u 0, u 0, u 0, u 0, u 0, u 0, u 0, u 0, u 0, (bs [1])] 119 25, .map [{ key := (.agg #[u 0, u 0, u 0, u 2, u 1, u 0, u 0, u 0, u 0, u 0, u 0, u 0, u 0, u 0, u 0, u 0, u 0, u 0, u 0, u 0, u 0, u 0, u 0, u 0]), val := (.agg #[u 0, u 0, u 0, u 2, u 1, u 0, u 0, u 0, u 0, u 0, u 0, u 0, u 0, u 0, u 0, u 0, u 0, u 0, u 0, u 0, u 0, u 0, u 0, u 0, (bs [2, 0, 0, 0, 1, 0, 0, 0, 0]), (.bool false)]), born := 0 },
  { key := (.agg #[u 0, u 0, u 0, u 1, u 2, u 97, u 0, u 0, u 0, u 0, u 0, u 0, u 0, u 0, u 0, u 0, u 0, u 0, u 0, u 0, u 0, u 0, u 0, u 1]), val := (.agg #[u 0, u 0, u 0, u 1, u 2, u 97, u 0, u 0, u 0, u 0, u 0, u 0, u 0, u 0, u 0, u 0, u 0, u 0, u 0, u 0, u 0, u 0, u 0, u 1, (bs [0, 0, 0, 2]), (.bool false)]), born := 1 }] 2, 
  .row [u 0, u 0, u 0, u 1, u 2, u 97, u 0, u 0, u 0, u 0, u 0, u 0, u 0, u 0, u 0, u 0, u 0, u 0, u 0, u 0, u 0, u 0, u 0, u 1, u 0, u 0, u 0, u 1, u 2, u 97, u 0, u 0, u 0, u 0, u 0, u 0, u 0, u 0, u 0, u 0, u 0, u 0, u 0, u 0, u 0, u 0, u 0, u 2, (.bool false)] 102 49, 
  .row [(.map (some 11))] 79 1, .map [] 0, 
  .row [pp 13, (.int .i64 (Int.ofNat 0)), ns] 64 0, 
  .row [(.iface 60 (pp 14)), (.map (some 16)), (.slice (some ⟨17, 0, none⟩) 1 4611686018427387905), (.slice (some ⟨18, 0, none⟩) 1 4611686018427387905)] 82 0, 
  .row [(.slice (some ⟨15, 0, none⟩) 1 4611686018427387905)] 98 0, 
  .row [u 0, u 0, u 0, u 1, u 1, u 0, u 0, u 0, u 0, u 0, u 0, u 0, u 0, u 0, u 0, u 0, u 0, u 0, u 0, u 0, u 0, u 0, u 0, u 0, (bs [1])] 119 25, .map [{ key := (.agg #[u 0, u 0, u 0, u 3, u 1, u 0, u 0, u 0, u 0, u 0, u 0, u 0, u 0, u 0, u 0, u 0, u 0, u 0, u 0, u 0, u 0, u 0, u 0, u 0]), val := (.agg #[u 0, u 0, u 0, u 3, u 1, u 0, u 0, u 0, u 0, u 0, u 0, u 0, u 0, u 0, u 0, u 0, u 0, u 0, u 0, u 0, u 0, u 0, u 0, u 0, (bs [2, 0, 0, 0, 1, 0, 0, 0, 0]), (.bool false)]), born := 0 },
  { key := (.agg #[u 0, u 0, u 0, u 1, u 2, u 98, u 0, u 0, u 0, u 0, u 0, u 0, u 0, u 0, u 0, u 0, u 0, u 0, u 0, u 0, u 0, u 0, u 0, u 1]), val := (.agg #[u 0, u 0, u 0, u 1, u 2, u 98, u 0, u 0, u 0, u 0, u 0, u 0, u 0, u 0, u 0, u 0, u 0, u 0, u 0, u 0, u 0, u 0, u 0, u 1, (bs [0, 0, 0, 3]), (.bool false)]), born := 1 }] 2, 
  .row [u 0, u 0, u 0, u 1, u 2, u 98, u 0, u 0, u 0, u 0, u 0, u 0, u 0, u 0, u 0, u 0, u 0, u 0, u 0, u 0, u 0, u 0, u 0, u 1, u 0, u 0, u 0, u 1, u 2, u 98, u 0, u 0, u 0, u 0, u 0, u 0, u 0, u 0, u 0, u 0, u 0, u 0, u 0, u 0, u 0, u 0, u 0, u 2, (.bool false)] 102 49, 
  .row [(.map (some 19))] 79 1, .map [] 0],
  [⟨(.tuple #[(.int .i64 (Int.ofNat 1)), (.int .i64 (Int.ofNat 0))]), [some (
  .row [(.slice (some ⟨20, 0, none⟩) 2 4611686018427387906), pp 3, np, pp 12, np, np, np, np, np, np, np, np, np, np, np, np, np, np, np, np, np, np, np, np, np, np, np, np, np, np, np, np, np, np, np, np, np, np, np, np, np, np, np, np, np, np, np, np, np, np, np, np, np, np, np, np, np, np, np, np, np, np, np, np, np, np, (.int .i64 (Int.ofNat 4))] 56 0), some (
  .row [(.slice (some ⟨2, 0, none⟩) 1 4611686018427387905), ns] 49 0), some (
  .row [u 0, u 0, u 0, u 1, u 1, u 0, u 0, u 0, u 0, u 0, u 0, u 0, u 0, u 0, u 0, u 0, u 0, u 0, u 0, u 0, u 0, u 0, u 0, u 0, (bs [1])] 119 25), some (
  .row [(.slice (some ⟨23, 0, none⟩) 1 4611686018427387905), (.int .i64 (Int.ofNat 1)), (.int .i64 (Int.ofNat 0))] 96 0), some (
  .row [pp 5, (.int .i64 (Int.ofNat 0)), ns] 64 0), some (
  .row [(.iface 60 (pp 6)), (.map (some 8)), (.slice (some ⟨9, 0, none⟩) 1 4611686018427387905), (.slice (some ⟨10, 0, none⟩) 1 4611686018427387905)] 82 0), some (
  .row [(.slice (some ⟨7, 0, none⟩) 1 4611686018427387905)] 98 0), some (
  .row [u 0, u 0, u 0, u 1, u 1, u 0, u 0, u 0, u 0, u 0, u 0, u 0, u 0, u 0, u 0, u 0, u 0, u 0, u 0, u 0, u 0, u 0, u 0, u 0, (bs [1])] 119 25), some (.map [{ key := (.agg #[u 0, u 0, u 0, u 2, u 1, u 0, u 0, u 0, u 0, u 0, u 0, u 0, u 0, u 0, u 0, u 0, u 0, u 0, u 0, u 0, u 0, u 0, u 0, u 0]), val := (.agg #[u 0, u 0, u 0, u 2, u 1, u 0, u 0, u 0, u 0, u 0, u 0, u 0, u 0, u 0, u 0, u 0, u 0, u 0, u 0, u 0, u 0, u 0, u 0, u 0, (bs [2, 0, 0, 0, 1, 0, 0, 0, 0]), (.bool false)]), born := 0 },
  { key := (.agg #[u 0, u 0, u 0, u 1, u 2, u 97, u 0, u 0, u 0, u 0, u 0, u 0, u 0, u 0, u 0, u 0, u 0, u 0, u 0, u 0, u 0, u 0, u 0, u 1]), val := (.agg #[u 0, u 0, u 0, u 1, u 2, u 97, u 0, u 0, u 0, u 0, u 0, u 0, u 0, u 0, u 0, u 0, u 0, u 0, u 0, u 0, u 0, u 0, u 0, u 1, (bs [0, 0, 0, 2]), (.bool false)]), born := 1 }] 2), some (
  .row [u 0, u 0, u 0, u 1, u 2, u 97, u 0, u 0, u 0, u 0, u 0, u 0, u 0, u 0, u 0, u 0, u 0, u 0, u 0, u 0, u 0, u 0, u 0, u 1, u 0, u 0, u 0, u 1, u 2, u 97, u 0, u 0, u 0, u 0, u 0, u 0, u 0, u 0, u 0, u 0, u 0, u 0, u 0, u 0, u 0, u 0, u 0, u 2, (.bool false)] 102 49), some (
  .row [(.map (some 11))] 79 1), some (.map [] 0), some (
  .row [pp 13, (.int .i64 (Int.ofNat 0)), ns] 64 0), some (
  .row [(.iface 60 (pp 14)), (.map (some 16)), (.slice (some ⟨17, 0, none⟩) 1 4611686018427387905), (.slice (some ⟨18, 0, none⟩) 1 4611686018427387905)] 82 0), some (
  .row [(.slice (some ⟨15, 0, none⟩) 1 4611686018427387905)] 98 0), some (
  .row [u 0, u 0, u 0, u 1, u 1, u 0, u 0, u 0, u 0, u 0, u 0, u 0, u 0, u 0, u 0, u 0, u 0, u 0, u 0, u 0, u 0, u 0, u 0, u 0, (bs [1])] 119 25), some (.map [{ key := (.agg #[u 0, u 0, u 0, u 3, u 1, u 0, u 0, u 0, u 0, u 0, u 0, u 0, u 0, u 0, u 0, u 0, u 0, u 0, u 0, u 0, u 0, u 0, u 0, u 0]), val := (.agg #[u 0, u 0, u 0, u 3, u 1, u 0, u 0, u 0, u 0, u 0, u 0, u 0, u 0, u 0, u 0, u 0, u 0, u 0, u 0, u 0, u 0, u 0, u 0, u 0, (bs [2, 0, 0, 0, 1, 0, 0, 0, 0]), (.bool false)]), born := 0 },
  { key := (.agg #[u 0, u 0, u 0, u 1, u 2, u 98, u 0, u 0, u 0, u 0, u 0, u 0, u 0, u 0, u 0, u 0, u 0, u 0, u 0, u 0, u 0, u 0, u 0, u 1]), val := (.agg #[u 0, u 0, u 0, u 1, u 2, u 98, u 0, u 0, u 0, u 0, u 0, u 0, u 0, u 0, u 0, u 0, u 0, u 0, u 0, u 0, u 0, u 0, u 0, u 1, (bs [0, 0, 0, 3]), (.bool false)]), born := 1 }] 2), some (
  .row [u 0, u 0, u 0, u 1, u 2, u 98, u 0, u 0, u 0, u 0, u 0, u 0, u 0, u 0, u 0, u 0, u 0, u 0, u 0, u 0, u 0, u 0, u 0, u 1, u 0, u 0, u 0, u 1, u 2, u 98, u 0, u 0, u 0, u 0, u 0, u 0, u 0, u 0, u 0, u 0, u 0, u 0, u 0, u 0, u 0, u 0, u 0, u 2, (.bool false)] 102 49), some (
  .row [(.map (some 19))] 79 1), some (.map [] 0)],
  [
  .row [(.slice (some ⟨2, 0, none⟩) 1 4611686018427387905), ns, (.slice (some ⟨21, 0, none⟩) 3 4611686018427387907), (.slice (some ⟨22, 0, none⟩) 2 4611686018427387906)] 49 2, 
  .row [u 0, u 0, u 0, u 1, u 1, u 0, u 0, u 0, u 0, u 0, u 0, u 0, u 0, u 0, u 0, u 0, u 0, u 0, u 0, u 0, u 0, u 0, u 0, u 0, (bs [1]), u 0, u 0, u 0, u 1, u 2, u 97, u 0, u 0, u 0, u 0, u 0, u 0, u 0, u 0, u 0, u 0, u 0, u 0, u 0, u 0, u 0, u 0, u 0, u 1, (bs [0, 0, 0, 2]), u 0, u 0, u 0, u 2, u 1, u 0, u 0, u 0, u 0, u 0, u 0, u 0, u 0, u 0, u 0, u 0, u 0, u 0, u 0, u 0, u 0, u 0, u 0, u 0, (bs [2, 0, 0, 0, 1, 0, 0, 0, 0])] 119 25, 
  .row [u 0, u 0, u 0, u 1, u 2, u 97, u 0, u 0, u 0, u 0, u 0, u 0, u 0, u 0, u 0, u 0, u 0, u 0, u 0, u 0, u 0, u 0, u 0, u 1, u 0, u 0, u 0, u 2, u 1, u 0, u 0, u 0, u 0, u 0, u 0, u 0, u 0, u 0, u 0, u 0, u 0, u 0, u 0, u 0, u 0, u 0, u 0, u 0] 70 24, 
  .row [(.int .i64 (Int.ofNat 1)), (.slice (some ⟨24, 0, none⟩) 2 4611686018427387906)] 100 2, 
  .row [u 0, u 0, u 0, u 1, u 2, u 97, u 0, u 0, u 0, u 0, u 0, u 0, u 0, u 0, u 0, u 0, u 0, u 0, u 0, u 0, u 0, u 0, u 0, u 1, u 0, u 0, u 0, u 2, u 1, u 0, u 0, u 0, u 0, u 0, u 0, u 0, u 0, u 0, u 0, u 0, u 0, u 0, u 0, u 0, u 0, u 0, u 0, u 0] 70 24]⟩]⟩
def memoC2 : Memo := ⟨9, [pp 0, (.int .i64 (Int.ofNat 1))],
  [
  .row [(.slice (some ⟨1, 0, none⟩) 2 4611686018427387906), pp 5, np, pp 8, np, np, np, np, np, np, np, np, np, np, np, np, np, np, np, np, np, np, np, np, np, np, np, np, np, np, np, np, np, np, np, np, np, np, np, np, np, np, np, np, np, np, np, np, np, np, np, np, np, np, np, np, np, np, np, np, np, np, np, np, np, np, (.int .i64 (Int.ofNat 4))] 56 0, 
  .row [(.slice (some ⟨2, 0, none⟩) 1 4611686018427387905), ns, (.slice (some ⟨3, 0, none⟩) 3 4611686018427387907), (.slice (some ⟨4, 0, none⟩) 2 4611686018427387906)] 49 2, 
  .row [u 0, u 0, u 0, u 1, u 1, u 0, u 0, u 0, u 0, u 0, u 0, u 0, u 0, u 0, u 0, u 0, u 0, u 0, u 0, u 0, u 0, u 0, u 0, u 0, (bs [1])] 119 25, 
  .row [u 0, u 0, u 0, u 1, u 1, u 0, u 0, u 0, u 0, u 0, u 0, u 0, u 0, u 0, u 0, u 0, u 0, u 0, u 0, u 0, u 0, u 0, u 0, u 0, (bs [1]), u 0, u 0, u 0, u 1, u 2, u 97, u 0, u 0, u 0, u 0, u 0, u 0, u 0, u 0, u 0, u 0, u 0, u 0, u 0, u 0, u 0, u 0, u 0, u 1, (bs [0, 0, 0, 2]), u 0, u 0, u 0, u 2, u 1, u 0, u 0, u 0, u 0, u 0, u 0, u 0, u 0, u 0, u 0, u 0, u 0, u 0, u 0, u 0, u 0, u 0, u 0, u 0, (bs [2, 0, 0, 0, 1, 0, 0, 0, 0])] 119 25, 
  .row [u 0, u 0, u 0, u 1, u 2, u 97, u 0, u 0, u 0, u 0, u 0, u 0, u 0, u 0, u 0, u 0, u 0, u 0, u 0, u 0, u 0, u 0, u 0, u 1, u 0, u 0, u 0, u 2, u 1, u 0, u 0, u 0, u 0, u 0, u 0, u 0, u 0, u 0, u 0, u 0, u 0, u 0, u 0, u 0, u 0, u 0, u 0, u 0] 70 24, 
  .row [(.slice (some ⟨6, 0, none⟩) 1 4611686018427387905), (.int .i64 (Int.ofNat 1)), (.int .i64 (Int.ofNat 0))] 96 0, 
  .row [(.int .i64 (Int.ofNat 1)), (.slice (some ⟨7, 0, none⟩) 2 4611686018427387906)] 100 2, 
  .row [u 0, u 0, u 0, u 1, u 2, u 97, u 0, u 0, u 0, u 0, u 0, u 0, u 0, u 0, u 0, u 0, u 0, u 0, u 0, u 0, u 0, u 0, u 0, u 1, u 0, u 0, u 0, u 2, u 1, u 0, u 0, u 0, u 0, u 0, u 0, u 0, u 0, u 0, u 0, u 0, u 0, u 0, u 0, u 0, u 0, u 0, u 0, u 0] 70 24, 
  .row [pp 9, (.int .i64 (Int.ofNat 0)), ns] 64 0, 
  .row [(.iface 60 (pp 10)), (.map (some 12)), (.slice (some ⟨13, 0, none⟩) 1 4611686018427387905), (.slice (some ⟨14, 0, none⟩) 1 4611686018427387905)] 82 0, 
  .row [(.slice (some ⟨11, 0, none⟩) 1 4611686018427387905)] 98 0, 
  .row [u 0, u 0, u 0, u 1, u 1, u 0, u 0, u 0, u 0, u 0, u 0, u 0, u 0, u 0, u 0, u 0, u 0, u 0, u 0, u 0, u 0, u 0, u 0, u 0, (bs [1])] 119 25, .map [{ key := (.agg #[u 0, u 0, u 0, u 3, u 1, u 0, u 0, u 0, u 0, u 0, u 0, u 0, u 0, u 0, u 0, u 0, u 0, u 0, u 0, u 0, u 0, u 0, u 0, u 0]), val := (.agg #[u 0, u 0, u 0, u 3, u 1, u 0, u 0, u 0, u 0, u 0, u 0, u 0, u 0, u 0, u 0, u 0, u 0, u 0, u 0, u 0, u 0, u 0, u 0, u 0, (bs [2, 0, 0, 0, 1, 0, 0, 0, 0]), (.bool false)]), born := 0 },
  { key := (.agg #[u 0, u 0, u 0, u 1, u 2, u 98, u 0, u 0, u 0, u 0, u 0, u 0, u 0, u 0, u 0, u 0, u 0, u 0, u 0, u 0, u 0, u 0, u 0, u 1]), val := (.agg #[u 0, u 0, u 0, u 1, u 2, u 98, u 0, u 0, u 0, u 0, u 0, u 0, u 0, u 0, u 0, u 0, u 0, u 0, u 0, u 0, u 0, u 0, u 0, u 1, (bs [0, 0, 0, 3]), (.bool false)]), born := 1 }] 2, 
  .row [u 0, u 0, u 0, u 1, u 2, u 98, u 0, u 0, u 0, u 0, u 0, u 0, u 0, u 0, u 0, u 0, u 0, u 0, u 0, u 0, u 0, u 0, u 0, u 1, u 0, u 0, u 0, u 1, u 2, u 98, u 0, u 0, u 0, u 0, u 0, u 0, u 0, u 0, u 0, u 0, u 0, u 0, u 0, u 0, u 0, u 0, u 0, u 2, (.bool false)] 102 49, 
  .row [(.map (some 15))] 79 1, .map [] 0],
  [⟨(.tuple #[(.int .i64 (Int.ofNat 2)), (.int .i64 (Int.ofNat 0))]), [some (
  .row [(.slice (some ⟨16, 0, none⟩) 3 4611686018427387907), pp 5, np, np, np, np, np, np, np, np, np, np, np, np, np, np, np, np, np, np, np, np, np, np, np, np, np, np, np, np, np, np, np, np, np, np, np, np, np, np, np, np, np, np, np, np, np, np, np, np, np, np, np, np, np, np, np, np, np, np, np, np, np, np, np, np, (.int .i64 (Int.ofNat 4))] 56 0), none, some (
  .row [u 0, u 0, u 0, u 1, u 1, u 0, u 0, u 0, u 0, u 0, u 0, u 0, u 0, u 0, u 0, u 0, u 0, u 0, u 0, u 0, u 0, u 0, u 0, u 0, (bs [1])] 119 25), some (
  .row [u 0, u 0, u 0, u 1, u 1, u 0, u 0, u 0, u 0, u 0, u 0, u 0, u 0, u 0, u 0, u 0, u 0, u 0, u 0, u 0, u 0, u 0, u 0, u 0, (bs [1]), u 0, u 0, u 0, u 1, u 2, u 97, u 0, u 0, u 0, u 0, u 0, u 0, u 0, u 0, u 0, u 0, u 0, u 0, u 0, u 0, u 0, u 0, u 0, u 1, (bs [0, 0, 0, 2]), u 0, u 0, u 0, u 2, u 1, u 0, u 0, u 0, u 0, u 0, u 0, u 0, u 0, u 0, u 0, u 0, u 0, u 0, u 0, u 0, u 0, u 0, u 0, u 0, (bs [2, 0, 0, 0, 1, 0, 0, 0, 0])] 119 25), some (
  .row [u 0, u 0, u 0, u 1, u 2, u 97, u 0, u 0, u 0, u 0, u 0, u 0, u 0, u 0, u 0, u 0, u 0, u 0, u 0, u 0, u 0, u 0, u 0, u 1, u 0, u 0, u 0, u 2, u 1, u 0, u 0, u 0, u 0, u 0, u 0, u 0, u 0, u 0, u 0, u 0, u 0, u 0, u 0, u 0, u 0, u 0, u 0, u 0] 70 24), some (
  .row [(.slice (some ⟨19, 0, none⟩) 2 4611686018427387906), (.int .i64 (Int.ofNat 2)), (.int .i64 (Int.ofNat 0))] 96 0), none, some (
  .row [u 0, u 0, u 0, u 1, u 2, u 97, u 0, u 0, u 0, u 0, u 0, u 0, u 0, u 0, u 0, u 0, u 0, u 0, u 0, u 0, u 0, u 0, u 0, u 1, u 0, u 0, u 0, u 2, u 1, u 0, u 0, u 0, u 0, u 0, u 0, u 0, u 0, u 0, u 0, u 0, u 0, u 0, u 0, u 0, u 0, u 0, u 0, u 0] 70 24), some (
  .row [pp 9, (.int .i64 (Int.ofNat 0)), ns] 64 0), some (
  .row [(.iface 60 (pp 10)), (.map (some 12)), (.slice (some ⟨13, 0, none⟩) 1 4611686018427387905), (.slice (some ⟨14, 0, none⟩) 1 4611686018427387905)] 82 0), some (
  .row [(.slice (some ⟨11, 0, none⟩) 1 4611686018427387905)] 98 0), some (
  .row [u 0, u 0, u 0, u 1, u 1, u 0, u 0, u 0, u 0, u 0, u 0, u 0, u 0, u 0, u 0, u 0, u 0, u 0, u 0, u 0, u 0, u 0, u 0, u 0, (bs [1])] 119 25), some (.map [{ key := (.agg #[u 0, u 0, u 0, u 3, u 1, u 0, u 0, u 0, u 0, u 0, u 0, u 0, u 0, u 0, u 0, u 0, u 0, u 0, u 0, u 0, u 0, u 0, u 0, u 0]), val := (.agg #[u 0, u 0, u 0, u 3, u 1, u 0, u 0, u 0, u 0, u 0, u 0, u 0, u 0, u 0, u 0, u 0, u 0, u 0, u 0, u 0, u 0, u 0, u 0, u 0, (bs [2, 0, 0, 0, 1, 0, 0, 0, 0]), (.bool false)]), born := 0 },
  { key := (.agg #[u 0, u 0, u 0, u 1, u 2, u 98, u 0, u 0, u 0, u 0, u 0, u 0, u 0, u 0, u 0, u 0, u 0, u 0, u 0, u 0, u 0, u 0, u 0, u 1]), val := (.agg #[u 0, u 0, u 0, u 1, u 2, u 98, u 0, u 0, u 0, u 0, u 0, u 0, u 0, u 0, u 0, u 0, u 0, u 0, u 0, u 0, u 0, u 0, u 0, u 1, (bs [0, 0, 0, 3]), (.bool false)]), born := 1 }] 2), some (
  .row [u 0, u 0, u 0, u 1, u 2, u 98, u 0, u 0, u 0, u 0, u 0, u 0, u 0, u 0, u 0, u 0, u 0, u 0, u 0, u 0, u 0, u 0, u 0, u 1, u 0, u 0, u 0, u 1, u 2, u 98, u 0, u 0, u 0, u 0, u 0, u 0, u 0, u 0, u 0, u 0, u 0, u 0, u 0, u 0, u 0, u 0, u 0, u 2, (.bool false)] 102 49), some (
  .row [(.map (some 15))] 79 1), some (.map [] 0)],
  [
  .row [(.slice (some ⟨2, 0, none⟩) 1 4611686018427387905), ns, (.slice (some ⟨3, 0, none⟩) 3 4611686018427387907), (.slice (some ⟨4, 0, none⟩) 2 4611686018427387906), (.slice (some ⟨17, 0, none⟩) 5 4611686018427387909), (.slice (some ⟨18, 0, none⟩) 2 4611686018427387906)] 49 2, 
  .row [u 0, u 0, u 0, u 1, u 1, u 0, u 0, u 0, u 0, u 0, u 0, u 0, u 0, u 0, u 0, u 0, u 0, u 0, u 0, u 0, u 0, u 0, u 0, u 0, (bs [1]), u 0, u 0, u 0, u 1, u 2, u 97, u 0, u 0, u 0, u 0, u 0, u 0, u 0, u 0, u 0, u 0, u 0, u 0, u 0, u 0, u 0, u 0, u 0, u 1, (bs [0, 0, 0, 2]), u 0, u 0, u 0, u 1, u 2, u 98, u 0, u 0, u 0, u 0, u 0, u 0, u 0, u 0, u 0, u 0, u 0, u 0, u 0, u 0, u 0, u 0, u 0, u 1, (bs [0, 0, 0, 3]), u 0, u 0, u 0, u 2, u 1, u 0, u 0, u 0, u 0, u 0, u 0, u 0, u 0, u 0, u 0, u 0, u 0, u 0, u 0, u 0, u 0, u 0, u 0, u 0, (bs [2, 0, 0, 0, 1, 0, 0, 0, 0]), u 0, u 0, u 0, u 3, u 1, u 0, u 0, u 0, u 0, u 0, u 0, u 0, u 0, u 0, u 0, u 0, u 0, u 0, u 0, u 0, u 0, u 0, u 0, u 0, (bs [2, 0, 0, 0, 1, 0, 0, 0, 0])] 119 25, 
  .row [u 0, u 0, u 0, u 1, u 2, u 98, u 0, u 0, u 0, u 0, u 0, u 0, u 0, u 0, u 0, u 0, u 0, u 0, u 0, u 0, u 0, u 0, u 0, u 1, u 0, u 0, u 0, u 3, u 1, u 0, u 0, u 0, u 0, u 0, u 0, u 0, u 0, u 0, u 0, u 0, u 0, u 0, u 0, u 0, u 0, u 0, u 0, u 0] 70 24, 
  .row [(.int .i64 (Int.ofNat 1)), (.slice (some ⟨7, 0, none⟩) 2 4611686018427387906), (.int .i64 (Int.ofNat 2)), (.slice (some ⟨20, 0, none⟩) 2 4611686018427387906)] 100 2, 
  .row [u 0, u 0, u 0, u 1, u 2, u 98, u 0, u 0, u 0, u 0, u 0, u 0, u 0, u 0, u 0, u 0, u 0, u 0, u 0, u 0, u 0, u 0, u 0, u 1, u 0, u 0, u 0, u 3, u 1, u 0, u 0, u 0, u 0, u 0, u 0, u 0, u 0, u 0, u 0, u 0, u 0, u 0, u 0, u 0, u 0, u 0, u 0, u 0] 70 24]⟩]⟩
end Ev
end Go.Proofs.YthckkbhjocjmkaaGreatDoor
