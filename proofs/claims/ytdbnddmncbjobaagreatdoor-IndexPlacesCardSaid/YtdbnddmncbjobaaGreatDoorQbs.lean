/- The law IndexPlaces, in the order of the door's arguments. -/
import Derived.Test.YtdbnddmncbjobaaGreatDoorQbr
namespace Go.Proofs.YtdbnddmncbjobaaGreatDoor
open Go Go.RowKit

theorem places_all (A A' : Option Addr) (c c' : Nat) (l l' : List Int) (br tb : Int) (w : World) (h : IL w A c l) (hl : l.length ≤ 9223372036854775807) (h' : IL w A' c' l') (hl' : l'.length ≤ 9223372036854775807) (hbr : -9223372036854775808 ≤ br ∧ br ≤ 9223372036854775807)
    (htb : -9223372036854775808 ≤ tb ∧ tb ≤ 9223372036854775807) (hE : Env w) (hL : EnvW w) :
    Calls Tryz.prog 15 #[.agg #[.slice A l.length c, .slice A' l'.length c', .int .i64 br, .int .i64 tb]] w fun e w' => e = .returned (.bool true) ∧ Ext w w' :=
  places_law A A' c c' l l' br tb w h hl h' hl' htb hbr hE hL
end Go.Proofs.YtdbnddmncbjobaaGreatDoor
