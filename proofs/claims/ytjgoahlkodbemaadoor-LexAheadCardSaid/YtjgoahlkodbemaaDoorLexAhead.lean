/-
  LexAhead answers true for every text: where lex.Tokens tells a byte that begins no token, what stands ahead of it is cut without an error, and from that place on the same error stands at the beginning.
  Conditions: none beyond those of the card.
-/
import Derived.Test.YtjgoahlkodbemaaDoorPlain
import Derived.Test.YtjgoahlkodbemaaDoorRow
namespace Go.Proofs.YtjgoahlkodbemaaDoor
open Go.Eng

theorem lexAhead_holds : Rows.LexAheadCardSaid := L05.card5 fun l h => L05.lexAhead l h

end Go.Proofs.YtjgoahlkodbemaaDoor
