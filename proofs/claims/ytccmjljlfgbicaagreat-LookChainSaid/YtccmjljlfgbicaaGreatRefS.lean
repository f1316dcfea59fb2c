/- The answer's laws for whole structs: see the text of rows. -/
import Derived.Test.YtccmjljlfgbicaaGreatRefE
import Derived.Test.YtccmjljlfgbicaaGreatRow
