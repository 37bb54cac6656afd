/- The provider: law 4's table, joined to the program. -/
import Derived.Test.YtpeaphpibnikcaaP1
import Derived.Test.YtpeaphpibnikcaaVF
